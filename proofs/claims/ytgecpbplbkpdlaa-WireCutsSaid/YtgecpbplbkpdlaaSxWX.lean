/-
  A part of the proof: WX.
-/
import Derived.Test.YtgecpbplbkpdlaaSxWV
import Derived.Test.YtgecpbplbkpdlaaSxOpenS
import Derived.Test.YtgecpbplbkpdlaaChecked
namespace Go.Proofs.Ytgecpbplbkpdlaa
open Go Go.Sx Go.Oct Go.Wire Go.ChangeShapes Go.WideShapes Go.ChangeAt Go.RowKit Go.Joins Go.Deep
set_option linter.unusedVariables false

section
variable {H : Type} {enc : TypeId × Value → H} {w : World} {v : Value} {b0 : Nat} {d : DataW H} {ps : List MemPlace}

theorem cells_int : Try.prog.cellsOf 3 = 1 := by kernel_rfl
theorem cells_str : Try.prog.cellsOf 9 = 1 := by kernel_rfl
theorem cells_op : Try.prog.cellsOf 64 = 3 := by kernel_rfl
theorem cells_tok : Try.prog.cellsOf 66 = 2 := by kernel_rfl
theorem cells_req : Try.prog.cellsOf 25 = 4 := by kernel_rfl
theorem cells_rep : Try.prog.cellsOf 46 = 4 := by kernel_rfl

set_option maxRecDepth 100000 in
theorem opn_req (hval : Value.okWide Try.prog w .any b0 25 v) (hd : DataW.Trod enc Try.prog w 0 (fun _ => true) true 25 v d ps) :
    ∃ (r : ReqV) (a : Option Addr) (l c : Nat) (a' : Option Addr) (l' c' : Nat), v = .agg (reqC r a l c a' l' c').toArray ∧ ReqAt w r a l a' l' := by
  obtain ⟨v0, v1, v2, v3, y0, y1, y2, y3, n, rfl, _, _, h0, h1, h2, h3⟩ := open_agg4 Try.underlying25 (by kernel_rfl) cells_req hval hd
  obtain ⟨k, rfl⟩ := trod_i64 Try.underlying3 h0
  obtain ⟨lab, rfl⟩ := trod_str Try.underlying9 h2
  obtain ⟨a, l, c, ops, rfl, hops⟩ := opn_recs opC (by decide) (fun _ => rfl) Try.underlying22 cells_op (fun n cs' y h => by
    obtain ⟨z0, z1, z2, m, _, hl, g0, g1, g2⟩ := trod_struct3 Try.underlying64 h
    rw [cells_op] at hl
    match cs', hl with
    | [u0, u1, u2], _ =>
      have g0 : DataW.trod enc Try.prog w 0 (fun _ => true) true m 3 (([u0, u1, u2].drop 0).take (Try.prog.cellsOf 3)) = some z0 := g0
      have g1 : DataW.trod enc Try.prog w 0 (fun _ => true) true m 9 (([u0, u1, u2].drop 1).take (Try.prog.cellsOf 9)) = some z1 := g1
      have g2 : DataW.trod enc Try.prog w 0 (fun _ => true) true m 9 (([u0, u1, u2].drop 2).take (Try.prog.cellsOf 9)) = some z2 := g2
      rw [cells_int] at g0
      rw [cells_str] at g1 g2
      obtain ⟨k, rfl⟩ := trod_i64 Try.underlying3 g0
      obtain ⟨x, rfl⟩ := trod_str Try.underlying9 g1
      obtain ⟨y, rfl⟩ := trod_str Try.underlying9 g2
      exact ⟨⟨k, x, y⟩, rfl⟩) h1
  obtain ⟨a', l', c', toks, rfl, htoks⟩ := opn_recs tokC (by decide) (fun _ => rfl) Try.underlying23 cells_tok (fun n cs' y h => by
    obtain ⟨z0, z1, m, _, hl, g0, g1⟩ := trod_struct2 Try.underlying66 h
    rw [cells_tok] at hl
    match cs', hl with
    | [u0, u1], _ =>
      have g0 : DataW.trod enc Try.prog w 0 (fun _ => true) true m 9 (([u0, u1].drop 0).take (Try.prog.cellsOf 9)) = some z0 := g0
      have g1 : DataW.trod enc Try.prog w 0 (fun _ => true) true m 3 (([u0, u1].drop 1).take (Try.prog.cellsOf 3)) = some z1 := g1
      rw [cells_str] at g0
      rw [cells_int] at g1
      obtain ⟨x, rfl⟩ := trod_str Try.underlying9 g0
      obtain ⟨k, rfl⟩ := trod_i64 Try.underlying3 g1
      exact ⟨⟨x, k⟩, rfl⟩) h3
  exact ⟨⟨k, ops, lab, toks⟩, a, l, c, a', l', c', rfl, hops, htoks⟩

set_option maxRecDepth 100000 in
theorem opn_rep (hval : Value.okWide Try.prog w .any b0 46 v) (hd : DataW.Trod enc Try.prog w 0 (fun _ => true) true 46 v d ps) :
    ∃ (r : RepV) (a : Option Addr) (l c : Nat), v = .agg (repC r a l c).toArray ∧ VsAt w a l (strs r.boxes) := by
  obtain ⟨v0, v1, v2, v3, y0, y1, y2, y3, n, rfl, _, _, h0, h1, h2, h3⟩ := open_agg4 Try.underlying46 (by kernel_rfl) cells_rep hval hd
  obtain ⟨e, rfl⟩ := trod_i64 Try.underlying28 h0
  obtain ⟨head, rfl⟩ := trod_str Try.underlying9 h2
  obtain ⟨k, rfl⟩ := trod_i64 Try.underlying3 h3
  obtain ⟨a, l, c, xs, rfl, hx⟩ := opn_texts Try.underlying44 Try.underlying9 cells_str h1
  exact ⟨⟨e, xs, head, k⟩, a, l, c, rfl, hx⟩
end

end Go.Proofs.Ytgecpbplbkpdlaa
