/-
  A part of the proof: Jefe.
-/
import Derived.Test.YtlegohnjbkgclaaDoorSxMac
namespace Go.Mac
open Go Go.Sx Go.Oct Go.Sha
def JEFE : List UInt8 := [74, 101, 102, 101]
def WHAT : List UInt8 := [119, 104, 97, 116, 32, 100, 111, 32, 121, 97, 32, 119, 97, 110, 116, 32, 102, 111, 114, 32, 110, 111, 116, 104, 105, 110, 103, 63]
set_option maxRecDepth 100000 in
theorem jefe : hmacL JEFE WHAT = [91, 220, 193, 70, 191, 96, 117, 78, 106, 4, 36, 38, 8, 149, 117, 199, 90, 0, 63, 8, 157, 39, 57, 131, 157, 236, 88, 185, 100, 236, 56, 67] := by decide +kernel
set_option maxRecDepth 100000 in
theorem jefe0 : hmacL JEFE [] = [146, 53, 152, 202, 109, 100, 175, 42, 93, 186, 121, 220, 208, 33, 168, 160, 254, 92, 95, 85, 117, 25, 173, 170, 240, 173, 83, 45, 69, 6, 221, 48] := by decide +kernel
theorem jefe_ne : hmacL JEFE [] ≠ hmacL JEFE WHAT := by rw [jefe, jefe0]; decide
def HEXJ : List UInt8 := [53, 98, 100, 99, 99, 49, 52, 54, 98, 102, 54, 48, 55, 53, 52, 101, 54, 97, 48, 52, 50, 52, 50, 54, 48, 56, 57, 53, 55, 53, 99, 55, 53, 97, 48, 48, 51, 102, 48, 56, 57, 100, 50, 55, 51, 57, 56, 51, 57, 100, 101, 99, 53, 56, 98, 57, 54, 52, 101, 99, 51, 56, 52, 51]
theorem jefe_hex : hexL (hmacL JEFE WHAT) = HEXJ := by rw [jefe]; decide +kernel
end Go.Mac
