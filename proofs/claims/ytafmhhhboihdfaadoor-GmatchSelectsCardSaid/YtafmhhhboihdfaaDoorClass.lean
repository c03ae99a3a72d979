/-
  Classes of bytes: set.Class: the contract. Conditions: those that each theorem names. Printed by gen_class.py.
-/
import Derived.Test.YtafmhhhboihdfaaDoorClassA
import Derived.Test.YtafmhhhboihdfaaDoorClassB
import Derived.Test.YtafmhhhboihdfaaDoorClassC
import Derived.Test.YtafmhhhboihdfaaDoorClassD
namespace Go.Proofs.YtafmhhhboihdfaaDoor
open Go.RowKit
set_option linter.unusedVariables false
theorem class_any (s : ByteArray) (w : World) (hs : s.size ≤ 9223372036854775807) :
    Calls Tryd.prog 89 #[.string s] w fun e w' => e = .returned (.tuple #[setV ((classS (bl s)).getD 0), .bool (classS (bl s)).isSome]) ∧ Below w.heap.size w w' := by
  by_cases h : (s.toList == [97, 108, 110, 117, 109]) = true
  · exact class_alnum s w hs h
  have h0 : (s.toList == [97, 108, 110, 117, 109]) = false := by simpa using h
  clear h
  by_cases h : (s.toList == [97, 108, 112, 104, 97]) = true
  · exact class_alpha s w hs h
  have h1 : (s.toList == [97, 108, 112, 104, 97]) = false := by simpa using h
  clear h
  by_cases h : (s.toList == [100, 105, 103, 105, 116]) = true
  · exact class_digit s w hs h
  have h2 : (s.toList == [100, 105, 103, 105, 116]) = false := by simpa using h
  clear h
  by_cases h : (s.toList == [117, 112, 112, 101, 114]) = true
  · exact class_upper s w hs h
  have h3 : (s.toList == [117, 112, 112, 101, 114]) = false := by simpa using h
  clear h
  by_cases h : (s.toList == [108, 111, 119, 101, 114]) = true
  · exact class_lower s w hs h
  have h4 : (s.toList == [108, 111, 119, 101, 114]) = false := by simpa using h
  clear h
  by_cases h : (s.toList == [115, 112, 97, 99, 101]) = true
  · exact class_space s w hs h
  have h5 : (s.toList == [115, 112, 97, 99, 101]) = false := by simpa using h
  clear h
  by_cases h : (s.toList == [98, 108, 97, 110, 107]) = true
  · exact class_blank s w hs h
  have h6 : (s.toList == [98, 108, 97, 110, 107]) = false := by simpa using h
  clear h
  by_cases h : (s.toList == [112, 114, 105, 110, 116]) = true
  · exact class_print s w hs h
  have h7 : (s.toList == [112, 114, 105, 110, 116]) = false := by simpa using h
  clear h
  by_cases h : (s.toList == [103, 114, 97, 112, 104]) = true
  · exact class_graph s w hs h
  have h8 : (s.toList == [103, 114, 97, 112, 104]) = false := by simpa using h
  clear h
  by_cases h : (s.toList == [112, 117, 110, 99, 116]) = true
  · exact class_punct s w hs h
  have h9 : (s.toList == [112, 117, 110, 99, 116]) = false := by simpa using h
  clear h
  by_cases h : (s.toList == [99, 110, 116, 114, 108]) = true
  · exact class_cntrl s w hs h
  have h10 : (s.toList == [99, 110, 116, 114, 108]) = false := by simpa using h
  clear h
  by_cases h : (s.toList == [120, 100, 105, 103, 105, 116]) = true
  · exact class_xdigit s w hs h
  have h11 : (s.toList == [120, 100, 105, 103, 105, 116]) = false := by simpa using h
  clear h
  exact class_default s w hs h0 h1 h2 h3 h4 h5 h6 h7 h8 h9 h10 h11
end Go.Proofs.YtafmhhhboihdfaaDoor
