/-
  Short names for laws on lists. No condition.
-/
import Derived.Lib.Hide
namespace Go.Proofs.YtkfoeonggmlebaaGreatDoor
theorem ζh {p : Prop} (h : p) : Go.RowKit.Hid p := Lib.hid h
theorem ζa {α : Type} {l : List α} {i : Nat} : l.toArray[i]? = l[i]? := List.getElem?_toArray
theorem ζb {α : Type} {a : α} {l : List α} : (a :: l)[0]? = some a := List.getElem?_cons_zero
theorem ζc {α : Type} {a : α} {i : Nat} {l : List α} : (a :: l)[i + 1]? = l[i]? := List.getElem?_cons_succ
theorem ζm {α : Type} {l : List α} {i : Nat} {a : α} (e : l[i]? = some a) : a ∈ l := List.mem_of_getElem? e
theorem ζg {α : Type} {l : List α} {i : Nat} (h : i < l.length) : l[i]? = some l[i] := List.getElem?_eq_getElem h
theorem ζi {α : Type} {l : List α} {i : Nat} {a : α} : l[i]? = some a ↔ ∃ h : i < l.length, l[i] = a := List.getElem?_eq_some_iff
end Go.Proofs.YtkfoeonggmlebaaGreatDoor
