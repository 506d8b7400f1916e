/- Small words that every text of this seat uses. -/
import Derived.Below
import Derived.Laws.Strings
namespace Go.Proofs.YtfgglckpfnnaoaaDoor
open Go.RowKit
theorem hid {p : Prop} (h : p) : Hid p := h
theorem ret_int {k : IntKind} {a b : Int} (h : a = b) : Ending.returned (.int k a) = .returned (.int k b) := by rw [h]
theorem ret_bool {a b : Bool} (h : a = b) : Ending.returned (.bool a) = .returned (.bool b) := by rw [h]
theorem ret_string {a b : ByteArray} (h : a = b) : Ending.returned (.string a) = .returned (.string b) := by rw [h]
theorem below_then {a b c : World} (h : Below a.heap.size a b) (k : Below b.heap.size b c) : Below a.heap.size a c := h.trans (k.mono h.size)
theorem ba_toList (x : ByteArray) : x.toList = x.data.toList := ByteArray.toList_eq x
theorem ba_ext {x y : ByteArray} (h : x.data.toList = y.data.toList) : x = y := by
  cases x; cases y; simp at h; rw [h]
theorem bstr_ne {x y : ByteArray} (h : x ≠ y) : (x.toList == y.toList) = false := by
  rw [beq_eq_false_iff_ne, ba_toList, ba_toList]; exact fun e => h (ba_ext e)
theorem bstr_nil {x : ByteArray} (h : x.size = 0) : x.toList = [] := by
  rw [ba_toList]; apply List.length_eq_zero_iff.1; simpa using h
theorem bstr_some {x : ByteArray} (h : x.size ≠ 0) : ¬ x.toList = [] := by
  rw [ba_toList]; intro e; apply h; have := congrArg List.length e; simpa using this
theorem bstr_isEmpty {x : ByteArray} (h : x.size ≠ 0) : x.toList.isEmpty = false := by
  have := bstr_some h; cases hx : x.toList <;> simp_all
end Go.Proofs.YtfgglckpfnnaoaaDoor
