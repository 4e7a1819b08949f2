/- Strings, ordered: what strings.Compare says, in plain words. -/
import Derived.Test.YtnbhdpmhgamjfaaSl
import Derived.Lib.Bytealg
import Derived.Laws.Strings
import Derived.Laws.Cover1
namespace Go.Proofs.Ytnbhdpmhgamjfaa.So
open Go Go.RowKit Hp
set_option linter.unusedVariables false

theorem cb_lt : ∀ (a b : List UInt8), Lib.compareBytes a b < 0 ↔ a < b
  | [], [] => by simp [Lib.compareBytes]
  | [], _ :: _ => by simp [Lib.compareBytes]
  | _ :: _, [] => by simp [Lib.compareBytes]
  | a :: x, b :: y => by
    unfold Lib.compareBytes
    rw [List.cons_lt_cons_iff]
    by_cases h : a < b
    · simp [h]
    · by_cases h2 : b < a
      · have hne : a ≠ b := fun e => by subst e; exact h h2
        simp [h, h2, hne]
      · have he : a = b := UInt8.le_antisymm (UInt8.not_lt.1 h2) (UInt8.not_lt.1 h)
        subst he
        simp only [h, if_false, true_and, false_or]
        exact cb_lt x y
theorem cb_eq : ∀ (a b : List UInt8), Lib.compareBytes a b = 0 ↔ a = b
  | [], [] => by simp [Lib.compareBytes]
  | [], _ :: _ => by simp [Lib.compareBytes]
  | _ :: _, [] => by simp [Lib.compareBytes]
  | a :: x, b :: y => by
    unfold Lib.compareBytes
    by_cases h : a < b
    · have hne : a ≠ b := fun e => by subst e; exact UInt8.lt_irrefl _ h
      simp [h, hne]
    · by_cases h2 : b < a
      · have hne : a ≠ b := fun e => by subst e; exact h h2
        simp [h, h2, hne]
      · have he : a = b := UInt8.le_antisymm (UInt8.not_lt.1 h2) (UInt8.not_lt.1 h)
        subst he
        simp only [h, if_false, List.cons.injEq, true_and]
        exact cb_eq x y
theorem less_lt : ∀ (a b : List UInt8), Op.bytesLess a b = true ↔ a < b
  | [], [] => by simp [Op.bytesLess]
  | [], _ :: _ => by simp [Op.bytesLess]
  | _ :: _, [] => by simp [Op.bytesLess]
  | a :: x, b :: y => by
    unfold Op.bytesLess
    rw [List.cons_lt_cons_iff, Bool.or_eq_true, Bool.and_eq_true, less_lt x y, decide_eq_true_iff, beq_iff_eq]
/-- a stands before b. -/
def slt (a b : ByteArray) : Prop := a.data.toList < b.data.toList
def scmp (a b : ByteArray) : Int := Lib.compareBytes a.data.toList b.data.toList
theorem ba_inj {a b : ByteArray} (h : a.data.toList = b.data.toList) : a = b := by cases a; cases b; simp only [ByteArray.mk.injEq]; exact Array.toList_inj.1 h
theorem tl {a : ByteArray} : a.toList = a.data.toList := Lib.toList_data a
theorem scmp_lt {a b : ByteArray} : scmp a b < 0 ↔ slt a b := cb_lt _ _
theorem scmp_eq {a b : ByteArray} : scmp a b = 0 ↔ a = b := (cb_eq _ _).trans ⟨ba_inj, fun h => by rw [h]⟩
theorem less_iff {a b : ByteArray} : Op.bytesLess a.toList b.toList = true ↔ slt a b := by rw [tl, tl]; exact less_lt _ _
theorem slt_irrefl (a : ByteArray) : ¬ slt a a := List.lt_irrefl _
theorem slt_trans {a b c : ByteArray} (h : slt a b) (k : slt b c) : slt a c := List.lt_trans h k
theorem slt_asymm {a b : ByteArray} (h : slt a b) : ¬ slt b a := fun k => slt_irrefl _ (slt_trans h k)
theorem slt_total {a b : ByteArray} (h : ¬ slt a b) (k : ¬ slt b a) : a = b := ba_inj (List.le_antisymm k h)
instance (a b : ByteArray) : Decidable (slt a b) := inferInstanceAs (Decidable (a.data.toList < b.data.toList))
theorem scmp_neg {a b : ByteArray} : ¬ scmp a b < 0 ↔ ¬ slt a b := not_congr scmp_lt

end Go.Proofs.Ytnbhdpmhgamjfaa.So
