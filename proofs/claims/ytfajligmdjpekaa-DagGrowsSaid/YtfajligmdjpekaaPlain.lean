/- The plain laws: what the functions' answers have to do with each other. No program in sight. -/
import Derived.Test.YtfajligmdjpekaaLaws
namespace Go.Proofs.Ytfajligmdjpekaa

theorem there2_mk {l : List (List Int)} (h : right l = true) {a b : Nat} (ha : a < l.length) (hb : b < l.length) : there2 l a b = true := by
  simp [there2, inR, h, ha, hb]
theorem there1_mk {l : List (List Int)} (h : right l = true) {a : Nat} (ha : a < l.length) : there1 l a = true := by
  simp [there1, inR, h, ha]
theorem filter_parts (p q : Nat → Bool) : ∀ xs : List Nat, (xs.filter fun j => p j && !q j).length + (xs.filter fun j => q j && p j).length = (xs.filter p).length
  | [] => rfl
  | x :: xs => by
    have ih := filter_parts p q xs
    simp only [List.filter_cons]
    cases hp : p x <;> cases hq : q x <;> simp <;> omega

section
variable {l : List (List Int)} (h : right l = true) {a b : Nat} (ha : a < l.length) (hb : b < l.length)
include h ha hb
theorem newL_nat : newL l a b = rowOf l.length (fun j => anc l b j && !anc l a j) := by simp [newL, there2_mk h ha hb]
theorem commonL_nat : commonL l a b = rowOf l.length (commonS l a b) := by simp [commonL, there2_mk h ha hb]
theorem basesL_nat : basesL l a b = rowOf l.length (basesS l a b) := by simp [basesL, there2_mk h ha hb]
theorem news_len : (newL l a b).length + (commonL l a b).length = (behindL l b).length := by
  rw [newL_nat h ha hb, commonL_nat h ha hb, behindL, if_pos (there1_mk h hb)]
  simp only [rowOf, List.length_map, Int.toNat_natCast]
  exact filter_parts (anc l b) (anc l a) _
theorem new_mem {z : Int} (hz : z ∈ newL l a b) : isB l z b = true ∧ isB l z a = false := by
  rw [newL_nat h ha hb, mem_rowOf] at hz
  obtain ⟨j, hj, hS, rfl⟩ := hz
  simp only [Bool.and_eq_true, Bool.not_eq_true'] at hS
  rw [isB_nat h hj hb, isB_nat h hj ha]
  exact hS
theorem common_mem {z : Int} (hz : z ∈ commonL l a b) : isB l z a = true ∧ isB l z b = true := by
  rw [commonL_nat h ha hb, mem_rowOf] at hz
  obtain ⟨j, hj, hS, rfl⟩ := hz
  simp only [commonS, Bool.and_eq_true] at hS
  rw [isB_nat h hj ha, isB_nat h hj hb]
  exact hS
theorem common_comm : commonL l a b = commonL l b a := by
  rw [commonL_nat h ha hb, commonL_nat h hb ha]
  exact rowOf_congr fun j _ => by simp [commonS, Bool.and_comm]
theorem new_nil : newL l a b = [] ↔ isB l b a = true := by
  rw [newL_nat h ha hb, isB_nat h hb ha, List.eq_nil_iff_forall_not_mem]
  constructor
  · intro hall
    cases hab : anc l a b with
    | true => rfl
    | false => exact absurd (mem_rowOf.2 ⟨b, hb, by simp [anc_self h, hab], rfl⟩) (hall b)
  · intro hab z hz
    obtain ⟨j, hj, hS, rfl⟩ := mem_rowOf.1 hz
    simp only [Bool.and_eq_true, Bool.not_eq_true'] at hS
    rw [anc_trans' h hab hS.1] at hS
    cases hS.2
end
end Go.Proofs.Ytfajligmdjpekaa
