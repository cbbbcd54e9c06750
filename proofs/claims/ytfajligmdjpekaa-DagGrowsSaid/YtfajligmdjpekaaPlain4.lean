/- The plain laws on a row with a commit more. No program in sight. -/
import Derived.Test.YtfajligmdjpekaaPlain3
namespace Go.Proofs.Ytfajligmdjpekaa

section
variable {l : List (List Int)} (h : right l = true) {p q : Nat} (hpq : p < q) (hq : q < l.length) (h64 : l.length < 64)
include h hpq hq h64
theorem more_right : right (l ++ [[(p : Int), (q : Int)]]) = true := by
  simp only [right, Bool.and_eq_true, decide_eq_true_eq, List.length_append, List.length_singleton]
  refine ⟨(okRows_at _ 0).2 fun k r hk => ?_, by omega⟩
  rw [Nat.zero_add]
  by_cases hlt : k < l.length
  · rw [List.getElem?_append_left hlt] at hk
    exact right_row h hk
  · rw [List.getElem?_append_right (by omega)] at hk
    have : k = l.length := by
      have := (List.getElem?_eq_some_iff.1 hk).1
      simp at this
      omega
    subst this
    simp at hk
    subst hk
    simp [okRow]
    omega
omit h hpq hq h64 in
theorem more_row {r : List Int} {k : Nat} (hk : k < l.length) : (l ++ [r])[k]? = l[k]? := List.getElem?_append_left hk
omit h hpq hq h64 in
theorem more_pars {r : List Int} {k : Nat} (hk : k < l.length) : pars (l ++ [r]) k = pars l k := by simp [pars, more_row hk]
omit h hpq hq h64 in
theorem more_last {r : List Int} : pars (l ++ [r]) l.length = r.map Int.toNat := by simp [pars]
theorem more_anc (j : Nat) : ∀ (n i : Nat), i ≤ n → i < l.length → anc (l ++ [[(p : Int), (q : Int)]]) i j = anc l i j := by
  have hm := more_right h hpq hq h64
  intro n
  induction n with
  | zero =>
    intro i hi hil
    have hp : pars l i = [] := List.eq_nil_iff_forall_not_mem.2 fun p hp => by have := pars_lt h hp; omega
    rw [anc_eq hm, anc_eq h, more_pars hil, hp]
    rfl
  | succ n ih =>
    intro i hi hil
    rw [anc_eq hm, anc_eq h, more_pars hil]
    exact congrArg (fun b => (i == j || b)) (any_eq fun c hc => by
      have := pars_lt h hc
      exact ih c (by omega) (by omega))
theorem more_anc' {i : Nat} (hi : i < l.length) (j : Nat) : anc (l ++ [[(p : Int), (q : Int)]]) i j = anc l i j := more_anc h hpq hq h64 j i i (Nat.le_refl _) hi
theorem more_anc_last (j : Nat) : anc (l ++ [[(p : Int), (q : Int)]]) l.length j = (l.length == j || (anc l p j || anc l q j)) := by
  rw [anc_eq (more_right h hpq hq h64), more_last]
  simp only [List.map_cons, List.map_nil, Int.toNat_natCast, List.any_cons, List.any_nil, Bool.or_false]
  rw [more_anc' h hpq hq h64 (by omega), more_anc' h hpq hq h64 hq]
theorem more_isB (x y : Int) : isB l x y = (isB (l ++ [[(p : Int), (q : Int)]]) x y && decide (x < l.length) && decide (y < l.length)) := by
  by_cases hx : 0 ≤ x ∧ x < l.length
  · by_cases hy : 0 ≤ y ∧ y < l.length
    · obtain ⟨i, rfl⟩ := Int.eq_ofNat_of_zero_le hx.1
      obtain ⟨j, rfl⟩ := Int.eq_ofNat_of_zero_le hy.1
      have hi : i < l.length := by omega
      have hj : j < l.length := by omega
      rw [isB_nat h hi hj, isB_nat (more_right h hpq hq h64) (by simp; omega) (by simp; omega), more_anc' h hpq hq h64 hj]
      simp [hi, hj]
    · have h1 : isB l x y = false := by
        simp only [isB, there2, inR]
        rcases Decidable.not_and_iff_or_not.1 hy with h0 | h0 <;> simp [h0]
      rw [h1]
      by_cases hy0 : 0 ≤ y
      · have : decide (y < (l.length : Int)) = false := by simp; omega
        simp [this]
      · simp [isB, there2, inR, hy0]
  · have h1 : isB l x y = false := by
      simp only [isB, there2, inR]
      rcases Decidable.not_and_iff_or_not.1 hx with h0 | h0 <;> simp [h0]
    rw [h1]
    by_cases hx0 : 0 ≤ x
    · have : decide (x < (l.length : Int)) = false := by simp; omega
      simp [this]
    · simp [isB, there2, inR, hx0]
theorem more_behind {i : Nat} (hi : i < l.length) : isB (l ++ [[(p : Int), (q : Int)]]) i l.length = (isB l i p || isB l i q) := by
  rw [isB_nat (more_right h hpq hq h64) (by simp; omega) (by simp), isB_nat h hi (by omega), isB_nat h hi hq, more_anc_last h hpq hq h64]
  have : (l.length == i) = false := by simp; omega
  rw [this, Bool.false_or]
theorem more_heads : ∃ ys, headsL (l ++ [[(p : Int), (q : Int)]]) = ys ++ [(l.length : Int)] := by
  have hm := more_right h hpq hq h64
  rw [headsL, if_pos hm, List.length_append, List.length_singleton, rowOf_succ]
  have : headsS (l ++ [[(p : Int), (q : Int)]]) l.length = true := by
    simp only [headsS, Bool.not_eq_true', ← Bool.not_eq_true, List.any_eq_true, List.mem_range, List.contains_iff_mem]
    rintro ⟨c, hc, hp⟩
    have := pars_lt hm hp
    simp at this hc
    omega
  rw [this]
  exact ⟨_, rfl⟩
theorem more_dep : ∀ (n i : Nat), i ≤ n → i < l.length → dep (l ++ [[(p : Int), (q : Int)]]) i = dep l i := by
  have hm := more_right h hpq hq h64
  intro n
  induction n with
  | zero =>
    intro i hi hil
    have hp : pars l i = [] := List.eq_nil_iff_forall_not_mem.2 fun p hp => by have := pars_lt h hp; omega
    rw [dep_eq hm, dep_eq h, more_pars hil, hp]
    rfl
  | succ n ih =>
    intro i hi hil
    rw [dep_eq hm, dep_eq h, more_pars hil]
    exact foldl_congr _ _ _ _ fun c hc b => by
      have := pars_lt h hc
      rw [ih c (by omega) (by omega)]
theorem more_depth : depthI (l ++ [[(p : Int), (q : Int)]]) l.length = ((max (dep l p) (dep l q) + 1 : Nat) : Int) := by
  have hm := more_right h hpq hq h64
  rw [depthI_nat hm (by simp), dep_eq hm, more_last]
  simp only [List.map_cons, List.map_nil, Int.toNat_natCast, List.foldl_cons, List.foldl_nil]
  rw [more_dep h hpq hq h64 p p (Nat.le_refl _) (by omega), more_dep h hpq hq h64 q q (Nat.le_refl _) hq]
  have := dep_pos h p
  omega
end
end Go.Proofs.Ytfajligmdjpekaa
