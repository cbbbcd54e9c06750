/- The document's Bases and Base. -/
import Derived.Test.YtfajligmdjpekaaDepth
namespace Go.Proofs.Ytfajligmdjpekaa
open Go.RowKit Go.Lib Go.Maps Go.Shelf

/-- Is xs[i] behind another one of the first k of xs? -/
def lowOf (l : List (List Int)) (xs : List Int) (i k : Nat) : Bool := (List.range k).any fun q => decide (q ≠ i) && isB l (xs.getD i 0) (xs.getD q 0)
theorem lowOf_succ (l : List (List Int)) (xs : List Int) (i k : Nat) : lowOf l xs i (k + 1) = (lowOf l xs i k || (decide (k ≠ i) && isB l (xs.getD i 0) (xs.getD k 0))) := by
  simp [lowOf, List.range_succ]
/-- The last ones of the first i. -/
def lastOf (l : List (List Int)) (xs : List Int) (i : Nat) : List Int := ((List.range i).filter fun q => !lowOf l xs q xs.length).map fun q => xs.getD q 0
theorem lastOf_succ (l : List (List Int)) (xs : List Int) (i : Nat) : lastOf l xs (i + 1) = lastOf l xs i ++ if lowOf l xs i xs.length then [] else [xs.getD i 0] := by
  unfold lastOf
  rw [List.range_succ, List.filter_append, List.map_append]
  cases h : lowOf l xs i xs.length <;> simp [h]
/-- One that stands behind another one of a row is behind a parent of it. -/
theorem under_iff {l : List (List Int)} (h : right l = true) {a b j : Nat} : underS l a b j = true ↔ ∃ c, c < l.length ∧ commonS l a b c = true ∧ c ≠ j ∧ anc l c j = true := by
  simp only [underS, List.any_eq_true, List.mem_range, Bool.and_eq_true]
  constructor
  · rintro ⟨c, hc, hcs, p, hp, hpj⟩
    have h1 := anc_le' h hpj
    have h2 := (pars_lt h hp).1
    exact ⟨c, hc, hcs, by omega, (anc_iff h c j).2 (.inr ⟨p, hp, hpj⟩)⟩
  · rintro ⟨c, hc, hcs, hne, hcj⟩
    rcases (anc_iff h c j).1 hcj with h1 | ⟨p, hp, hpj⟩
    · exact absurd h1 hne
    · exact ⟨c, hc, hcs, p, hp, hpj⟩
theorem getD_eq {xs : List Int} {q : Nat} (h : q < xs.length) : xs.getD q 0 = xs[q] := by simp [h]
theorem mem_lastOf {l : List (List Int)} {xs : List Int} {z : Int} : z ∈ lastOf l xs xs.length ↔ ∃ q, q < xs.length ∧ lowOf l xs q xs.length = false ∧ z = xs.getD q 0 := by
  simp only [lastOf, List.mem_map, List.mem_filter, List.mem_range, Bool.not_eq_true']
  constructor
  · rintro ⟨q, ⟨h1, h2⟩, rfl⟩; exact ⟨q, h1, h2, rfl⟩
  · rintro ⟨q, h1, h2, rfl⟩; exact ⟨q, ⟨h1, h2⟩, rfl⟩
theorem lastOf_rising {l : List (List Int)} {xs : List Int} (h : xs.Pairwise (· < ·)) : (lastOf l xs xs.length).Pairwise (· < ·) := by
  have hmap : (List.range xs.length).map (fun q => xs.getD q 0) = xs := by
    apply List.ext_getElem
    · simp
    · intro j h1 h2
      simp at h1
      simp [h1]
  have hsub : (lastOf l xs xs.length).Sublist xs := by
    have := (List.filter_sublist (l := List.range xs.length) (p := fun q => !lowOf l xs q xs.length)).map (fun q => xs.getD q 0)
    rw [hmap] at this
    exact this
  exact h.sublist hsub
theorem lowOf_iff {l : List (List Int)} {xs : List Int} (hn : xs.Nodup) {q : Nat} (hq : q < xs.length) : lowOf l xs q xs.length = true ↔ ∃ z ∈ xs, z ≠ xs[q] ∧ isB l xs[q] z = true := by
  simp only [lowOf, List.any_eq_true, List.mem_range, Bool.and_eq_true, decide_eq_true_eq]
  constructor
  · rintro ⟨p, hp, hne, hb⟩
    rw [getD_eq hp, getD_eq hq] at hb
    refine ⟨xs[p], List.getElem_mem _, fun e => hne ?_, hb⟩
    exact (List.getElem_inj hn).1 e
  · rintro ⟨z, hz, hne, hb⟩
    obtain ⟨p, hp, rfl⟩ := List.getElem_of_mem hz
    refine ⟨p, hp, fun e => hne (by subst e; rfl), ?_⟩
    rw [getD_eq hp, getD_eq hq]
    exact hb
theorem isB_nat {l : List (List Int)} (h : right l = true) {i j : Nat} (hi : i < l.length) (hj : j < l.length) : isB l i j = anc l j i := by
  simp [isB, there2, inR, h, hi, hj]
theorem last_bases {l : List (List Int)} {x y : Int} (ht : there2 l x y = true) : lastOf l (commonL l x y) (commonL l x y).length = basesL l x y := by
  obtain ⟨hr, ⟨a, rfl, ha⟩, ⟨b, rfl, hb⟩⟩ := there2_open ht
  have hC : commonL l a b = rowOf l.length (commonS l a b) := by simp [commonL, ht]
  have hB : basesL l a b = rowOf l.length (basesS l a b) := by simp [basesL, ht]
  rw [hB, hC]
  refine rising_ext _ _ (lastOf_rising (rowOf_rising _ _)) (rowOf_rising _ _) fun z => ?_
  rw [mem_lastOf, mem_rowOf]
  have hnd := rowOf_nodup l.length (commonS l a b)
  constructor
  · rintro ⟨q, hq, hlow, rfl⟩
    rw [getD_eq hq]
    obtain ⟨j, hj, hS, he⟩ := mem_rowOf.1 (List.getElem_mem hq)
    refine ⟨j, hj, ?_, he⟩
    rw [basesS, hS, Bool.true_and, Bool.not_eq_true']
    cases hu : underS l a b j with
    | false => rfl
    | true =>
      obtain ⟨c, hc, hcs, hne, hcj⟩ := (under_iff hr).1 hu
      have : lowOf l (rowOf l.length (commonS l a b)) q (rowOf l.length (commonS l a b)).length = true :=
        (lowOf_iff hnd hq).2 ⟨c, mem_rowOf.2 ⟨c, hc, hcs, rfl⟩, by rw [he]; omega, by rw [he, isB_nat hr hj hc]; exact hcj⟩
      rw [this] at hlow
      cases hlow
  · rintro ⟨j, hj, hS, rfl⟩
    simp only [basesS, Bool.and_eq_true, Bool.not_eq_true'] at hS
    obtain ⟨q, hq, he⟩ := List.getElem_of_mem (mem_rowOf.2 ⟨j, hj, hS.1, rfl⟩ : (j : Int) ∈ rowOf l.length (commonS l a b))
    refine ⟨q, hq, ?_, by rw [getD_eq hq, he]⟩
    cases hl : lowOf l (rowOf l.length (commonS l a b)) q (rowOf l.length (commonS l a b)).length with
    | false => rfl
    | true =>
      obtain ⟨z, hz, hne, hzb⟩ := (lowOf_iff hnd hq).1 hl
      obtain ⟨c, hc, hcs, rfl⟩ := mem_rowOf.1 hz
      rw [he] at hne hzb
      rw [isB_nat hr hj hc] at hzb
      have : underS l a b j = true := (under_iff hr).2 ⟨c, hc, hcs, by omega, hzb⟩
      rw [this] at hS
      exact absurd hS.2 (by simp)
end Go.Proofs.Ytfajligmdjpekaa
