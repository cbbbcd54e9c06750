/- The plain laws on depths. No program in sight. -/
import Derived.Test.YtfajligmdjpekaaPlain
namespace Go.Proofs.Ytfajligmdjpekaa

theorem fold_max (f : Nat → Nat) : ∀ (ps : List Nat) (m : Nat), m ≤ ps.foldl (fun m p => max m (f p)) m ∧ (∀ p ∈ ps, f p ≤ ps.foldl (fun m p => max m (f p)) m) ∧
    (ps.foldl (fun m p => max m (f p)) m = m ∨ ∃ p ∈ ps, ps.foldl (fun m p => max m (f p)) m = f p)
  | [], m => ⟨Nat.le_refl _, by simp, .inl rfl⟩
  | p :: ps, m => by
    obtain ⟨h1, h2, h3⟩ := fold_max f ps (max m (f p))
    simp only [List.foldl_cons]
    refine ⟨by omega, fun q hq => ?_, ?_⟩
    · rcases List.mem_cons.1 hq with rfl | hq
      · omega
      · exact h2 q hq
    · rcases h3 with h3 | ⟨q, hq, h3⟩
      · rw [h3]
        rcases Nat.le_total m (f p) with h | h
        · exact .inr ⟨p, List.mem_cons_self .., by omega⟩
        · exact .inl (by omega)
      · exact .inr ⟨q, List.mem_cons_of_mem _ hq, h3⟩

section
variable {l : List (List Int)} (h : right l = true)
include h
theorem dep_pos (k : Nat) : 1 ≤ dep l k := by rw [dep_eq h]; exact (fold_max _ _ _).1
theorem dep_par {k p : Nat} (hp : p ∈ pars l k) : dep l p + 1 ≤ dep l k := by rw [dep_eq h k]; exact (fold_max (fun p => dep l p + 1) _ _).2.1 p hp
theorem dep_none {k : Nat} (hp : pars l k = []) : dep l k = 1 := by rw [dep_eq h, hp]; rfl
theorem dep_some {k : Nat} (hp : pars l k ≠ []) : ∃ p ∈ pars l k, dep l k = dep l p + 1 := by
  obtain ⟨p0, hp0⟩ := List.exists_mem_of_ne_nil _ hp
  have h0 := dep_par h hp0
  have h1 := dep_pos h p0
  have := (fold_max (fun p => dep l p + 1) (pars l k) 1).2.2
  rw [← dep_eq h] at this
  rcases this with h2 | ⟨p, hp, h2⟩
  · omega
  · exact ⟨p, hp, h2⟩
theorem depthI_nat {k : Nat} (hk : k < l.length) : depthI l k = dep l k := by simp [depthI, there1_mk h hk]
/-- Who stands behind is no deeper. -/
theorem dep_anc {j : Nat} : ∀ (n k : Nat), k ≤ n → anc l k j = true → dep l j ≤ dep l k := by
  intro n
  induction n with
  | zero =>
    intro k hk ha
    rcases (anc_iff h k j).1 ha with rfl | ⟨p, hp, _⟩
    · exact Nat.le_refl _
    · have := pars_lt h hp; omega
  | succ n ih =>
    intro k hk ha
    rcases (anc_iff h k j).1 ha with rfl | ⟨p, hp, hpa⟩
    · exact Nat.le_refl _
    · have h1 := (pars_lt h hp).1
      have h2 := dep_par h hp
      have := ih p (by omega) hpa
      omega
theorem behindL_nat {k : Nat} (hk : k < l.length) : behindL l k = rowOf l.length (anc l k) := by simp [behindL, there1_mk h hk]
end

theorem filter_wide (p q : Nat → Bool) (hpq : ∀ j, p j = true → q j = true) : ∀ (xs : List Nat), (xs.filter p).length ≤ (xs.filter q).length
  | [] => Nat.le_refl _
  | x :: xs => by
    have ih := filter_wide p q hpq xs
    simp only [List.filter_cons]
    cases hp : p x with
    | true => rw [hpq x hp]; simpa using ih
    | false =>
      cases q x
      · simpa using ih
      · simp; omega
theorem filter_one (p q : Nat → Bool) (hpq : ∀ j, p j = true → q j = true) (k : Nat) (hp : p k = false) (hq : q k = true) : ∀ (xs : List Nat), k ∈ xs → (xs.filter p).length + 1 ≤ (xs.filter q).length
  | [], hk => by cases hk
  | x :: xs, hk => by
    simp only [List.filter_cons]
    rcases List.mem_cons.1 hk with rfl | hk
    · rw [hp, hq]
      have := filter_wide p q hpq xs
      simpa using this
    · have ih := filter_one p q hpq k hp hq xs hk
      cases hp : p x with
      | true => rw [hpq x hp]; simpa using ih
      | false =>
        cases q x
        · simpa using ih
        · simp; omega

section
variable {l : List (List Int)} (h : right l = true)
include h
/-- As many stand behind one as it is deep, at least. -/
theorem dep_behind : ∀ (n k : Nat), k ≤ n → k < l.length → dep l k ≤ (behindL l k).length := by
  intro n
  induction n with
  | zero =>
    intro k hk hkl
    have hp : pars l k = [] := List.eq_nil_iff_forall_not_mem.2 fun p hp => by have := pars_lt h hp; omega
    rw [dep_none h hp]
    have : (k : Int) ∈ behindL l k := by rw [behindL_nat h hkl]; exact mem_rowOf.2 ⟨k, hkl, anc_self h k, rfl⟩
    exact List.length_pos_of_mem this
  | succ n ih =>
    intro k hk hkl
    by_cases hp : pars l k = []
    · rw [dep_none h hp]
      have : (k : Int) ∈ behindL l k := by rw [behindL_nat h hkl]; exact mem_rowOf.2 ⟨k, hkl, anc_self h k, rfl⟩
      exact List.length_pos_of_mem this
    · obtain ⟨p, hp, hd⟩ := dep_some h hp
      have hlt := pars_lt h hp
      have h1 := ih p (by omega) (by omega)
      rw [behindL_nat h (by omega)] at h1 ⊢
      have h2 := filter_one (anc l p) (anc l k) (fun j hj => anc_trans' h (anc_par h hp) hj) k
        (by cases hb : anc l p k with
            | false => rfl
            | true => have := anc_le' h hb; omega) (anc_self h k) (List.range l.length) (List.mem_range.2 hkl)
      simp only [rowOf, List.length_map] at h1 ⊢
      omega
/-- Each is behind some head. -/
theorem some_head : ∀ (n k : Nat), l.length - k ≤ n → k < l.length → ∃ z ∈ headsL l, isB l k z = true := by
  intro n
  induction n with
  | zero => intro k hn hk; omega
  | succ n ih =>
    intro k hn hk
    by_cases hh : headsS l k = true
    · refine ⟨k, ?_, ?_⟩
      · rw [headsL, if_pos h]; exact mem_rowOf.2 ⟨k, hk, hh, rfl⟩
      · rw [isB_nat h hk hk]; exact anc_self h k
    · simp only [headsS, Bool.not_eq_true, Bool.not_eq_false', List.any_eq_true, List.mem_range, List.contains_iff_mem] at hh
      obtain ⟨c, hc, hkc⟩ := hh
      have h1 := (pars_lt h hkc).1
      obtain ⟨z, hz, hzb⟩ := ih c (by omega) hc
      refine ⟨z, hz, ?_⟩
      rw [headsL, if_pos h] at hz
      obtain ⟨j, hj, _, rfl⟩ := mem_rowOf.1 hz
      rw [isB_nat h hc hj] at hzb
      rw [isB_nat h hk hj]
      exact anc_trans' h hzb (anc_par h hkc)
theorem par_of_row {k : Nat} {r : List Int} (hk : l[k]? = some r) {z : Int} (hz : z ∈ r) : ∃ p : Nat, z = p ∧ p ∈ pars l k ∧ p < k ∧ k < l.length := by
  have h0 := (okRow_mem (right_row h hk)).2 z hz
  have hp : z.toNat ∈ pars l k := (mem_pars hk).2 ⟨z, hz, rfl⟩
  have := pars_lt h hp
  exact ⟨z.toNat, by omega, hp, this.1, this.2⟩
/-- Of a commit's parents: each is less deep, and behind it. -/
theorem row_par {k : Nat} {r : List Int} (hk : l[k]? = some r) {z : Int} (hz : z ∈ r) : depthI l z < dep l k ∧ isB l z k = true := by
  obtain ⟨p, rfl, hp, hpk, hkl⟩ := par_of_row h hk hz
  rw [depthI_nat h (by omega), isB_nat h (by omega) hkl]
  have := dep_par h hp
  exact ⟨by omega, anc_par h hp⟩
theorem row_none {k : Nat} (hk : l[k]? = some []) : dep l k = 1 := dep_none h (by simp [pars, hk])
theorem row_some {k : Nat} {r : List Int} (hk : l[k]? = some r) (hr : r ≠ []) : r.any (fun z => depthI l z == (dep l k : Int) - 1) = true := by
  have hp : pars l k ≠ [] := by simpa [pars, hk] using hr
  obtain ⟨p, hp, hd⟩ := dep_some h hp
  obtain ⟨z, hz, rfl⟩ := (mem_pars hk).1 hp
  have hz0 := (okRow_mem (right_row h hk)).2 z hz
  have hlt := pars_lt h hp
  rw [List.any_eq_true]
  refine ⟨z, hz, ?_⟩
  have : depthI l z = dep l z.toNat := by
    have := depthI_nat h (k := z.toNat) (by omega)
    rwa [show ((z.toNat : Nat) : Int) = z by omega] at this
  rw [this, hd]
  simp
end
end Go.Proofs.Ytfajligmdjpekaa
