/- The plain laws on bases. No program in sight. -/
import Derived.Test.YtfajligmdjpekaaPlain2
import Derived.Test.YtfajligmdjpekaaRefBases
namespace Go.Proofs.Ytfajligmdjpekaa

section
variable {l : List (List Int)} (h : right l = true) {a b c : Nat} (ha : a < l.length) (hb : b < l.length) (hc : c < l.length)
include h ha
theorem isB_self : isB l a a = true := by rw [isB_nat h ha ha]; exact anc_self h a
include hb
theorem isB_antisymm (h1 : isB l a b = true) (h2 : isB l b a = true) : a = b := by
  rw [isB_nat h ha hb] at h1
  rw [isB_nat h hb ha] at h2
  have := anc_le' h h1
  have := anc_le' h h2
  omega
theorem bases_mem {z : Int} (hz : z ∈ basesL l a b) : ∃ j : Nat, z = j ∧ j < l.length ∧ commonS l a b j = true ∧ underS l a b j = false := by
  rw [basesL_nat h ha hb, mem_rowOf] at hz
  obtain ⟨j, hj, hS, rfl⟩ := hz
  simp only [basesS, Bool.and_eq_true, Bool.not_eq_true'] at hS
  exact ⟨j, rfl, hj, hS.1, hS.2⟩
/-- No base is behind another one. -/
theorem bases_apart {y z : Int} (hy : y ∈ basesL l a b) (hz : z ∈ basesL l a b) (hne : y ≠ z) : isB l y z = false := by
  obtain ⟨j, rfl, hj, hS, hU⟩ := bases_mem h ha hb hy
  obtain ⟨k, rfl, hk, hT, _⟩ := bases_mem h ha hb hz
  rw [isB_nat h hj hk]
  cases hkj : anc l k j with
  | false => rfl
  | true =>
    rw [(under_iff h).2 ⟨k, hk, hT, by omega, hkj⟩] at hU
    cases hU
theorem bases_comm : basesL l a b = basesL l b a := by
  have e : ∀ j, commonS l a b j = commonS l b a j := fun j => by simp [commonS, Bool.and_comm]
  rw [basesL_nat h ha hb, basesL_nat h hb ha]
  exact rowOf_congr fun j _ => by simp [basesS, underS, e]
/-- Who is behind the other is the base. -/
theorem bases_one (hab : isB l a b = true) : basesL l a b = [(a : Int)] := by
  rw [isB_nat h ha hb] at hab
  rw [basesL_nat h ha hb]
  refine rising_ext _ _ (rowOf_rising _ _) (List.pairwise_singleton _ _) fun z => ?_
  rw [mem_rowOf, List.mem_singleton]
  constructor
  · rintro ⟨j, hj, hS, rfl⟩
    simp only [basesS, commonS, Bool.and_eq_true, Bool.not_eq_true'] at hS
    by_cases hja : a = j
    · rw [hja]
    · rw [(under_iff h).2 ⟨a, ha, by simp [commonS, anc_self h, hab], hja, hS.1.1⟩] at hS
      cases hS.2
  · rintro rfl
    refine ⟨a, ha, ?_, rfl⟩
    simp only [basesS, commonS, Bool.and_eq_true, Bool.not_eq_true']
    refine ⟨⟨anc_self h a, hab⟩, ?_⟩
    cases hu : underS l a b a with
    | false => rfl
    | true =>
      obtain ⟨k, hk, hT, hne, hka⟩ := (under_iff h).1 hu
      simp only [commonS, Bool.and_eq_true] at hT
      have h1 := anc_le' h hT.1
      have h2 := anc_le' h hka
      omega
theorem depth_mono (hab : isB l a b = true) : depthI l a ≤ depthI l b := by
  rw [isB_nat h ha hb] at hab
  rw [depthI_nat h ha, depthI_nat h hb]
  have := dep_anc h b b (Nat.le_refl _) hab
  omega
include hc
theorem isB_trans (h1 : isB l a b = true) (h2 : isB l b c = true) : isB l a c = true := by
  rw [isB_nat h ha hb] at h1
  rw [isB_nat h hb hc] at h2
  rw [isB_nat h ha hc]
  exact anc_trans' h h2 h1
end
section
variable {l : List (List Int)} (h : right l = true) {a b : Nat} (ha : a < l.length) (hb : b < l.length)
include h ha hb
theorem some_base : ∀ (n c : Nat), l.length - c ≤ n → c < l.length → commonS l a b c = true → ∃ z ∈ basesL l a b, isB l c z = true := by
  intro n
  induction n with
  | zero => intro c hn hc; omega
  | succ n ih =>
    intro c hn hc hS
    cases hu : underS l a b c with
    | false =>
      refine ⟨c, ?_, ?_⟩
      · rw [basesL_nat h ha hb]; exact mem_rowOf.2 ⟨c, hc, by simp [basesS, hS, hu], rfl⟩
      · exact isB_self h hc
    | true =>
      obtain ⟨k, hk, hT, hne, hkc⟩ := (under_iff h).1 hu
      have := anc_le' h hkc
      obtain ⟨z, hz, hzb⟩ := ih k (by omega) hk hT
      refine ⟨z, hz, ?_⟩
      obtain ⟨j, rfl, hj, _, _⟩ := bases_mem h ha hb hz
      exact isB_trans h hc hk hj (by rw [isB_nat h hc hk]; exact hkc) hzb
/-- What is common to both is behind some base, and what is behind a base is common to both. -/
theorem under_bases {c : Nat} (hc : c < l.length) : ((basesL l a b).any fun z => isB l c z) = (isB l c a && isB l c b) := by
  rw [isB_nat h hc ha, isB_nat h hc hb, Bool.eq_iff_iff, List.any_eq_true]
  constructor
  · rintro ⟨z, hz, hcz⟩
    obtain ⟨j, rfl, hj, hS, _⟩ := bases_mem h ha hb hz
    rw [isB_nat h hc hj] at hcz
    simp only [commonS, Bool.and_eq_true] at hS ⊢
    exact ⟨anc_trans' h hS.1 hcz, anc_trans' h hS.2 hcz⟩
  · intro hS
    exact some_base h ha hb _ c (Nat.le_refl _) hc hS
end
theorem bases_nodup (l : List (List Int)) (x y : Int) : (basesL l x y).Nodup := by
  unfold basesL
  split
  · exact rowOf_nodup _ _
  · simp
end Go.Proofs.Ytfajligmdjpekaa
