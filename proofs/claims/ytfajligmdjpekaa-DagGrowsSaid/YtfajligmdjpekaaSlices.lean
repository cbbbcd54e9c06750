/- A slice of slices that came in: where the cells of its elements stand. -/
import Derived.Test.YtfajligmdjpekaaLaws
import Derived.ProofKit
import Derived.OpenShut
import Derived.ChangeOld
import Derived.Lib.SmallJoins
namespace Go.Proofs.Ytfajligmdjpekaa
open Go.ChangeShapes Go.WideShapes Go.ChangeAt Go.RowKit Go.Joins Go.Deep

theorem addr_add (b o k : Nat) : (⟨b, o, none⟩ : Addr).add k = ⟨b, o + k, none⟩ := by unfold Addr.add; split <;> simp_all

/-- What reads as a slice: its length, and, where it has elements, the cells of each, with the element's own reading. -/
theorem slice_reads {H : Type} {enc : TypeId × Value → H} {P : Program} {W : World} {t e : TypeId} {cs : List Value} {fuel size : Nat} {x : DataW H × List MemPlace} (ht : P.underlying t = some (.slice e)) (hc : P.cellsOf e = size) (hs : 0 < size)
    (h : DataW.trod enc P W 0 (fun _ => true) true fuel t cs = some x) :
    ∃ a n c, cs = [.slice a n c] ∧ n ≤ maxLen ∧ n ≤ c ∧ c ≤ maxLen ∧ ∀ k, k < n → ∃ b o cs fuel y, a = some ⟨b, o, none⟩ ∧ cs.length = size ∧ (∀ i, i < size → W.cell? ⟨b, o + k * size + i, none⟩ = cs[i]?) ∧ DataW.trod enc P W 0 (fun _ => true) true fuel e cs = some y := by
  rcases open_slice ht h with ⟨hcs, _⟩ | ⟨⟨b, o, sp⟩, len, cap, m, nn, D, Pl, hcs, _, hl, hm, hmm, _, hel⟩
  · exact ⟨none, 0, 0, hcs, by unfold maxLen; omega, Nat.le_refl _, by unfold maxLen; omega, fun k hk => by omega⟩
  · simp only [if_true] at hmm
    subst hmm
    refine ⟨_, _, _, hcs, Nat.le_trans hl hm, hl, hm, fun k hk => ?_⟩
    have hspot : sp = none := by
      obtain ⟨cs, hcells, _⟩ := hel 0 (by omega)
      rw [hc] at hcells
      obtain ⟨_, hlen, hcell⟩ := World.cells?_some hcells
      have h0 := hcell 0 hs
      have hcs0 : ∃ u, cs[0]? = some u := by
        cases cs with
        | nil => simp at hlen; omega
        | cons u _ => exact ⟨u, rfl⟩
      obtain ⟨u, hu⟩ := hcs0
      rw [hu] at h0
      simpa [Addr.add] using World.cell?_spot h0
    subst hspot
    obtain ⟨cs, hcells, htr⟩ := hel k (by omega)
    rw [hc] at hcells
    obtain ⟨_, hlen, hcell⟩ := World.cells?_some hcells
    refine ⟨b, o, cs, nn, _, rfl, hlen, fun i hi => ?_, htr⟩
    have := hcell i hi
    rwa [addr_add, addr_add] at this

/-- A list out of what is known of each place. -/
theorem list_of {α : Type} (n : Nat) (Q : Nat → α → Prop) (h : ∀ k, k < n → ∃ x, Q k x) : ∃ l : List α, l.length = n ∧ ∀ k (hk : k < l.length), Q k l[k] := by
  induction n with
  | zero => exact ⟨[], rfl, fun k hk => by simp at hk⟩
  | succ n ih =>
    obtain ⟨l, hl, hq⟩ := ih (fun k hk => h k (by omega))
    obtain ⟨x, hx⟩ := h n (by omega)
    refine ⟨l ++ [x], by simp [hl], fun k hk => ?_⟩
    by_cases hk' : k < l.length
    · rw [List.getElem_append_left hk']; exact hq k hk'
    · have : k = n := by simp at hk; omega
      subst this
      rw [List.getElem_append_right (by omega)]
      simpa using hx

/-- The rows that came in. -/
theorem rows_came {H : Type} {enc : TypeId × Value → H} {W : World} {v : Value} {d : DataW H} {p : List MemPlace} (hv : ∃ a n c, v = .slice a n c) (h : DataW.Trod enc Try.prog W 0 (fun _ => true) true 22 v d p) :
    ∃ a n c l, v = .slice a n c ∧ List.length l = n ∧ n ≤ c ∧ c ≤ maxLen ∧ RowFacts W a l := by
  obtain ⟨a0, n0, c0, rfl⟩ := hv
  obtain ⟨fuel, hf⟩ := h
  obtain ⟨a, n, c, he, hn, hnc, hcm, hz⟩ := slice_reads Try.underlying22 (by kernel_rfl : Try.prog.cellsOf 29 = 1) (by omega) hf
  simp [Value.cells] at he
  obtain ⟨rfl, rfl, rfl⟩ := he
  obtain ⟨l, hl, hls⟩ := list_of n0 (fun k (r : List Int) => ∃ b o ar cr, a0 = some ⟨b, o, none⟩ ∧ W.cell? ⟨b, o + k, none⟩ = some (.slice ar r.length cr) ∧ r.length ≤ cr ∧ cr ≤ maxLen ∧
      ∀ i x, r[i]? = some x → ∃ b' o', ar = some ⟨b', o', none⟩ ∧ W.cell? ⟨b', o' + i, none⟩ = some (.int .i64 x)) (fun k hk => by
    obtain ⟨b, o, cs, fuel, y, ha, hlen, hcell, htr⟩ := hz k hk
    obtain ⟨ar, m, cr, rfl, hm, hmc, hcr, hz2⟩ := slice_reads Try.underlying29 (by kernel_rfl : Try.prog.cellsOf 3 = 1) (by omega) htr
    obtain ⟨r, hr, hrs⟩ := list_of m (fun i (z : Int) => ∃ b' o', ar = some ⟨b', o', none⟩ ∧ W.cell? ⟨b', o' + i, none⟩ = some (.int .i64 z)) (fun i hi => by
      obtain ⟨b', o', cs, fuel, y, ha', hl', hc', ht'⟩ := hz2 i hi
      obtain ⟨z, rfl, _, _⟩ := DataW.trod_int Try.underlying3 ht'
      exact ⟨z, b', o', ha', by simpa using hc' 0 (by omega)⟩)
    refine ⟨r, b, o, ar, cr, ha, ?_, by omega, hcr, fun i x hi => ?_⟩
    · rw [hr]; simpa using hcell 0 (by omega)
    · obtain ⟨hlt, he⟩ := List.getElem?_eq_some_iff.1 hi
      rw [← he]
      exact hrs i hlt)
  refine ⟨a0, n0, c0, l, rfl, hl, hnc, hcm, fun j r hj => ?_⟩
  obtain ⟨hlt, he⟩ := List.getElem?_eq_some_iff.1 hj
  rw [← he]
  exact hls j hlt
end Go.Proofs.Ytfajligmdjpekaa
