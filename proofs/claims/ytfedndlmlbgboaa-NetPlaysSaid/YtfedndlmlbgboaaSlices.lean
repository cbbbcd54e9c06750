/- A slice that came in: where the cells of its elements stand. -/
import Derived.Test.YtfedndlmlbgboaaBase
import Derived.ProofKit
import Derived.OpenShut
import Derived.ChangeOld
import Derived.Lib.SmallJoins
namespace Go.Proofs.Ytfedndlmlbgboaa
open Go.ChangeShapes Go.WideShapes Go.ChangeAt Go.RowKit Go.Joins Go.Deep

theorem addr_add (b o k : Nat) : (⟨b, o, none⟩ : Addr).add k = ⟨b, o + k, none⟩ := by unfold Addr.add; split <;> simp_all

/-- What came in as a slice: its length, and, where it has elements, the cells of each, with the element's own reading. -/
theorem slice_cells {H : Type} {enc : TypeId × Value → H} {P : Program} {W : World} {t e : TypeId} {v : Value} {d : DataW H} {p : List MemPlace} {size : Nat} (ht : P.underlying t = some (.slice e)) (hc : P.cellsOf e = size) (hs : 0 < size)
    (hv : ∃ a n c, v = .slice a n c) (h : DataW.Trod enc P W 0 (fun _ => true) true t v d p) :
    ∃ a n c, v = .slice a n c ∧ n ≤ maxLen ∧ n ≤ c ∧ c ≤ maxLen ∧ ∀ k, k < n → ∃ b o cs fuel y, a = some ⟨b, o, none⟩ ∧ cs.length = size ∧ (∀ i, i < size → W.cell? ⟨b, o + k * size + i, none⟩ = cs[i]?) ∧ DataW.trod enc P W 0 (fun _ => true) true fuel e cs = some y := by
  obtain ⟨a0, n0, c0, rfl⟩ := hv
  obtain ⟨fuel, hf⟩ := h
  rcases open_slice ht hf with ⟨hcs, _⟩ | ⟨⟨b, o, sp⟩, len, cap, m, nn, D, Pl, hcs, _, hl, hm, hmm, _, hel⟩
  · simp [Value.cells] at hcs
    obtain ⟨rfl, rfl, rfl⟩ := hcs
    exact ⟨none, 0, 0, rfl, by unfold maxLen; omega, Nat.le_refl _, by unfold maxLen; omega, fun k hk => by omega⟩
  · simp [Value.cells] at hcs
    obtain ⟨rfl, rfl, rfl⟩ := hcs
    simp only [if_true] at hmm
    subst hmm
    refine ⟨_, _, _, rfl, Nat.le_trans hl hm, hl, hm, fun k hk => ?_⟩
    have hspot : sp = none := by
      obtain ⟨cs, hcells, _⟩ := hel 0 (by omega)
      rw [hc] at hcells
      obtain ⟨_, hlen, hcell⟩ := World.cells?_some hcells
      have h0 := hcell 0 hs
      have hcs0 : ∃ u, cs[0]? = some u := by
        cases cs with
        | nil => simp at hlen; omega
        | cons u _ => exact ⟨u, rfl⟩
      obtain ⟨u, hu⟩ := hcs0
      rw [hu] at h0
      simpa [Addr.add] using World.cell?_spot h0
    subst hspot
    obtain ⟨cs, hcells, htr⟩ := hel k (by omega)
    rw [hc] at hcells
    obtain ⟨_, hlen, hcell⟩ := World.cells?_some hcells
    refine ⟨b, o, cs, nn, _, rfl, hlen, fun i hi => ?_, htr⟩
    have := hcell i hi
    rwa [addr_add, addr_add] at this

/-- A list out of what is known of each place. -/
theorem list_of {α : Type} (n : Nat) (Q : Nat → α → Prop) (h : ∀ k, k < n → ∃ x, Q k x) : ∃ l : List α, l.length = n ∧ ∀ k (hk : k < l.length), Q k l[k] := by
  induction n with
  | zero => exact ⟨[], rfl, fun k hk => by simp at hk⟩
  | succ n ih =>
    obtain ⟨l, hl, hq⟩ := ih (fun k hk => h k (by omega))
    obtain ⟨x, hx⟩ := h n (by omega)
    refine ⟨l ++ [x], by simp [hl], fun k hk => ?_⟩
    by_cases hk' : k < l.length
    · rw [List.getElem_append_left hk']; exact hq k hk'
    · have : k = n := by simp at hk; omega
      subst this
      rw [List.getElem_append_right (by omega)]
      simpa using hx

end Go.Proofs.Ytfedndlmlbgboaa
