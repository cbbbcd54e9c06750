/- A row of rows of the call's own, that began as rows that came in, with one more: where its cells stand. -/
import Derived.Test.YtfajligmdjpekaaSlices
import Derived.Test.YtfajligmdjpekaaPlain4
namespace Go.Proofs.Ytfajligmdjpekaa
open Go.RowKit Go.Lib Go.Maps Go.Shelf

theorem Try.info29 : (Try.prog.info? 29).map (fun i => (i.zero, i.size, i.bytes)) = some (some (.slice none 0 0), 1, 24) := by kernel_rfl

/-- A row's value, and where its numbers stand. -/
def RowVal (w : World) (u : Value) (r : List Int) : Prop :=
  ∃ ar cr, u = .slice ar r.length cr ∧ r.length ≤ cr ∧ cr ≤ maxLen ∧ ∀ i x, r[i]? = some x → ∃ b' o', ar = some ⟨b', o', none⟩ ∧ w.cell? ⟨b', o' + i, none⟩ = some (.int .i64 x)
theorem RowVal.ext {w w' : World} {u : Value} {r : List Int} (h : RowVal w u r) (hE : Ext w w') : RowVal w' u r := by
  obtain ⟨ar, cr, h1, h2, h3, hx⟩ := h
  refine ⟨ar, cr, h1, h2, h3, fun i x hi => ?_⟩
  obtain ⟨b', o', h4, h5⟩ := hx i x hi
  exact ⟨b', o', h4, hE.cell h5⟩
theorem rows_vals {w : World} {b o n : Nat} {l : List (List Int)} (hn : l.length = n) (hf : RowFacts w (some ⟨b, o, none⟩) l) :
    ∃ us : List Value, us.length = n ∧ (∀ j u, us[j]? = some u → w.cell? ((⟨b, o, none⟩ : Addr).add j) = some u) ∧ (∀ u ∈ us, u.oneCell' = true) ∧ ∀ (j : Nat) u r, us[j]? = some u → l[j]? = some r → RowVal w u r := by
  obtain ⟨us, hl, hus⟩ := list_of n (fun k (u : Value) => ∃ r, l[k]? = some r ∧ RowVal w u r ∧ w.cell? ⟨b, o + k, none⟩ = some u) (fun k hk => by
    have er : l[k]? = some (l[k]'(by omega)) := List.getElem?_eq_getElem _
    obtain ⟨b', o', ar, cr, he, hu, h3, h4, hx⟩ := hf k _ er
    cases he
    exact ⟨_, _, er, ⟨ar, cr, rfl, h3, h4, hx⟩, hu⟩)
  refine ⟨us, hl, fun j u hj => ?_, fun u hu => ?_, fun j u r hj hr => ?_⟩
  · obtain ⟨hlt, he⟩ := List.getElem?_eq_some_iff.1 hj
    obtain ⟨_, _, _, hc⟩ := hus j hlt
    rw [addr_add, hc, he]
  · obtain ⟨j, hlt, he⟩ := List.getElem_of_mem hu
    obtain ⟨_, _, ⟨ar, cr, h1, _⟩, _⟩ := hus j hlt
    rw [← he, h1]
    rfl
  · obtain ⟨hlt, he⟩ := List.getElem?_eq_some_iff.1 hj
    obtain ⟨r', hr', hv, _⟩ := hus j hlt
    rw [hr] at hr'
    cases hr'
    rwa [he] at hv
theorem ownsRow_cells {w : World} {base e n : Nat} {v : Value} {xs : List Value} (h : w.ownsRow base e 1 v n xs) (h0 : 0 < n) :
    ∃ g cp, v = .slice (some ⟨g, 0, none⟩) n cp ∧ n ≤ cp ∧ cp ≤ maxLen ∧ ∀ j u, xs[j]? = some u → w.cell? ⟨g, 0 + j, none⟩ = some u := by
  rcases h.2 with ⟨_, h2⟩ | ⟨g, cp, cur, rfl, _, hb, h3, h4, _, hx⟩
  · omega
  · refine ⟨g, cp, rfl, h3, h4, fun j u hj => ?_⟩
    refine lit_cell w g j cur e hb u ?_
    rw [← hx, List.getElem?_take] at hj
    split at hj
    · simpa using hj
    · cases hj
theorem rows_more {w : World} {g n : Nat} {us : List Value} {u : Value} {l : List (List Int)} {r : List Int} (hn : l.length = n) (hu : us.length = n)
    (hc : ∀ j v, (us ++ [u])[j]? = some v → w.cell? ⟨g, 0 + j, none⟩ = some v) (hv : ∀ (j : Nat) v s, us[j]? = some v → l[j]? = some s → RowVal w v s) (hr : RowVal w u r) : RowFacts w (some ⟨g, 0, none⟩) (l ++ [r]) := by
  have key : ∀ (j : Nat) v s, (us ++ [u])[j]? = some v → (l ++ [r])[j]? = some s → RowVal w v s := by
    intro j v s hj hs
    by_cases hlt : j < n
    · rw [List.getElem?_append_left (by omega)] at hj hs
      exact hv j v s hj hs
    · rw [List.getElem?_append_right (by omega)] at hj hs
      have : j - us.length = 0 := by
        have := (List.getElem?_eq_some_iff.1 hj).1
        simp at this
        omega
      rw [this] at hj
      rw [show j - l.length = 0 by omega] at hs
      simp at hj hs
      subst hj hs
      exact hr
  intro j s hs
  have hlt := (List.getElem?_eq_some_iff.1 hs).1
  have hj : (us ++ [u])[j]? = some ((us ++ [u])[j]'(by simp at hlt ⊢; omega)) := List.getElem?_eq_getElem _
  obtain ⟨ar, cr, h1, h2, h3, hx⟩ := key j _ s hj hs
  have hcell := hc j _ hj
  rw [h1] at hcell
  exact ⟨g, 0, ar, cr, rfl, hcell, h2, h3, hx⟩
theorem pair_val {w : World} {B : Nat} (p q : Int) (hb : w.heap[B]? = some (.cells #[.int .i64 p, .int .i64 q] 3 (0, 0))) : RowVal w (.slice (some ⟨B, 0, none⟩) 2 2) [p, q] :=
  ⟨_, _, rfl, Nat.le_refl _, by unfold maxLen; decide, row_lit w B [p, q] hb⟩
end Go.Proofs.Ytfajligmdjpekaa
