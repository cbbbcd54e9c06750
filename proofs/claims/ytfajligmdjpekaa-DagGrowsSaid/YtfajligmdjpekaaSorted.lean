/- The row of those that stand behind one, rising: dag.Behind. -/
import Derived.Test.YtfajligmdjpekaaThere
namespace Go.Proofs.Ytfajligmdjpekaa
open Go.RowKit Go.Lib Go.Maps Go.Shelf

theorem mem_rowOf {n : Nat} {S : Nat → Bool} {x : Int} : x ∈ rowOf n S ↔ ∃ j : Nat, j < n ∧ S j = true ∧ x = j := by
  simp only [rowOf, List.mem_map, List.mem_filter, List.mem_range]
  constructor
  · rintro ⟨j, ⟨h1, h2⟩, rfl⟩; exact ⟨j, h1, h2, rfl⟩
  · rintro ⟨j, h1, h2, rfl⟩; exact ⟨j, ⟨h1, h2⟩, rfl⟩
theorem rowOf_rising (n : Nat) (S : Nat → Bool) : (rowOf n S).Pairwise (· < ·) := by
  unfold rowOf
  rw [List.pairwise_map]
  refine (List.pairwise_lt_range.filter S).imp ?_
  intro a b h
  show (a : Int) < b
  omega
theorem rowOf_nodup (n : Nat) (S : Nat → Bool) : (rowOf n S).Nodup := (rowOf_rising n S).imp fun h e => by omega
theorem rowOf_length (n : Nat) (S : Nat → Bool) : (rowOf n S).length ≤ n := by
  have := List.length_filter_le S (List.range n)
  simpa [rowOf] using this
/-- Two rising rows with the same members are one. -/
theorem rising_ext : ∀ (a b : List Int), a.Pairwise (· < ·) → b.Pairwise (· < ·) → (∀ x, x ∈ a ↔ x ∈ b) → a = b
  | [], [], _, _, _ => rfl
  | [], y :: b, _, _, h => by have := (h y).2 (List.mem_cons_self ..); cases this
  | x :: a, [], _, _, h => by have := (h x).1 (List.mem_cons_self ..); cases this
  | x :: a, y :: b, ha, hb, h => by
    obtain ⟨ha1, ha2⟩ := List.pairwise_cons.1 ha
    obtain ⟨hb1, hb2⟩ := List.pairwise_cons.1 hb
    have hxy : x = y := by
      have h1 := (h x).1 (List.mem_cons_self ..)
      have h2 := (h y).2 (List.mem_cons_self ..)
      rcases List.mem_cons.1 h1 with e | h1
      · exact e
      rcases List.mem_cons.1 h2 with e | h2
      · exact e.symm
      have := hb1 x h1
      have := ha1 y h2
      omega
    subst hxy
    congr 1
    refine rising_ext a b ha2 hb2 fun z => ⟨fun hz => ?_, fun hz => ?_⟩
    · rcases List.mem_cons.1 ((h z).1 (List.mem_cons_of_mem _ hz)) with rfl | h1
      · have := ha1 z hz; omega
      · exact h1
    · rcases List.mem_cons.1 ((h z).2 (List.mem_cons_of_mem _ hz)) with rfl | h1
      · have := hb1 z hz; omega
      · exact h1
/-- Sorted, a row of which each is there once is the rising one. -/
theorem sort_rowOf (ss : List Int) (hn : ss.Nodup) (n : Nat) (S : Nat → Bool) (h : ∀ x, x ∈ ss ↔ x ∈ rowOf n S) : ss.mergeSort (fun x y => decide (x ≤ y)) = rowOf n S := by
  have hp : (ss.mergeSort (fun x y => decide (x ≤ y))).Perm ss := List.mergeSort_perm ..
  have hs : (ss.mergeSort (fun x y => decide (x ≤ y))).Pairwise (fun a b => decide (a ≤ b) = true) := by
    refine List.pairwise_mergeSort ?_ ?_ ss
    · intro a b c h1 h2; simp at *; omega
    · intro a b; simp; omega
  have hnd : (ss.mergeSort (fun x y => decide (x ≤ y))).Nodup := hp.nodup_iff.2 hn
  refine rising_ext _ _ ?_ (rowOf_rising n S) fun x => by rw [hp.mem_iff]; exact h x
  refine (hs.and hnd).imp ?_
  rintro a b ⟨h1, h2⟩
  simp at h1
  omega
/-- The keys of such a map. -/
theorem SetAt.keys {w : World} {b : Nat} {S : Nat → Bool} (h : SetAt w b S) {n : Nat} (hS : ∀ j, S j = true → j < n) :
    ∃ D : D1, w.ownsMap Try.prog 3 (plainElem Try.prog 4) b 64 D ∧ Maps.size D ≤ 64 ∧ ∀ ss : List Int, ss.Perm (intKeys D) → ss.mergeSort (fun x y => decide (x ≤ y)) = rowOf n S := by
  obtain ⟨D, hown, hsz, hhas, hat, hall⟩ := h
  refine ⟨D, hown, Nat.le_trans hsz (cnt_le S), fun ss hp => ?_⟩
  obtain ⟨es, rfl, hpw, hkl⟩ := hown.entries keyed3
  have hk : ∀ p ∈ es, ∃ x, p.1 = .int .i64 x := by
    intro p hp
    have hh : Maps.has (DataW.map es) p.1 = true := by
      rw [Maps.has_eq, List.any_eq_true]
      exact ⟨p, hp, WideAt.sameKey_self (hkl p hp)⟩
    obtain ⟨j, _, he, _⟩ := hall p.1 hh
    exact ⟨j, he⟩
  have hperm : (rowOf n S).Perm (intKeys (DataW.map es)) := perm_intKeys hpw hk (rowOf_nodup n S) fun x => by
    rw [mem_rowOf]
    constructor
    · rintro ⟨j, _, h2, rfl⟩; rw [hhas j]; exact h2
    · intro hx
      obtain ⟨j, _, he, _⟩ := hall _ hx
      simp only [Lit.int.injEq, true_and] at he
      subst he
      rw [hhas j] at hx
      exact ⟨j, hS j hx, hx, rfl⟩
  have hp2 := hp.trans hperm.symm
  exact sort_rowOf ss (hp2.nodup_iff.2 (rowOf_nodup n S)) n S fun x => hp2.mem_iff

/-- dag.Behind hands back a row of the call's own. -/
def RowPost (w : World) (xs : List Int) (e : Ending) (w' : World) : Prop := ∃ v, e = .returned v ∧ Own w.heap.size w' v xs ∧ Ext w w'

set_option maxHeartbeats 400000 in
theorem dbehind_any (n c : Nat) (a : Option Addr) (l : List (List Int)) (hn : l.length = n) (hc : n ≤ 1000) (x : Int) (w : World) (hf : RowFacts w a l) :
    Calls Try.prog 19 #[.slice a n c, .int .i64 x] w (RowPost w (behindL l x)) := by
  have HF := Lib.hid hf
  have HN := Lib.hid hn
  clear hf hn
  go_enter Try.func19, Try.ntmps19
  go_wp2_with fail
  refine (there_one n c a l HN.out hc x w HF.out).mono ?_
  rintro e w1 ⟨rfl, h1⟩
  have HE := Lib.hid h1
  clear h1
  cases ht : there1 l x with
  | false =>
    have HP : Hid (RowPost w (behindL l x) (.returned (.slice none 0 0)) w1) := Lib.hid ⟨_, rfl, by simp only [behindL, ht]; exact own_nil _ _, HE.out⟩
    clear ht
    go_wp2_with fail
    go_ret
    exact HP.out
  | true =>
    obtain ⟨hr, ⟨i, rfl, hi⟩⟩ := there1_open ht
    have HB : Hid (behindL l i = rowOf n (anc l i)) := Lib.hid (by simp [behindL, ht, HN.out])
    have h64 : n ≤ 64 := by rw [← HN.out]; exact right_length hr
    have HR := Lib.hid hr
    rw [HN.out] at hi
    clear ht hr
    go_wp2_with fail
    refine (behind_any n c a l HR.out HN.out i hi w1 (HF.out.ext HE.out)).mono ?_
    rintro e w2 ⟨mb, rfl, hmb, hs, h2⟩
    obtain ⟨D, hown, hsz, hk⟩ := hs.keys (n := n) (fun j hj => Nat.lt_of_le_of_lt (anc_le' HR.out hj) hi)
    have HO := Lib.hid hown
    have HK := Lib.hid hk
    have HE2 := Lib.hid (HE.out.trans h2)
    clear hs h2 hown hk
    go_wp2_with fail
    refine (Try.maps_Keys_34 (some mb) w2).mono ?_
    rintro e w3 ⟨rfl, rfl⟩
    go_wp2_with fail
    refine (Try.slices_Sorted_33 mb 64 D _ w2 HO.out (by unfold maxLen; omega) (by omega)).mono ?_
    rintro e w4 ⟨v, ss, rfl, hperm, hrow, _, h4⟩
    rw [HK.out ss hperm] at hrow
    have hlen : ss.length = (rowOf n (anc l i)).length := by rw [← HK.out ss hperm, List.length_mergeSort]
    rw [hlen] at hrow
    have HP : Hid (RowPost w (behindL l i) (.returned v) w4) := Lib.hid ⟨v, rfl, by
      rw [HB.out]
      exact Own.mono hrow (by have := HE2.out.size; simp; omega), (HE2.out.alloc _).trans h4⟩
    clear hrow hperm h4 hlen
    obtain ⟨ao, cp, m, rfl⟩ : ∃ ao m cp, v = .slice ao m cp := by
      obtain ⟨v', he, ho, _⟩ := HP.out
      cases he
      rcases ho.2 with ⟨h, _⟩ | ⟨g, cp, cur, h, _⟩
      · exact ⟨_, _, _, h⟩
      · exact ⟨_, _, _, h⟩
    go_wp2_with fail
    go_ret
    exact HP.out
end Go.Proofs.Ytfajligmdjpekaa
