/- The small case of the laws on nets comes out right. -/
import Derived.Test.YtfedndlmlbgboaaRef3
namespace Go.Proofs.Ytfedndlmlbgboaa
open Go.RowKit Go.Conc

theorem RowAt.of_owns {w : World} {base : Nat} {v : Value} {l : List Msg} (h : w.ownsRow base 30 4 v l.length (flat l)) : RowAt w v l := by
  rcases h.2 with ⟨rfl, h0⟩ | ⟨g, cp, cur, rfl, _, hb, hn, _, _, hx⟩
  · exact .inl ⟨List.eq_nil_of_length_eq_zero h0, _, _, rfl⟩
  · refine .inr ⟨g, 0, cp, rfl, hn, fun k m hk => ?_⟩
    have key : ∀ (i : Nat) (u : Value), i < 4 → m.cells[i]? = some u → w.cell? ⟨g, 0 + k * 4 + i, none⟩ = some u := by
      intro i u hi hu
      have hfl : ∀ (l : List Msg) (k : Nat), l[k]? = some m → (flat l)[k * 4 + i]? = some u := by
        intro l
        induction l with
        | nil => intro k hk; simp at hk
        | cons x l ih =>
          intro k hk
          have e : flat (x :: l) = x.cells ++ flat l := by simp [flat]
          have h4 : x.cells.length = 4 := rfl
          cases k with
          | zero =>
            simp at hk; subst hk
            rw [e, List.getElem?_append_left (by omega)]; simpa using hu
          | succ k =>
            rw [e, List.getElem?_append_right (by omega), h4, show (k + 1) * 4 + i - 4 = k * 4 + i by omega]
            exact ih k (by simpa using hk)
      have h1 := hfl l k hk
      rw [← hx, List.getElem?_take] at h1
      split at h1
      · rw [Nat.zero_add, cell_of_row w g _ cur 30 (0, 0) hb]
        simpa using h1
      · cases h1
    exact ⟨key 0 _ (by omega) rfl, key 1 _ (by omega) rfl, key 2 _ (by omega) rfl, key 3 _ (by omega) rfl⟩

theorem RowAt.of_block {w : World} {b : Nat} {cs : Array Value} (l : List Msg) (hb : w.heap[b]? = some (.cells cs 30 (0, 0))) (hcs : cs.toList = flat l) (hl : l.length ≤ 1000) : RowAt w (.slice (some ⟨b, 0, none⟩) l.length l.length) l := by
  refine RowAt.of_owns (base := 0) ⟨flat_length l, .inr ⟨b, l.length, cs, rfl, Nat.zero_le _, hb, Nat.le_refl _, by unfold maxLen; omega, ?_, ?_⟩⟩
  · have := congrArg List.length hcs
    simpa [flat_length] using this
  · rw [hcs, ← flat_length l, List.take_length]

def SmallPost (w : World) (e : Ending) (w' : World) : Prop := e = .returned (.bool true) ∧ Below w.heap.size w w'
theorem But.cell {c : Nat} {w w' : World} (h : But c w w') {a : Addr} {v : Value} (hc : w.cell? a = some v) (hne : a.block ≠ c) : w'.cell? a = some v :=
  (World.cell?_of_block (h.block a.block (World.block_lt_of_cell? w a hc) hne)).trans hc
def Net (w : World) (p c cap : Nat) (l : List Msg) : Prop := NetIs w p c cap l

set_option maxRecDepth 100000 in
set_option maxHeartbeats 1000000 in
theorem small_any (w : World) : Calls Try.prog 7 #[] w (SmallPost w) := by
  go_enter Try.func7, Try.ntmps7
  go_wp2_with fail
  refine (new_any 3 _).mono ?_
  rintro e w1 ⟨p, c, rfl, hn, hp, hc, hb⟩
  have N1 : Hid (NetIs w1 p c 3 []) := hn
  have B1 : Hid (Below w.heap.size w w1) := hb
  have hz1 := hb.size
  clear hn hb
  go_wp2_with fail
  refine (send_any p c 3 [] ⟨1, 0, 0, 0⟩ _ N1.out).mono ?_
  rintro e w2 ⟨rfl, hn, hb⟩
  have N2 : Hid (NetIs w2 p c 3 [⟨1, 0, 0, 0⟩]) := hn
  have B2 : Hid (Below w.heap.size w w2) := B1.out.trans (hb.below hc hz1)
  have hz2 := B2.out.size
  clear hn hb B1 N1
  simp only [List.length_nil, Nat.zero_lt_succ, if_true]
  go_wp2_with fail
  refine (send_any p c 3 [⟨1, 0, 0, 0⟩] ⟨2, 0, 0, 0⟩ _ N2.out).mono ?_
  rintro e w3 ⟨rfl, hn, hb⟩
  have N3 : Hid (NetIs w3 p c 3 [⟨1, 0, 0, 0⟩, ⟨2, 0, 0, 0⟩]) := hn
  have B3 : Hid (Below w.heap.size w w3) := B2.out.trans (hb.below hc hz2)
  have hz3 := B3.out.size
  clear hn hb B2 N2
  simp only [List.length_cons, List.length_nil, Nat.zero_add, Nat.reduceLT, if_true]
  go_wp2_with fail
  refine (turn_any p c 3 _ _ N3.out (by simp)).mono ?_
  rintro e w4 ⟨rfl, hn, hb⟩
  have N4 : Hid (NetIs w4 p c 3 [⟨2, 0, 0, 0⟩, ⟨1, 0, 0, 0⟩]) := hn
  have B4 : Hid (Below w.heap.size w w4) := B3.out.trans (hb.below hc hz3)
  have hz4 := B4.out.size
  clear hn hb B3 N3
  simp only [List.isEmpty_cons, Bool.not_false]
  go_wp2_with fail
  refine (twice_any p c 3 _ _ N4.out (by simp) (by omega)).mono ?_
  rintro e w5 ⟨rfl, hn, hb⟩
  have N5 : Hid (NetIs w5 p c 3 [⟨2, 0, 0, 0⟩, ⟨1, 0, 0, 0⟩, ⟨2, 0, 0, 0⟩]) := hn
  have B5 : Hid (Below w.heap.size w w5) := B4.out.trans (hb.below hc hz4)
  have hz5 := B5.out.size
  clear hn hb B4 N4
  simp only [twiceErr, List.length_cons, List.length_nil, Nat.zero_add, Nat.reduceAdd, Nat.reduceLT, if_true]
  go_wp2_with fail
  refine (send_any p c 3 _ ⟨4, 0, 0, 0⟩ _ N5.out).mono ?_
  rintro e w6 ⟨rfl, hn, hb⟩
  have N6 : Hid (NetIs w6 p c 3 [⟨2, 0, 0, 0⟩, ⟨1, 0, 0, 0⟩, ⟨2, 0, 0, 0⟩]) := hn
  have B6 : Hid (Below w.heap.size w w6) := B5.out.trans (hb.below hc hz5)
  have hz6 := B6.out.size
  clear hn hb B5 N5
  simp only [List.length_cons, List.length_nil, Nat.zero_add, Nat.reduceAdd, if_false, Nat.lt_irrefl]
  go_wp2_with fail
  refine (all_any p c 3 _ _ N6.out (by simp) (by omega)).mono ?_
  rintro e w7 ⟨v, rfl, ho, hn, hb⟩
  have N7 : Hid (NetIs w7 p c 3 [⟨2, 0, 0, 0⟩, ⟨1, 0, 0, 0⟩, ⟨2, 0, 0, 0⟩]) := hn
  have B7 : Hid (Below w.heap.size w w7) := B6.out.trans (hb.below hc hz6)
  have hz7 := B7.out.size
  have hcl := N6.out.lt
  have O7 := Lib.hid ho
  clear hn hb ho B6 N6
  go_wp2_with fail
  refine (take_at p c 3 _ _ N7).mono ?_
  rintro e w8 ⟨rfl, hn, hb⟩
  have N8 : Hid (NetIs w8 p c 3 [⟨1, 0, 0, 0⟩, ⟨2, 0, 0, 0⟩]) := hn
  have B8 : Hid (Below w.heap.size w w8) := B7.out.trans (hb.below hc hz7)
  have hz8 := B8.out.size
  have O8 := Lib.hid (ownsRow_but O7.out hb hcl.2.1)
  clear hn hb B7 N7 O7
  simp only [List.isEmpty_cons, Bool.not_false, List.headD_cons]
  go_wp2_with fail
  have hnc : w8.heap.size ≠ c := by have := N8.out.lt.2.1; omega
  have D8 : Hid ((w8.alloc (.cells #[.int .i64 2, .int .i64 0, .int .i64 0, .int .i64 0] 30)).cell? ⟨w8.heap.size, 0, none⟩ = some (.int .i64 2)) := Lib.hid (by simp)
  refine (drop_any p c 3 [⟨1, 0, 0, 0⟩, ⟨2, 0, 0, 0⟩] _ (N8.out.below ((Below.refl _ _).alloc (Nat.le_refl _) _) N8.out.lt.1 N8.out.lt.2.1)).mono ?_
  rintro e w9 ⟨rfl, hn, hb⟩
  have N9 : Hid (NetIs w9 p c 3 [⟨2, 0, 0, 0⟩]) := hn
  have B9 : Hid (Below w.heap.size w w9) := (B8.out.alloc (by omega) _).trans (hb.below hc (by simp; omega))
  have hz9 := B9.out.size
  have O9 := Lib.hid (ownsRow_but (O8.out.alloc (.cells #[.int .i64 2, .int .i64 0, .int .i64 0, .int .i64 0] 30)) hb hcl.2.1)
  have D9 := Lib.hid (hb.cell D8.out hnc)
  clear hn hb B8 N8 O8 D8
  simp only [List.isEmpty_cons, Bool.not_false]
  go_wp2_with fail
  refine (drop_any p c 3 _ _ N9.out).mono ?_
  rintro e w10 ⟨rfl, hn, hb⟩
  have N10 : Hid (NetIs w10 p c 3 []) := hn
  have B10 : Hid (Below w.heap.size w w10) := B9.out.trans (hb.below hc hz9)
  have hz10 := B10.out.size
  have O10 := Lib.hid (ownsRow_but O9.out hb hcl.2.1)
  have D10 := Lib.hid (hb.cell D9.out hnc)
  clear hn hb B9 N9 O9 D9
  simp only [List.isEmpty_cons, Bool.not_false]
  go_wp2_with fail
  refine (drop_any p c 3 _ _ N10.out).mono ?_
  rintro e w11 ⟨rfl, hn, hb⟩
  have N11 : Hid (NetIs w11 p c 3 []) := hn
  have B11 : Hid (Below w.heap.size w w11) := B10.out.trans (hb.below hc hz10)
  have hz11 := B11.out.size
  have O11 := Lib.hid (ownsRow_but O10.out hb hcl.2.1)
  have hD := hb.cell D10.out hnc
  have hDl := World.block_lt_of_cell? _ _ hD
  simp only at hDl
  clear hn hb B10 N10 O10 D10
  simp only [List.isEmpty_nil, Bool.not_true]
  go_wp2_with fail
  have hl : RowAt (w11.alloc (.cells #[.int .i64 2, .int .i64 0, .int .i64 0, .int .i64 0, .int .i64 1, .int .i64 0, .int .i64 0, .int .i64 0, .int .i64 2, .int .i64 0, .int .i64 0, .int .i64 0] 30)) (.slice (some ⟨w11.heap.size, 0, none⟩) 3 3) [⟨2, 0, 0, 0⟩, ⟨1, 0, 0, 0⟩, ⟨2, 0, 0, 0⟩] :=
    RowAt.of_block [⟨2, 0, 0, 0⟩, ⟨1, 0, 0, 0⟩, ⟨2, 0, 0, 0⟩] (heap_alloc_new _ _) rfl (by simp)
  have hv : RowAt (w11.alloc (.cells #[.int .i64 2, .int .i64 0, .int .i64 0, .int .i64 0, .int .i64 1, .int .i64 0, .int .i64 0, .int .i64 0, .int .i64 2, .int .i64 0, .int .i64 0, .int .i64 0] 30)) v [⟨2, 0, 0, 0⟩, ⟨1, 0, 0, 0⟩, ⟨2, 0, 0, 0⟩] :=
    RowAt.of_owns (O11.out.alloc _)
  refine (msgs_any _ _ _ _ _ hv hl (by simp) (by simp)).mono ?_
  rintro e w' ⟨rfl, k, rfl⟩
  have hE : Ext w11 ((w11.alloc (.cells #[.int .i64 2, .int .i64 0, .int .i64 0, .int .i64 0, .int .i64 1, .int .i64 0, .int .i64 0, .int .i64 0, .int .i64 2, .int .i64 0, .int .i64 0, .int .i64 0] 30)).drewN k) := ext_drewN (ext_alloc _ _) _
  have N12 : Hid (NetIs ((w11.alloc (.cells #[.int .i64 2, .int .i64 0, .int .i64 0, .int .i64 0, .int .i64 1, .int .i64 0, .int .i64 0, .int .i64 0, .int .i64 2, .int .i64 0, .int .i64 0, .int .i64 0] 30)).drewN k) p c 3 []) := N11.out.below hE N11.out.lt.1 N11.out.lt.2.1
  have B12 := Lib.hid (B11.out.trans (Below.mono hE (by omega)))
  have hz12 := B12.out.size
  clear hl hv hE N11 B11 O11
  simp only [decide_true]
  go_wp2_with fail
  refine (twice_any p c 3 [] _ N12.out (by simp) (by omega)).mono ?_
  rintro e w13 ⟨rfl, hn, hb⟩
  have N13 : Hid (NetIs w13 p c 3 []) := hn
  have B13 : Hid (Below w.heap.size w w13) := B12.out.trans (hb.below hc hz12)
  clear hn hb B12 N12
  simp only [twiceErr]
  go_wp2_with fail
  refine (len_any p c 3 [] _ N13.out).mono ?_
  rintro e w14 ⟨rfl, rfl⟩
  simp only [List.length_nil]
  go_wp2_with fail
  go_ret
  exact ⟨rfl, B13.out⟩
end Go.Proofs.Ytfedndlmlbgboaa
