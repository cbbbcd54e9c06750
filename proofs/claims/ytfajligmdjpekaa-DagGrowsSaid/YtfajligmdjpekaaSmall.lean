/- small: the small case comes out right. -/
import Derived.Test.YtfajligmdjpekaaHeads
namespace Go.Proofs.Ytfajligmdjpekaa
open Go.RowKit Go.Lib Go.Maps Go.Shelf

def rows0 : List (List Int) := [[], [0], [0], [1, 2], [1, 2], []]

theorem heap_alloc_size (w : World) (o : Obj) : (w.alloc o).heap.size = w.heap.size + 1 := by simp
theorem Says.gives {v : Value} {w w' : World} {e : Ending} (h : Says v w e w') : Gives v w e w' := says_ext h
theorem Own.facts' {base : Nat} {w : World} {v : Value} {xs : List Int} (h : Own base w v xs) (n : Nat) (hn : xs.length = n) (hl : n ≤ 1000) : ∃ a c, v = .slice a n c ∧ IntsFacts w a xs := by
  subst hn
  exact h.facts hl
theorem ints_lit (w : World) (xs : List Int) : IntsFacts (w.alloc (.cells (xs.map (Value.int .i64)).toArray 3)) (some ⟨w.heap.size, 0, none⟩) xs := by
  intro j x hj
  refine ⟨w.heap.size, 0, rfl, ?_⟩
  rw [Nat.zero_add, cell_of_row _ w.heap.size j _ 3 (0, 0) (heap_alloc_new _ _)]
  simp [hj]
theorem ints_same (n c d : Nat) (a b : Option Addr) (xs : List Int) (hn : xs.length = n) (h1 : n ≤ 1000) (w : World) (hx : IntsFacts w a xs) (hy : IntsFacts w b xs) :
    Calls Try.prog 18 #[.slice a n c, .slice b n d] w (Gives (.bool true) w) := by
  refine (ints_any n n c d a b xs xs hn hn h1 h1 w hx hy).mono fun e w' h => ?_
  have := h.gives
  rwa [beq_self_eq_true] at this
theorem lit_cell (w : World) (b j : Nat) (cur : Array Value) (e : TypeId) (hb : w.heap[b]? = some (.cells cur e (0, 0))) (v : Value) (hj : cur[j]? = some v) : w.cell? ⟨b, 0 + j, none⟩ = some v := by
  rw [Nat.zero_add, cell_of_row _ b j cur e (0, 0) hb]; exact hj
theorem row_lit (w : World) (b : Nat) (r : List Int) (hb : w.heap[b]? = some (.cells (r.map (Value.int .i64)).toArray 3 (0, 0))) : ∀ i x, r[i]? = some x → ∃ b' o', (some (⟨b, 0, none⟩ : Addr)) = some ⟨b', o', none⟩ ∧ w.cell? ⟨b', o' + i, none⟩ = some (.int .i64 x) :=
  fun i x hi => ⟨b, 0, rfl, lit_cell w b i _ 3 hb _ (by simp [hi])⟩

theorem small_rows (w : World) : RowFacts (((((w.alloc (.cells #[.int .i64 0] 3)).alloc (.cells #[.int .i64 0] 3)).alloc (.cells #[.int .i64 1, .int .i64 2] 3)).alloc (.cells #[.int .i64 1, .int .i64 2] 3)).alloc
      (.cells #[.slice none 0 0, .slice (some ⟨w.heap.size, 0, none⟩) 1 1, .slice (some ⟨w.heap.size + 1, 0, none⟩) 1 1, .slice (some ⟨w.heap.size + 1 + 1, 0, none⟩) 2 2, .slice (some ⟨w.heap.size + 1 + 1 + 1, 0, none⟩) 2 2, .slice none 0 0] 29))
    (some ⟨w.heap.size + 1 + 1 + 1 + 1, 0, none⟩) rows0 := by
  obtain ⟨W, hW⟩ : ∃ W, W = ((((w.alloc (.cells #[.int .i64 0] 3)).alloc (.cells #[.int .i64 0] 3)).alloc (.cells #[.int .i64 1, .int .i64 2] 3)).alloc (.cells #[.int .i64 1, .int .i64 2] 3)).alloc
      (.cells #[.slice none 0 0, .slice (some ⟨w.heap.size, 0, none⟩) 1 1, .slice (some ⟨w.heap.size + 1, 0, none⟩) 1 1, .slice (some ⟨w.heap.size + 1 + 1, 0, none⟩) 2 2, .slice (some ⟨w.heap.size + 1 + 1 + 1, 0, none⟩) 2 2, .slice none 0 0] 29) := ⟨_, rfl⟩
  have h0 : W.heap[w.heap.size]? = some (.cells ([0].map (Value.int .i64)).toArray 3 (0, 0)) := by
    rw [hW]
    exact (((ext_alloc (w.alloc (.cells #[.int .i64 0] 3)) _).alloc _).alloc _ |>.alloc _).heap (heap_alloc_new w _)
  have h1 : W.heap[w.heap.size + 1]? = some (.cells ([0].map (Value.int .i64)).toArray 3 (0, 0)) := by
    rw [hW]
    have := heap_alloc_new (w.alloc (.cells #[.int .i64 0] 3)) (.cells #[.int .i64 0] 3)
    rw [heap_alloc_size] at this
    exact ((ext_alloc _ _).alloc _ |>.alloc _).heap this
  have h2 : W.heap[w.heap.size + 1 + 1]? = some (.cells ([1, 2].map (Value.int .i64)).toArray 3 (0, 0)) := by
    rw [hW]
    have := heap_alloc_new ((w.alloc (.cells #[.int .i64 0] 3)).alloc (.cells #[.int .i64 0] 3)) (.cells #[.int .i64 1, .int .i64 2] 3)
    rw [heap_alloc_size, heap_alloc_size] at this
    exact ((ext_alloc _ _).alloc _).heap this
  have h3 : W.heap[w.heap.size + 1 + 1 + 1]? = some (.cells ([1, 2].map (Value.int .i64)).toArray 3 (0, 0)) := by
    rw [hW]
    have := heap_alloc_new (((w.alloc (.cells #[.int .i64 0] 3)).alloc (.cells #[.int .i64 0] 3)).alloc (.cells #[.int .i64 1, .int .i64 2] 3)) (.cells #[.int .i64 1, .int .i64 2] 3)
    rw [heap_alloc_size, heap_alloc_size, heap_alloc_size] at this
    exact (ext_alloc _ _).heap this
  have h4 : W.heap[w.heap.size + 1 + 1 + 1 + 1]? = some (.cells #[.slice none 0 0, .slice (some ⟨w.heap.size, 0, none⟩) 1 1, .slice (some ⟨w.heap.size + 1, 0, none⟩) 1 1, .slice (some ⟨w.heap.size + 1 + 1, 0, none⟩) 2 2, .slice (some ⟨w.heap.size + 1 + 1 + 1, 0, none⟩) 2 2, .slice none 0 0] 29 (0, 0)) := by
    rw [hW]
    have := heap_alloc_new ((((w.alloc (.cells #[.int .i64 0] 3)).alloc (.cells #[.int .i64 0] 3)).alloc (.cells #[.int .i64 1, .int .i64 2] 3)).alloc (.cells #[.int .i64 1, .int .i64 2] 3))
      (.cells #[.slice none 0 0, .slice (some ⟨w.heap.size, 0, none⟩) 1 1, .slice (some ⟨w.heap.size + 1, 0, none⟩) 1 1, .slice (some ⟨w.heap.size + 1 + 1, 0, none⟩) 2 2, .slice (some ⟨w.heap.size + 1 + 1 + 1, 0, none⟩) 2 2, .slice none 0 0] 29)
    rw [heap_alloc_size, heap_alloc_size, heap_alloc_size, heap_alloc_size] at this
    exact this
  rw [← hW]
  clear hW
  generalize w.heap.size + 1 + 1 + 1 + 1 = B at *
  generalize w.heap.size + 1 + 1 + 1 = B3 at *
  generalize w.heap.size + 1 + 1 = B2 at *
  generalize w.heap.size + 1 = B1 at *
  generalize w.heap.size = B0 at *
  have nil0 : ∀ (i : Nat) (x : Int), ([] : List Int)[i]? = some x → ∃ b' o', (none : Option Addr) = some ⟨b', o', none⟩ ∧ W.cell? ⟨b', o' + i, none⟩ = some (.int .i64 x) := fun i x h => by simp at h
  intro j r hj
  match j, hj with
  | 0, hj => cases hj; exact ⟨B, 0, none, 0, rfl, lit_cell W B 0 _ 29 h4 _ rfl, Nat.le_refl _, by unfold maxLen; omega, nil0⟩
  | 1, hj => cases hj; exact ⟨B, 0, _, 1, rfl, lit_cell W B 1 _ 29 h4 _ rfl, Nat.le_refl _, by unfold maxLen; omega, row_lit W B0 _ h0⟩
  | 2, hj => cases hj; exact ⟨B, 0, _, 1, rfl, lit_cell W B 2 _ 29 h4 _ rfl, Nat.le_refl _, by unfold maxLen; omega, row_lit W B1 _ h1⟩
  | 3, hj => cases hj; exact ⟨B, 0, _, 2, rfl, lit_cell W B 3 _ 29 h4 _ rfl, Nat.le_refl _, by unfold maxLen; omega, row_lit W B2 _ h2⟩
  | 4, hj => cases hj; exact ⟨B, 0, _, 2, rfl, lit_cell W B 4 _ 29 h4 _ rfl, Nat.le_refl _, by unfold maxLen; omega, row_lit W B3 _ h3⟩
  | 5, hj => cases hj; exact ⟨B, 0, none, 0, rfl, lit_cell W B 5 _ 29 h4 _ rfl, Nat.le_refl _, by unfold maxLen; omega, nil0⟩
  | j + 6, hj => simp [rows0] at hj

theorem one_row (w : World) : RowFacts ((w.alloc (.cells #[.int .i64 0] 3)).alloc (.cells #[.slice (some ⟨w.heap.size, 0, none⟩) 1 1] 29)) (some ⟨w.heap.size + 1, 0, none⟩) [[0]] := by
  obtain ⟨W, hW⟩ : ∃ W, W = (w.alloc (.cells #[.int .i64 0] 3)).alloc (.cells #[.slice (some ⟨w.heap.size, 0, none⟩) 1 1] 29) := ⟨_, rfl⟩
  have h0 : W.heap[w.heap.size]? = some (.cells ([0].map (Value.int .i64)).toArray 3 (0, 0)) := by
    rw [hW]
    exact (ext_alloc (w.alloc (.cells #[.int .i64 0] 3)) _).heap (heap_alloc_new w _)
  have h1 : W.heap[w.heap.size + 1]? = some (.cells #[.slice (some ⟨w.heap.size, 0, none⟩) 1 1] 29 (0, 0)) := by
    rw [hW]
    have := heap_alloc_new (w.alloc (.cells #[.int .i64 0] 3)) (.cells #[.slice (some ⟨w.heap.size, 0, none⟩) 1 1] 29)
    rw [heap_alloc_size] at this
    exact this
  rw [← hW]
  clear hW
  intro j r hj
  match j, hj with
  | 0, hj => cases hj; exact ⟨_, 0, _, 1, rfl, lit_cell W _ 0 _ 29 h1 _ rfl, Nat.le_refl _, by unfold maxLen; omega, row_lit W _ _ h0⟩
  | j + 1, hj => simp at hj

set_option maxHeartbeats 1000000 in
theorem small_any (w : World) : Calls Try.prog 8 #[] w (Gives (.bool true) w) := by
  have HF0 := Lib.hid (small_rows w)
  go_enter Try.func8, Try.ntmps8
  go_wp2_with fail
  obtain ⟨w1, hw1⟩ : ∃ w1, w1 = ((((w.alloc (.cells #[.int .i64 0] 3)).alloc (.cells #[.int .i64 0] 3)).alloc (.cells #[.int .i64 1, .int .i64 2] 3)).alloc (.cells #[.int .i64 1, .int .i64 2] 3)).alloc
      (.cells #[.slice none 0 0, .slice (some ⟨w.heap.size, 0, none⟩) 1 1, .slice (some ⟨w.heap.size + 1, 0, none⟩) 1 1, .slice (some ⟨w.heap.size + 1 + 1, 0, none⟩) 2 2, .slice (some ⟨w.heap.size + 1 + 1 + 1, 0, none⟩) 2 2, .slice none 0 0] 29) := ⟨_, rfl⟩
  rw [← hw1] at HF0 ⊢
  have HE1 : Hid (Ext w w1) := Lib.hid (by rw [hw1]; exact ((((ext_alloc _ _).alloc _).alloc _).alloc _).alloc _)
  clear hw1
  have HF : Hid (∀ W, Ext w1 W → RowFacts W (some ⟨w.heap.size + 1 + 1 + 1 + 1, 0, none⟩) rows0) := Lib.hid fun W hW => HF0.out.ext hW
  generalize w.heap.size + 1 + 1 + 1 + 1 = B at *
  generalize w.heap.size + 1 + 1 + 1 = B3 at *
  generalize w.heap.size + 1 + 1 = B2 at *
  generalize w.heap.size + 1 = B1 at *
  generalize w.heap.size = B0 at *
  have HX1 : Hid (Ext w1 w1) := Lib.hid (ext_refl _)
  clear HF0
  have c := (right_walk 6 6 _ rows0 w1 rfl (by omega) (HF.out _ HX1.out)).mono fun e w' h => h.gives
  rw [show right rows0 = true from by decide] at c
  refine c.mono ?_
  rintro e w2 ⟨rfl, h⟩
  have HX2 : Hid (Ext w1 w2) := Lib.hid (HX1.out.trans h)
  clear c h
  go_wp2_with fail
  have c := bases_any 6 6 _ rows0 rfl (by omega) 3 4 w2 (HF.out _ HX2.out)
  rw [show basesL rows0 3 4 = [1, 2] from by decide] at c
  refine c.mono ?_
  rintro e w3 ⟨v, rfl, ho, h⟩
  have HX3 : Hid (Ext w1 w3) := Lib.hid (HX2.out.trans h)
  obtain ⟨ao, cp, rfl, hc⟩ := ho.facts' 2 rfl (by omega)
  have HC := Lib.hid hc
  clear c h ho hc
  go_wp2_with fail
  refine (ints_same 2 cp 2 ao _ [1, 2] rfl (by omega) _ (HC.out.ext (ext_alloc _ _)) (ints_lit _ [1, 2])).mono ?_
  rintro e w4 ⟨rfl, h⟩
  have HX4 : Hid (Ext w1 w4) := Lib.hid (HX3.out.trans ((ext_alloc _ _).trans h))
  clear HC h
  go_wp2_with fail
  have c := (base_any 6 6 _ rows0 rfl (by omega) 3 4 w4 (HF.out _ HX4.out)).mono fun e w' h => h
  rw [show baseI rows0 3 4 = 2 from by decide] at c
  refine c.mono ?_
  rintro e w5 ⟨rfl, h⟩
  have HX5 : Hid (Ext w1 w5) := Lib.hid (HX4.out.trans h)
  clear c h
  go_wp2_with fail
  have c := (base_any 6 6 _ rows0 rfl (by omega) 3 5 w5 (HF.out _ HX5.out)).mono fun e w' h => h
  rw [show baseI rows0 3 5 = -1 from by decide] at c
  refine c.mono ?_
  rintro e w6 ⟨rfl, h⟩
  have HX6 : Hid (Ext w1 w6) := Lib.hid (HX5.out.trans h)
  clear c h
  go_wp2_with fail
  have c := dbehind_any 6 6 _ rows0 rfl (by omega) 3 w6 (HF.out _ HX6.out)
  rw [show behindL rows0 3 = [0, 1, 2, 3] from by decide] at c
  refine c.mono ?_
  rintro e w7 ⟨v, rfl, ho, h⟩
  have HX7 : Hid (Ext w1 w7) := Lib.hid (HX6.out.trans h)
  obtain ⟨ao, cp, rfl, hc⟩ := ho.facts' 4 rfl (by omega)
  have HC := Lib.hid hc
  clear c h ho hc
  go_wp2_with fail
  refine (ints_same 4 cp 4 ao _ [0, 1, 2, 3] rfl (by omega) _ (HC.out.ext (ext_alloc _ _)) (ints_lit _ [0, 1, 2, 3])).mono ?_
  rintro e w8 ⟨rfl, h⟩
  have HX8 : Hid (Ext w1 w8) := Lib.hid (HX7.out.trans ((ext_alloc _ _).trans h))
  clear HC h
  go_wp2_with fail
  have c := heads_any 6 6 _ rows0 rfl (by omega) w8 (HF.out _ HX8.out)
  rw [show headsL rows0 = [3, 4, 5] from by decide] at c
  refine c.mono ?_
  rintro e w9 ⟨v, rfl, ho, h⟩
  have HX9 : Hid (Ext w1 w9) := Lib.hid (HX8.out.trans h)
  obtain ⟨ao, cp, rfl, hc⟩ := ho.facts' 3 rfl (by omega)
  have HC := Lib.hid hc
  clear c h ho hc
  go_wp2_with fail
  refine (ints_same 3 cp 3 ao _ [3, 4, 5] rfl (by omega) _ (HC.out.ext (ext_alloc _ _)) (ints_lit _ [3, 4, 5])).mono ?_
  rintro e w10 ⟨rfl, h⟩
  have HX10 : Hid (Ext w1 w10) := Lib.hid (HX9.out.trans ((ext_alloc _ _).trans h))
  clear HC h
  go_wp2_with fail
  have c := new_any 6 6 _ rows0 rfl (by omega) 1 3 w10 (HF.out _ HX10.out)
  rw [show newL rows0 1 3 = [2, 3] from by decide] at c
  refine c.mono ?_
  rintro e w11 ⟨v, rfl, ho, h⟩
  have HX11 : Hid (Ext w1 w11) := Lib.hid (HX10.out.trans h)
  obtain ⟨ao, cp, rfl, hc⟩ := ho.facts' 2 rfl (by omega)
  have HC := Lib.hid hc
  clear c h ho hc
  go_wp2_with fail
  refine (ints_same 2 cp 2 ao _ [2, 3] rfl (by omega) _ (HC.out.ext (ext_alloc _ _)) (ints_lit _ [2, 3])).mono ?_
  rintro e w12 ⟨rfl, h⟩
  have HX12 : Hid (Ext w1 w12) := Lib.hid (HX11.out.trans ((ext_alloc _ _).trans h))
  clear HC h
  go_wp2_with fail
  have c := (depth_any 6 6 _ rows0 rfl (by omega) 4 w12 (HF.out _ HX12.out)).mono fun e w' h => h
  rw [show depthI rows0 4 = 3 from by decide] at c
  refine c.mono ?_
  rintro e w13 ⟨rfl, h⟩
  have HX13 : Hid (Ext w1 w13) := Lib.hid (HX12.out.trans h)
  clear c h
  go_wp2_with fail
  have c := (is_any 6 6 _ rows0 rfl (by omega) 0 4 w13 (HF.out _ HX13.out)).mono fun e w' h => h
  rw [show isB rows0 0 4 = true from by decide] at c
  refine c.mono ?_
  rintro e w14 ⟨rfl, h⟩
  have HX14 : Hid (Ext w1 w14) := Lib.hid (HX13.out.trans h)
  clear c h
  go_wp2_with fail
  have c := (is_any 6 6 _ rows0 rfl (by omega) 3 4 w14 (HF.out _ HX14.out)).mono fun e w' h => h
  rw [show isB rows0 3 4 = false from by decide] at c
  refine c.mono ?_
  rintro e w15 ⟨rfl, h⟩
  have HX15 : Hid (Ext w1 w15) := Lib.hid (HX14.out.trans h)
  clear c h
  go_wp2_with fail
  have c := (right_walk 1 1 _ [[0]] _ rfl (by omega) (one_row w15)).mono fun e w' h => h.gives
  rw [show right [[0]] = false from by decide] at c
  refine c.mono ?_
  rintro e w16 ⟨rfl, h⟩
  have HP : Hid (Gives (.bool true) w (.returned (.bool true)) w16) := Lib.hid ⟨rfl, HE1.out.trans (HX15.out.trans (((ext_alloc _ _).alloc _).trans h))⟩
  clear c h
  go_wp2_with fail
  go_ret
  exact HP.out
end Go.Proofs.Ytfajligmdjpekaa
