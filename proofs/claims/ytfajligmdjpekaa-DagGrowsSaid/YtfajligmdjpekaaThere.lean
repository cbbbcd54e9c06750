/- Whether there are commits, in a right row; whether one stands behind another one; the row of those behind one. -/
import Derived.Test.YtfajligmdjpekaaBehind
namespace Go.Proofs.Ytfajligmdjpekaa
open Go.RowKit Go.Lib Go.Maps Go.Shelf

set_option maxHeartbeats 400000 in
theorem out_any (x : Int) (B n c : Nat) (a : Option Addr) (W : World) (hc : W.cell? ⟨B, 0, none⟩ = some (.slice a n c)) :
    Calls Try.prog 44 #[.int .i64 x, .pointer (some ⟨B, 0, none⟩)] W fun e w' => e = .returned (.bool (!(decide (0 ≤ x) && decide (x < n)))) ∧ w' = W := by
  by_cases h0 : x < 0
  · have d0 : decide (x < 0) = true := decide_eq_true h0
    have hr : Hid ((!(decide (0 ≤ x) && decide (x < (n : Int)))) = true) := Lib.hid (by simp; omega)
    clear h0
    go_enter Try.func44, Try.ntmps44
    go_wp2_with fail
    go_ret
    exact ⟨by rw [hr.out] <;> rfl, rfl⟩
  · have d0 : decide (x < 0) = false := decide_eq_false h0
    by_cases h1 : (n : Int) ≤ x
    · have d1 : decide ((n : Int) ≤ x) = true := decide_eq_true h1
      have hr : Hid ((!(decide (0 ≤ x) && decide (x < (n : Int)))) = true) := Lib.hid (by simp; omega)
      clear h0 h1
      go_enter Try.func44, Try.ntmps44
      go_wp2_with fail
      go_ret
      exact ⟨by rw [hr.out] <;> rfl, rfl⟩
    · have d1 : decide ((n : Int) ≤ x) = false := decide_eq_false h1
      have hr : Hid ((!(decide (0 ≤ x) && decide (x < (n : Int)))) = false) := Lib.hid (by simp; omega)
      clear h0 h1
      go_enter Try.func44, Try.ntmps44
      go_wp2_with fail
      go_ret
      exact ⟨by rw [hr.out] <;> rfl, rfl⟩

theorem out_at (B n c : Nat) (a : Option Addr) (w : World) (hc : w.cell? ⟨B, 0, none⟩ = some (.slice a n c)) : PredAt Try.prog 44 #[.pointer (some ⟨B, 0, none⟩)] (Value.int .i64) (fun x => !(decide (0 ≤ x) && decide (x < (n : Int)))) w :=
  fun W x hb => (out_any x B n c a W (Ext.cell hb hc)).mono fun _ _ ⟨h1, h2⟩ => ⟨h1, 0, h2⟩

/-- What hands back v and turns nothing that was there. -/
def Gives (v : Value) (w : World) (e : Ending) (w' : World) : Prop := e = .returned v ∧ Ext w w'

theorem enters44 : ∀ args w, (callFunc 44 args).run Try.prog w = .ok (.enter 44 args) w := enters_of Try.func44 (by kernel_rfl) rfl
theorem containsOut (B n c : Nat) (a : Option Addr) (b off cp : Nat) (zs : List Int) (w : World) (hB : w.cell? ⟨B, 0, none⟩ = some (.slice a n c)) (hl : zs.length ≤ 1000) (hc : ∀ j x, zs[j]? = some x → w.cell? ⟨b, off + j, none⟩ = some (.int .i64 x)) :
    Calls Try.prog 43 #[.slice (some ⟨b, off, none⟩) zs.length cp, .func (.func 44) #[] #[.pointer (some ⟨B, 0, none⟩)]] w (Gives (.bool (!zs.all fun x => decide (0 ≤ x) && decide (x < (n : Int)))) w) := by
  have h := AnyE.slices_ContainsFunc Try.lcf43 (Value.int .i64) (fun x => !(decide (0 ≤ x) && decide (x < (n : Int)))) 44 #[.pointer (some ⟨B, 0, none⟩)] enters44 b off zs.length cp zs w (out_at B n c a w hB) (Nat.le_refl _) (by omega)
    (fun j hj => by rw [getElem!_pos zs j hj]; exact hc j _ (List.getElem?_eq_getElem hj))
  rw [List.take_length] at h
  have h' : Calls Try.prog 43 #[.slice (some ⟨b, off, none⟩) zs.length cp, .func (.func 44) #[] #[.pointer (some ⟨B, 0, none⟩)]] w _ := h
  refine h'.mono ?_
  rintro e w' ⟨rfl, q, rfl⟩
  refine ⟨?_, (ext_refl w).drewN q⟩
  rw [List.not_all_eq_any_not]

set_option maxHeartbeats 400000 in
theorem there_any (n c : Nat) (a : Option Addr) (l : List (List Int)) (hn : l.length = n) (hc : n ≤ 1000) (b off cp : Nat) (zs : List Int) (hl : zs.length ≤ 1000) (w : World) (hf : RowFacts w a l)
    (hz : ∀ j x, zs[j]? = some x → w.cell? ⟨b, off + j, none⟩ = some (.int .i64 x)) :
    Calls Try.prog 30 #[.slice a n c, .slice (some ⟨b, off, none⟩) zs.length cp] w (Gives (.bool (right l && zs.all (inR l))) w) := by
  have HF := Lib.hid hf
  have HZ := Lib.hid hz
  have HA : Hid (zs.all (inR l) = zs.all fun x => decide (0 ≤ x) && decide (x < (n : Int))) := Lib.hid (by rw [← hn]; rfl)
  have HN := Lib.hid hn
  clear hf hz hn
  go_enter Try.func30, Try.ntmps30
  go_wp2_with fail
  obtain ⟨w1, hw1⟩ : ∃ w1, w1 = w.alloc (.cells #[.slice a n c] 22) := ⟨_, rfl⟩
  rw [← hw1]
  have hE : Ext w w1 := by rw [hw1]; exact (ext_refl w).alloc _
  have hB : w1.cell? ⟨w.heap.size, 0, none⟩ = some (.slice a n c) := by rw [hw1]; exact cell_new1 _ _ _
  have HE := Lib.hid hE
  clear hE hw1
  refine (right_walk n c a l w1 HN.out hc (HF.out.ext HE.out)).mono ?_
  rintro e w2 ⟨rfl, q, rfl⟩
  cases hr : right l with
  | false =>
    have HP : Hid (Gives (.bool (right l && zs.all (inR l))) w (.returned (.bool false)) (w1.drewN q)) := Lib.hid ⟨by rw [hr]; rfl, HE.out.drewN q⟩
    clear hr
    go_wp2_with fail
    go_ret
    exact HP.out
  | true =>
    obtain ⟨w3, hw3⟩ : ∃ w3, w3 = w1.drewN q := ⟨_, rfl⟩
    rw [← hw3]
    have hE3 : Ext w w3 := by rw [hw3]; exact HE.out.drewN q
    have hB3 : w3.cell? ⟨w.heap.size, 0, none⟩ = some (.slice a n c) := by rw [hw3]; exact hB
    have HE3 := Lib.hid hE3
    have HRT := Lib.hid hr
    clear hr hE3 hw3 hB
    go_wp2_with fail
    refine (containsOut w.heap.size n c a b off cp zs w3 hB3 hl (fun j x hj => HE3.out.cell (HZ.out j x hj))).mono ?_
    rintro e w4 ⟨rfl, h4⟩
    have HP : Hid (Gives (.bool (right l && zs.all (inR l))) w (.returned (.bool (zs.all fun x => decide (0 ≤ x) && decide (x < (n : Int))))) w4) := Lib.hid ⟨by rw [HRT.out, HA.out]; rfl, HE3.out.trans h4⟩
    clear h4 hB3
    generalize (zs.all fun x => decide (0 ≤ x) && decide (x < (n : Int))) = z at *
    cases z
    · go_wp2_with fail
      go_ret
      exact HP.out
    · go_wp2_with fail
      go_ret
      exact HP.out

theorem there_two (n c : Nat) (a : Option Addr) (l : List (List Int)) (hn : l.length = n) (hc : n ≤ 1000) (x y : Int) (w : World) (hf : RowFacts w a l) :
    Calls Try.prog 30 #[.slice a n c, .slice (some ⟨w.heap.size, 0, none⟩) 2 2] (w.alloc (.cells #[.int .i64 x, .int .i64 y] 3)) (Gives (.bool (there2 l x y)) w) := by
  have h := there_any n c a l hn hc w.heap.size 0 2 [x, y] (by simp) (w.alloc (.cells #[.int .i64 x, .int .i64 y] 3)) (hf.ext (ext_alloc _ _)) (fun j z hj => by
    match j, hj with
    | 0, hj => simp at hj; subst hj; exact cell_new w _ 3 0 _ rfl
    | 1, hj => simp at hj; subst hj; exact cell_new w _ 3 1 _ rfl
    | j + 2, hj => simp at hj)
  refine h.mono fun e w' ⟨h1, h2⟩ => ⟨?_, (ext_alloc w _).trans h2⟩
  rw [h1]; simp [there2, Bool.and_assoc]
theorem there_one (n c : Nat) (a : Option Addr) (l : List (List Int)) (hn : l.length = n) (hc : n ≤ 1000) (x : Int) (w : World) (hf : RowFacts w a l) :
    Calls Try.prog 30 #[.slice a n c, .slice (some ⟨w.heap.size, 0, none⟩) 1 1] (w.alloc (.cells #[.int .i64 x] 3)) (Gives (.bool (there1 l x)) w) := by
  have h := there_any n c a l hn hc w.heap.size 0 1 [x] (by simp) (w.alloc (.cells #[.int .i64 x] 3)) (hf.ext (ext_alloc _ _)) (fun j z hj => by
    match j, hj with
    | 0, hj => simp at hj; subst hj; exact cell_new w _ 3 0 _ rfl
    | j + 1, hj => simp at hj)
  refine h.mono fun e w' ⟨h1, h2⟩ => ⟨?_, (ext_alloc w _).trans h2⟩
  rw [h1]; simp [there1]

theorem inR_nat {l : List (List Int)} {x : Int} (h : inR l x = true) : ∃ k : Nat, x = k ∧ k < l.length := by
  simp only [inR, Bool.and_eq_true, decide_eq_true_eq] at h
  obtain ⟨k, rfl⟩ := Int.eq_ofNat_of_zero_le h.1
  exact ⟨k, rfl, by omega⟩
theorem there2_open {l : List (List Int)} {x y : Int} (h : there2 l x y = true) : right l = true ∧ (∃ k : Nat, x = k ∧ k < l.length) ∧ ∃ k : Nat, y = k ∧ k < l.length := by
  simp only [there2, Bool.and_eq_true] at h
  exact ⟨h.1.1, inR_nat h.1.2, inR_nat h.2⟩
theorem there1_open {l : List (List Int)} {x : Int} (h : there1 l x = true) : right l = true ∧ ∃ k : Nat, x = k ∧ k < l.length := by
  simp only [there1, Bool.and_eq_true] at h
  exact ⟨h.1, inR_nat h.2⟩

set_option maxHeartbeats 400000 in
/-- dag.Is. -/
theorem is_any (n c : Nat) (a : Option Addr) (l : List (List Int)) (hn : l.length = n) (hc : n ≤ 1000) (x y : Int) (w : World) (hf : RowFacts w a l) :
    Calls Try.prog 12 #[.slice a n c, .int .i64 x, .int .i64 y] w (Gives (.bool (isB l x y)) w) := by
  have HF := Lib.hid hf
  have HN := Lib.hid hn
  clear hf hn
  go_enter Try.func12, Try.ntmps12
  go_wp2_with fail
  refine (there_two n c a l HN.out hc x y w HF.out).mono ?_
  rintro e w1 ⟨rfl, h1⟩
  have HE := Lib.hid h1
  clear h1
  cases ht : there2 l x y with
  | false =>
    have HP : Hid (Gives (.bool (isB l x y)) w (.returned (.bool false)) w1) := Lib.hid ⟨by simp [isB, ht], HE.out⟩
    clear ht
    go_wp2_with fail
    go_ret
    exact HP.out
  | true =>
    obtain ⟨hr, ⟨i, rfl, hi⟩, ⟨j, rfl, hj⟩⟩ := there2_open ht
    have HB : Hid (isB l i j = anc l j i) := Lib.hid (by simp [isB, ht])
    have HR := Lib.hid hr
    rw [HN.out] at hi hj
    clear ht hr
    go_wp2_with fail
    refine (behind_any n c a l HR.out HN.out j hj w1 (HF.out.ext HE.out)).mono ?_
    rintro e w2 ⟨mb, rfl, hmb, hs, h2⟩
    have hlook := hs.look (j := i) (by omega)
    have HP : Hid (Gives (.bool (isB l i j)) w (.returned (.bool (anc l j i))) w2) := Lib.hid ⟨by rw [HB.out], HE.out.trans h2⟩
    clear hs h2 hmb
    generalize anc l j i = z at *
    go_wp2_with fail
    go_ret
    exact HP.out
end Go.Proofs.Ytfajligmdjpekaa
