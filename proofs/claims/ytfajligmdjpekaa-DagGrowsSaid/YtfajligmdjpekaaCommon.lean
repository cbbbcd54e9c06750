/- Those that stand behind both, and those that are new: dag.Common, dag.New. -/
import Derived.Test.YtfajligmdjpekaaDelete
namespace Go.Proofs.Ytfajligmdjpekaa
open Go.RowKit Go.Lib Go.Maps Go.Shelf

set_option maxHeartbeats 400000 in
theorem not_in (j : Nat) (hj : j < 64) (B mb : Nat) (S : Nat → Bool) (W : World) (hB : W.cell? ⟨B, 0, none⟩ = some (.map (some mb))) (hs : SetAt W mb S) :
    Calls Try.prog 37 #[.int .i64 j, .pointer (some ⟨B, 0, none⟩)] W fun e w' => e = .returned (.bool (!S j)) ∧ w' = W := by
  have hlook := hs.look (j := j) (by omega)
  clear hs
  generalize S j = z at *
  go_enter Try.func37, Try.ntmps37
  go_wp2_with fail
  go_ret
  exact ⟨rfl, rfl⟩
set_option maxHeartbeats 400000 in
theorem in_38 (j : Nat) (hj : j < 64) (B mb : Nat) (S : Nat → Bool) (W : World) (hB : W.cell? ⟨B, 0, none⟩ = some (.map (some mb))) (hs : SetAt W mb S) :
    Calls Try.prog 38 #[.int .i64 j, .pointer (some ⟨B, 0, none⟩)] W fun e w' => e = .returned (.bool (S j)) ∧ w' = W := by
  have hlook := hs.look (j := j) (by omega)
  clear hs
  generalize S j = z at *
  go_enter Try.func38, Try.ntmps38
  go_wp2_with fail
  go_ret
  exact ⟨rfl, rfl⟩
set_option maxHeartbeats 400000 in
theorem in_41 (j : Nat) (hj : j < 64) (B mb : Nat) (S : Nat → Bool) (W : World) (hB : W.cell? ⟨B, 0, none⟩ = some (.map (some mb))) (hs : SetAt W mb S) :
    Calls Try.prog 41 #[.int .i64 j, .pointer (some ⟨B, 0, none⟩)] W fun e w' => e = .returned (.bool (S j)) ∧ w' = W := by
  have hlook := hs.look (j := j) (by omega)
  clear hs
  generalize S j = z at *
  go_enter Try.func41, Try.ntmps41
  go_wp2_with fail
  go_ret
  exact ⟨rfl, rfl⟩

/-- What lay below the row is there behind a call that turns the row alone. -/
theorem grown_cell {w W : World} {row : Option Nat} {base : Nat} (h : w.grownBy W row) (hr : ∀ k, row = some k → base ≤ k) {p : Addr} (hp : p.block < base) {v : Value} (hc : w.cell? p = some v) : W.cell? p = some v := by
  have hlt := World.block_lt_of_cell? w p hc
  simp only [World.cell?] at hc ⊢
  rw [h.block _ hlt (fun e => by have := hr _ e.symm; omega)]
  exact hc
theorem grown_set {w W : World} {row : Option Nat} {base : Nat} (h : w.grownBy W row) (hr : ∀ k, row = some k → base ≤ k) {b : Nat} (hp : b < base) {S : Nat → Bool} (hs : SetAt w b S) : SetAt W b S := by
  have hlt := hs.lt
  obtain ⟨D, ⟨es, k, hb, h1⟩, h2⟩ := hs
  exact ⟨D, ⟨es, k, (h.block _ hlt (fun e => by have := hr _ e.symm; omega)).trans hb, h1⟩, h2⟩
theorem own_block {base : Nat} {w : World} {v : Value} {xs : List Int} (h : Own base w v xs) : ∀ k, v.ownBlock = some k → base ≤ k := fun k hk => (h.lt k hk).1
theorem own_shape {base : Nat} {w : World} {v : Value} {xs : List Int} (h : Own base w v xs) : ∃ ao cp, v = .slice ao xs.length cp := by
  rcases h.2 with ⟨h, h0⟩ | ⟨g, cp, cur, h, _⟩
  · exact ⟨none, 0, by rw [h, h0]⟩
  · exact ⟨_, _, h⟩
theorem own_form {base : Nat} {w : World} {v : Value} {xs : List Int} (h : Own base w v xs) : ∃ ao m cp, v = .slice ao m cp := by
  obtain ⟨ao, cp, hv⟩ := own_shape h
  exact ⟨ao, _, cp, hv⟩
theorem enters37 : ∀ args w, (callFunc 37 args).run Try.prog w = .ok (.enter 37 args) w := enters_of Try.func37 (by kernel_rfl) rfl
theorem enters38 : ∀ args w, (callFunc 38 args).run Try.prog w = .ok (.enter 38 args) w := enters_of Try.func38 (by kernel_rfl) rfl
theorem enters41 : ∀ args w, (callFunc 41 args).run Try.prog w = .ok (.enter 41 args) w := enters_of Try.func41 (by kernel_rfl) rfl

set_option maxHeartbeats 400000 in
theorem common_any (n c : Nat) (a : Option Addr) (l : List (List Int)) (hn : l.length = n) (hc : n ≤ 1000) (x y : Int) (w : World) (hf : RowFacts w a l) :
    Calls Try.prog 21 #[.slice a n c, .int .i64 x, .int .i64 y] w (RowPost w (commonL l x y)) := by
  have HF := Lib.hid hf
  have HN := Lib.hid hn
  clear hf hn
  go_enter Try.func21, Try.ntmps21
  go_wp2_with fail
  refine (there_two n c a l HN.out hc x y w HF.out).mono ?_
  rintro e w1 ⟨rfl, h1⟩
  have HE := Lib.hid h1
  clear h1
  cases ht : there2 l x y with
  | false =>
    have HP : Hid (RowPost w (commonL l x y) (.returned (.slice none 0 0)) w1) := Lib.hid ⟨_, rfl, by simp only [commonL, ht]; exact own_nil _ _, HE.out⟩
    clear ht
    go_wp2_with fail
    go_ret
    exact HP.out
  | true =>
    obtain ⟨hr, ⟨i, rfl, hi⟩, ⟨j, rfl, hj⟩⟩ := there2_open ht
    have HC : Hid (commonL l i j = rowOf n (commonS l i j)) := Lib.hid (by simp [commonL, ht, HN.out])
    have HB1 : Hid (behindL l i = rowOf n (anc l i)) := Lib.hid (by simp [behindL, there1, hr, inR, HN.out]; rw [HN.out] at hi; exact fun h => absurd hi (by omega))
    have h64 : n ≤ 64 := by rw [← HN.out]; exact right_length hr
    have HR := Lib.hid hr
    rw [HN.out] at hi hj
    clear ht hr
    go_wp2_with fail
    refine (behind_any n c a l HR.out HN.out j hj w1 (HF.out.ext HE.out)).mono ?_
    rintro e w2 ⟨mb, rfl, hmb, hs, h2⟩
    have HE2 := Lib.hid (HE.out.trans h2)
    have HS := Lib.hid hs
    have hmb2 := hs.lt
    clear hs h2
    go_wp2_with fail
    obtain ⟨w3, hw3⟩ : ∃ w3, w3 = w2.alloc (.cells #[.map (some mb)] 38) := ⟨_, rfl⟩
    rw [← hw3]
    have hE3 : Ext w2 w3 := by rw [hw3]; exact ext_alloc _ _
    have hB3 : w3.cell? ⟨w2.heap.size, 0, none⟩ = some (.map (some mb)) := by rw [hw3]; exact cell_new1 _ _ _
    have hz3 : w3.heap.size = w2.heap.size + 1 := by rw [hw3]; simp
    have HE3 := Lib.hid hE3
    have HBx := Lib.hid hB3
    clear hw3 hE3 hB3
    refine (dbehind_any n c a l HN.out hc i w3 (HF.out.ext (HE2.out.trans HE3.out))).mono ?_
    rintro e w4 ⟨v, rfl, ho, h4⟩
    rw [HB1.out] at ho
    obtain ⟨ao, m, cp, hv⟩ := own_form ho
    have HO := Lib.hid ho
    have HE4 := Lib.hid h4
    have HD := Lib.hid (delete_own 37 #[.pointer (some ⟨w2.heap.size, 0, none⟩)] enters37 (fun k => !anc l j k) (anc l i) n _ h64 v w4 ho (fun W hW k hk =>
      not_in k hk w2.heap.size mb (anc l j) W (grown_cell hW (own_block HO.out) (by show w2.heap.size < _; omega) (HE4.out.cell HBx.out)) (grown_set hW (own_block HO.out) (by omega) ((HS.out.ext HE3.out).ext HE4.out))))
    clear ho h4
    subst hv
    go_wp2_with fail
    refine HD.out.mono ?_
    rintro e w5 ⟨v', rfl, ho5, hg5⟩
    obtain ⟨ao', m', cp', hv'⟩ := own_form ho5
    have HP : Hid (RowPost w (commonL l i j) (.returned v') w5) := Lib.hid ⟨v', rfl, by
      rw [HC.out]
      have : (fun k => anc l i k && !!anc l j k) = commonS l i j := funext fun k => by simp [commonS]
      rw [this] at ho5
      exact ho5.mono (by have := (HE2.out.trans HE3.out).size; omega),
      ((HE2.out.trans HE3.out).trans HE4.out).grown hg5 (fun k hk => by have := own_block HO.out k hk; have := (HE2.out.trans HE3.out).size; omega)⟩
    clear ho5 hg5
    subst hv'
    go_wp2_with fail
    go_ret
    exact HP.out

set_option maxHeartbeats 400000 in
theorem new_any (n c : Nat) (a : Option Addr) (l : List (List Int)) (hn : l.length = n) (hc : n ≤ 1000) (x y : Int) (w : World) (hf : RowFacts w a l) :
    Calls Try.prog 27 #[.slice a n c, .int .i64 x, .int .i64 y] w (RowPost w (newL l x y)) := by
  have HF := Lib.hid hf
  have HN := Lib.hid hn
  clear hf hn
  go_enter Try.func27, Try.ntmps27
  go_wp2_with fail
  refine (there_two n c a l HN.out hc x y w HF.out).mono ?_
  rintro e w1 ⟨rfl, h1⟩
  have HE := Lib.hid h1
  clear h1
  cases ht : there2 l x y with
  | false =>
    have HP : Hid (RowPost w (newL l x y) (.returned (.slice none 0 0)) w1) := Lib.hid ⟨_, rfl, by simp only [newL, ht]; exact own_nil _ _, HE.out⟩
    clear ht
    go_wp2_with fail
    go_ret
    exact HP.out
  | true =>
    obtain ⟨hr, ⟨i, rfl, hi⟩, ⟨j, rfl, hj⟩⟩ := there2_open ht
    have HC : Hid (newL l i j = rowOf n (fun k => anc l j k && !anc l i k)) := Lib.hid (by simp [newL, ht, HN.out])
    have HB1 : Hid (behindL l j = rowOf n (anc l j)) := Lib.hid (by simp [behindL, there1, hr, inR, HN.out]; rw [HN.out] at hj; exact fun h => absurd hj (by omega))
    have h64 : n ≤ 64 := by rw [← HN.out]; exact right_length hr
    have HR := Lib.hid hr
    rw [HN.out] at hi hj
    clear ht hr
    go_wp2_with fail
    refine (behind_any n c a l HR.out HN.out i hi w1 (HF.out.ext HE.out)).mono ?_
    rintro e w2 ⟨mb, rfl, hmb, hs, h2⟩
    have HE2 := Lib.hid (HE.out.trans h2)
    have HS := Lib.hid hs
    have hmb2 := hs.lt
    clear hs h2
    go_wp2_with fail
    obtain ⟨w3, hw3⟩ : ∃ w3, w3 = w2.alloc (.cells #[.map (some mb)] 38) := ⟨_, rfl⟩
    rw [← hw3]
    have hE3 : Ext w2 w3 := by rw [hw3]; exact ext_alloc _ _
    have hB3 : w3.cell? ⟨w2.heap.size, 0, none⟩ = some (.map (some mb)) := by rw [hw3]; exact cell_new1 _ _ _
    have hz3 : w3.heap.size = w2.heap.size + 1 := by rw [hw3]; simp
    have HE3 := Lib.hid hE3
    have HBx := Lib.hid hB3
    clear hw3 hE3 hB3
    refine (dbehind_any n c a l HN.out hc j w3 (HF.out.ext (HE2.out.trans HE3.out))).mono ?_
    rintro e w4 ⟨v, rfl, ho, h4⟩
    rw [HB1.out] at ho
    obtain ⟨ao, m, cp, hv⟩ := own_form ho
    have HO := Lib.hid ho
    have HE4 := Lib.hid h4
    have HD := Lib.hid (delete_own 41 #[.pointer (some ⟨w2.heap.size, 0, none⟩)] enters41 (anc l i) (anc l j) n _ h64 v w4 ho (fun W hW k hk =>
      in_41 k hk w2.heap.size mb (anc l i) W (grown_cell hW (own_block HO.out) (by show w2.heap.size < _; omega) (HE4.out.cell HBx.out)) (grown_set hW (own_block HO.out) (by omega) ((HS.out.ext HE3.out).ext HE4.out))))
    clear ho h4
    subst hv
    go_wp2_with fail
    refine HD.out.mono ?_
    rintro e w5 ⟨v', rfl, ho5, hg5⟩
    obtain ⟨ao', m', cp', hv'⟩ := own_form ho5
    have HP : Hid (RowPost w (newL l i j) (.returned v') w5) := Lib.hid ⟨v', rfl, by
      rw [HC.out]
      exact ho5.mono (by have := (HE2.out.trans HE3.out).size; omega),
      ((HE2.out.trans HE3.out).trans HE4.out).grown hg5 (fun k hk => by have := own_block HO.out k hk; have := (HE2.out.trans HE3.out).size; omega)⟩
    clear ho5 hg5
    subst hv'
    go_wp2_with fail
    go_ret
    exact HP.out
end Go.Proofs.Ytfajligmdjpekaa
