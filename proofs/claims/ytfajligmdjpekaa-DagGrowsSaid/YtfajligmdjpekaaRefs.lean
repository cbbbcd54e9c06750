/- The document's Is, Behind, Common, New. -/
import Derived.Test.YtfajligmdjpekaaRows2
namespace Go.Proofs.Ytfajligmdjpekaa
open Go.RowKit Go.Lib Go.Maps Go.Shelf

theorem behindL_marks {l : List (List Int)} {n : Nat} (hn : l.length = n) (x : Int) : rowOf n (marksM l x) = behindL l x := by
  unfold behindL
  cases ht : there1 l x with
  | false =>
    rw [if_neg (by simp)]
    refine List.eq_nil_iff_forall_not_mem.2 fun z hz => ?_
    obtain ⟨j, _, hj, _⟩ := mem_rowOf.1 hz
    simp [marksM, ht] at hj
  | true =>
    rw [if_pos rfl, hn]
    exact rowOf_congr fun j _ => by simp [marksM, ht]
theorem there2_eq (l : List (List Int)) (x y : Int) : there2 l x y = (there1 l x && there1 l y) := by
  simp only [there2, there1]
  cases right l <;> simp
theorem commonL_marks {l : List (List Int)} {n : Nat} (hn : l.length = n) (x y : Int) : rowOf n (fun j => marksM l x j && marksM l y j) = commonL l x y := by
  unfold commonL
  cases ht : there2 l x y with
  | false =>
    rw [if_neg (by simp)]
    refine List.eq_nil_iff_forall_not_mem.2 fun z hz => ?_
    obtain ⟨j, _, hj, _⟩ := mem_rowOf.1 hz
    rw [there2_eq] at ht
    simp only [marksM, Bool.and_eq_true] at hj
    rw [hj.1.1, hj.2.1] at ht
    cases ht
  | true =>
    rw [if_pos rfl, hn]
    rw [there2_eq, Bool.and_eq_true] at ht
    exact rowOf_congr fun j _ => by simp [marksM, ht.1, ht.2, commonS]
theorem newL_marks {l : List (List Int)} {n : Nat} (hn : l.length = n) (x y : Int) (hx : inR l x = true) : rowOf n (fun j => marksM l y j && !marksM l x j) = newL l x y := by
  unfold newL
  cases ht : there2 l x y with
  | false =>
    rw [if_neg (by simp)]
    refine List.eq_nil_iff_forall_not_mem.2 fun z hz => ?_
    obtain ⟨j, _, hj, _⟩ := mem_rowOf.1 hz
    simp only [marksM, Bool.and_eq_true] at hj
    have hy := hj.1.1
    simp only [there1, Bool.and_eq_true] at hy
    rw [there2, hy.1, hx, hy.2] at ht
    cases ht
  | true =>
    rw [if_pos rfl, hn]
    rw [there2_eq, Bool.and_eq_true] at ht
    exact rowOf_congr fun j _ => by simp [marksM, ht.1, ht.2]
theorem newL_out {l : List (List Int)} (x y : Int) (hx : inR l x = false) : newL l x y = [] := by
  unfold newL; rw [if_neg (by simp [there2, hx])]
theorem isB_marks {l : List (List Int)} (x y : Int) : isB l x y = (inR l x && marksM l y x.toNat) := by
  simp only [isB, there2, marksM, there1]
  cases right l <;> cases inR l x <;> cases inR l y <;> simp

set_option maxHeartbeats 400000 in
theorem refBehind_any (n c : Nat) (a : Option Addr) (l : List (List Int)) (hn : l.length = n) (hc : n ≤ 1000) (x : Int) (w : World) (hf : RowFacts w a l) :
    Calls Try.prog 20 #[.slice a n c, .int .i64 x] w (RowPost w (behindL l x)) := by
  have HF := Lib.hid hf
  have HN := Lib.hid hn
  clear hf hn
  go_enter Try.func20, Try.ntmps20
  go_wp2_with fail
  refine (marks_any n c a l HN.out hc x w HF.out).mono ?_
  rintro e w1 ⟨g, rfl, hg, ht, h1⟩
  have HT := Lib.hid ht
  have HE := Lib.hid h1
  clear ht h1
  go_wp2_with fail
  refine (rows_any n g n hc _ w1 HT.out).mono ?_
  rintro e w2 ⟨v, rfl, ho, h2⟩
  rw [behindL_marks HN.out] at ho
  have HP : Hid (RowPost w (behindL l x) (.returned v) w2) := Lib.hid ⟨v, rfl, ho.mono HE.out.size, HE.out.trans h2⟩
  obtain ⟨ao, m, cp, rfl⟩ := own_form ho
  clear ho h2
  go_wp2_with fail
  go_ret
  exact HP.out

set_option maxHeartbeats 400000 in
theorem refIs_any (n c : Nat) (a : Option Addr) (l : List (List Int)) (hn : l.length = n) (hc : n ≤ 1000) (x y : Int) (w : World) (hf : RowFacts w a l) :
    Calls Try.prog 13 #[.slice a n c, .int .i64 x, .int .i64 y] w (Gives (.bool (isB l x y)) w) := by
  have HF := Lib.hid hf
  have HN := Lib.hid hn
  clear hf hn
  go_enter Try.func13, Try.ntmps13
  go_wp2_with fail
  refine (marks_any n c a l HN.out hc y w HF.out).mono ?_
  rintro e w1 ⟨g, rfl, hg, ht, h1⟩
  have HE := Lib.hid h1
  have HT := Lib.hid ht
  clear ht h1
  by_cases h0 : 0 ≤ x
  · have d0 : decide (0 ≤ x) = true := decide_eq_true h0
    obtain ⟨k, rfl⟩ := Int.eq_ofNat_of_zero_le h0
    by_cases hn' : k < n
    · have d1 : decide ((k : Int) < n) = true := decide_eq_true (by omega)
      have hcell := HT.out.cell hn'
      simp only [bools] at hcell
      have HP : Hid (Gives (.bool (isB l k y)) w (.returned (.bool (marksM l y k))) w1) := Lib.hid ⟨by rw [isB_marks]; simp [inR, HN.out, hn'], HE.out⟩
      generalize marksM l y k = z at *
      clear h0
      go_wp2_with fail
      go_ret
      exact HP.out
    · have d1 : decide ((k : Int) < n) = false := decide_eq_false (by omega)
      have HP : Hid (Gives (.bool (isB l k y)) w (.returned (.bool false)) w1) := Lib.hid ⟨by rw [isB_marks]; simp [inR, HN.out, hn'], HE.out⟩
      clear h0
      go_wp2_with fail
      go_ret
      exact HP.out
  · have d0 : decide (0 ≤ x) = false := decide_eq_false h0
    have HP : Hid (Gives (.bool (isB l x y)) w (.returned (.bool false)) w1) := Lib.hid ⟨by rw [isB_marks]; simp [inR, h0], HE.out⟩
    clear h0
    go_wp2_with fail
    go_ret
    exact HP.out
end Go.Proofs.Ytfajligmdjpekaa
