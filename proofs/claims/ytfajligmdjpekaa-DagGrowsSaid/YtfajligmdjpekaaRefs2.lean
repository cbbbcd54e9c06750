/- The document's Common, New. -/
import Derived.Test.YtfajligmdjpekaaRefs
namespace Go.Proofs.Ytfajligmdjpekaa
open Go.RowKit Go.Lib Go.Maps Go.Shelf

set_option maxHeartbeats 1000000 in
theorem refCommon_any (n c : Nat) (a : Option Addr) (l : List (List Int)) (hn : l.length = n) (hc : n ≤ 1000) (x y : Int) (w : World) (hf : RowFacts w a l) :
    Calls Try.prog 22 #[.slice a n c, .int .i64 x, .int .i64 y] w (RowPost w (commonL l x y)) := by
  have HF := Lib.hid hf
  have HN := Lib.hid hn
  clear hf hn
  go_enter Try.func22, Try.ntmps22
  go_wp2_with fail
  refine (marks_any n c a l HN.out hc x w HF.out).mono ?_
  rintro e w1 ⟨g, rfl, hg, ht, h1⟩
  have HE := Lib.hid h1
  have HT := Lib.hid ht
  have hgl := ht.lt
  clear ht h1
  go_wp2_with fail
  refine (marks_any n c a l HN.out hc y w1 (HF.out.ext HE.out)).mono ?_
  rintro e w2 ⟨g2, rfl, hg2, ht2, h2⟩
  have HE2 := Lib.hid (HE.out.trans h2)
  have HTA := Lib.hid (HT.out.ext h2)
  have HTB := Lib.hid ht2
  have hne : g2 ≠ g := by omega
  clear ht2 h2
  go_wp2_with fail
  go_loopw [9] (fun q wr => ∃ k : Nat, k ≤ n ∧ q = .int .i64 k ∧ Hid (Tab wr g 4 n (bools fun j => marksM l x j && (decide (k ≤ j) || marksM l y j))) ∧ Hid (But g w2 wr)) (fun q _ => n - (intOf q).toNat)
  case atStart => exact ⟨0, Nat.zero_le _, rfl, Lib.hid (HTA.out.congr fun j _ => by simp [bools]), Lib.hid (But.refl _ _)⟩
  case round =>
    obtain ⟨k, hk, rfl, htk, hb⟩ := hrel
    by_cases hlt : k < n
    · have hca := htk.out.cell hlt
      have hfz := htk.out.thaw k
      have hcb := (HTB.out.but hb.out hne).cell hlt
      simp only [bools] at hca hcb
      have hv : (marksM l x k && (decide (k ≤ k) || marksM l y k)) = marksM l x k := by simp
      rw [hv] at hca
      have HT1 : Hid (∀ z, z = (marksM l x k && marksM l y k) → Tab (wr.setCell ⟨g, k, none⟩ (.bool z)) g 4 n (bools fun j => marksM l x j && (decide (k + 1 ≤ j) || marksM l y j))) := Lib.hid fun z hz => (htk.out.set k (.bool z)).congr fun j _ => by
        by_cases hjk : j = k
        · subst hjk; simp [bools, hz, show ¬ (j + 1 ≤ j) by omega]
        · have : decide (k + 1 ≤ j) = decide (k ≤ j) := decide_eq_decide.2 (by omega)
          simp only [bools, if_neg hjk, this]
      have HB1 : ∀ z, Hid (But g w2 (wr.setCell ⟨g, k, none⟩ (.bool z))) := fun z => Lib.hid (hb.out.trans (but_set _ _ _ _))
      clear htk hb hv
      generalize marksM l x k = zx at *
      generalize marksM l y k = zy at *
      cases zx
      · go_wp2_with fail
        go_roundw
        case rel => exact ⟨k + 1, by omega, by go_num, Lib.hid (HT1.out _ rfl), HB1 _⟩
        case measure => simp [intOf]; omega
      · go_wp2_with fail
        go_roundw
        case rel => exact ⟨k + 1, by omega, by go_num, Lib.hid (HT1.out _ rfl), HB1 _⟩
        case measure => simp [intOf]; omega
    · obtain rfl : k = n := by omega
      have HTF : Hid (Tab wr g 4 k (bools fun j => marksM l x j && marksM l y j)) := Lib.hid (htk.out.congr fun j hj => by
        have : decide (k ≤ j) = false := decide_eq_false (by omega)
        simp only [bools, this, Bool.false_or])
      have HEW : Hid (Ext w wr) := Lib.hid (hb.out.ext HE2.out hg)
      clear htk hb
      go_wp2_with fail
      refine (rows_any k g k hc _ wr HTF.out).mono ?_
      rintro e w3 ⟨v, rfl, ho, h3⟩
      rw [commonL_marks HN.out] at ho
      have HP : Hid (RowPost w (commonL l x y) (.returned v) w3) := Lib.hid ⟨v, rfl, ho.mono HEW.out.size, HEW.out.trans h3⟩
      obtain ⟨ao, m, cp, rfl⟩ := own_form ho
      clear ho h3
      go_wp2_with fail
      go_ret
      exact HP.out

set_option maxHeartbeats 1000000 in
theorem refNew_any (n c : Nat) (a : Option Addr) (l : List (List Int)) (hn : l.length = n) (hc : n ≤ 1000) (x y : Int) (w : World) (hf : RowFacts w a l) :
    Calls Try.prog 28 #[.slice a n c, .int .i64 x, .int .i64 y] w (RowPost w (newL l x y)) := by
  have HF := Lib.hid hf
  have HN := Lib.hid hn
  clear hf hn
  have hno : inR l x = false → Hid (RowPost w (newL l x y) (.returned (.slice none 0 0)) w) := fun h => Lib.hid ⟨_, rfl, by rw [newL_out x y h]; exact own_nil _ _, ext_refl _⟩
  by_cases hx0 : x < 0
  · have d0 : decide (x < 0) = true := decide_eq_true hx0
    have HP := hno (by simp [inR]; omega)
    clear hno hx0
    go_enter Try.func28, Try.ntmps28
    go_wp2_with fail
    go_ret
    exact HP.out
  have d0 : decide (x < 0) = false := decide_eq_false hx0
  by_cases hxn : (n : Int) ≤ x
  · have d1 : decide ((n : Int) ≤ x) = true := decide_eq_true hxn
    have HP := hno (by simp [inR, HN.out]; omega)
    clear hno hx0 hxn
    go_enter Try.func28, Try.ntmps28
    go_wp2_with fail
    go_ret
    exact HP.out
  have d1 : decide ((n : Int) ≤ x) = false := decide_eq_false hxn
  have HX : Hid (inR l x = true) := Lib.hid (by simp [inR, HN.out]; omega)
  clear hno hx0 hxn
  go_enter Try.func28, Try.ntmps28
  go_wp2_with fail
  refine (marks_any n c a l HN.out hc x w HF.out).mono ?_
  rintro e w1 ⟨g, rfl, hg, ht, h1⟩
  have HE := Lib.hid h1
  have HT := Lib.hid ht
  have hgl := ht.lt
  clear ht h1
  go_wp2_with fail
  refine (marks_any n c a l HN.out hc y w1 (HF.out.ext HE.out)).mono ?_
  rintro e w2 ⟨g2, rfl, hg2, ht2, h2⟩
  have HE2 := Lib.hid (HE.out.trans h2)
  have HTA := Lib.hid (HT.out.ext h2)
  have HTB := Lib.hid ht2
  have hne : g ≠ g2 := by omega
  clear ht2 h2
  go_wp2_with fail
  go_loopw [9] (fun q wr => ∃ k : Nat, k ≤ n ∧ q = .int .i64 k ∧ Hid (Tab wr g2 4 n (bools fun j => marksM l y j && (decide (k ≤ j) || !marksM l x j))) ∧ Hid (But g2 w2 wr)) (fun q _ => n - (intOf q).toNat)
  case atStart => exact ⟨0, Nat.zero_le _, rfl, Lib.hid (HTB.out.congr fun j _ => by simp [bools]), Lib.hid (But.refl _ _)⟩
  case round =>
    obtain ⟨k, hk, rfl, htk, hb⟩ := hrel
    by_cases hlt : k < n
    · have hca := htk.out.cell hlt
      have hfz := htk.out.thaw k
      have hcb := (HTA.out.but hb.out hne).cell hlt
      simp only [bools] at hca hcb
      have hv : (marksM l y k && (decide (k ≤ k) || !marksM l x k)) = marksM l y k := by simp
      rw [hv] at hca
      have HT1 : Hid (∀ z, z = (marksM l y k && !marksM l x k) → Tab (wr.setCell ⟨g2, k, none⟩ (.bool z)) g2 4 n (bools fun j => marksM l y j && (decide (k + 1 ≤ j) || !marksM l x j))) := Lib.hid fun z hz => (htk.out.set k (.bool z)).congr fun j _ => by
        by_cases hjk : j = k
        · subst hjk; simp [bools, hz, show ¬ (j + 1 ≤ j) by omega]
        · have : decide (k + 1 ≤ j) = decide (k ≤ j) := decide_eq_decide.2 (by omega)
          simp only [bools, if_neg hjk, this]
      have HB1 : ∀ z, Hid (But g2 w2 (wr.setCell ⟨g2, k, none⟩ (.bool z))) := fun z => Lib.hid (hb.out.trans (but_set _ _ _ _))
      clear htk hb hv
      generalize marksM l x k = zx at *
      generalize marksM l y k = zy at *
      cases zy
      · go_wp2_with fail
        go_roundw
        case rel => exact ⟨k + 1, by omega, by go_num, Lib.hid (HT1.out _ rfl), HB1 _⟩
        case measure => simp [intOf]; omega
      · go_wp2_with fail
        go_roundw
        case rel => exact ⟨k + 1, by omega, by go_num, Lib.hid (HT1.out _ rfl), HB1 _⟩
        case measure => simp [intOf]; omega
    · obtain rfl : k = n := by omega
      have HTF : Hid (Tab wr g2 4 k (bools fun j => marksM l y j && !marksM l x j)) := Lib.hid (htk.out.congr fun j hj => by
        have : decide (k ≤ j) = false := decide_eq_false (by omega)
        simp only [bools, this, Bool.false_or])
      have HEW : Hid (Ext w wr) := Lib.hid (hb.out.ext HE2.out (by have := HE.out.size; omega))
      clear htk hb
      go_wp2_with fail
      refine (rows_any k g2 k hc _ wr HTF.out).mono ?_
      rintro e w3 ⟨v, rfl, ho, h3⟩
      rw [newL_marks HN.out x y HX.out] at ho
      have HP : Hid (RowPost w (newL l x y) (.returned v) w3) := Lib.hid ⟨v, rfl, ho.mono HEW.out.size, HEW.out.trans h3⟩
      obtain ⟨ao, m, cp, rfl⟩ := own_form ho
      clear ho h3
      go_wp2_with fail
      go_ret
      exact HP.out
end Go.Proofs.Ytfajligmdjpekaa
