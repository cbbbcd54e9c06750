/- The document's Heads. -/
import Derived.Test.YtfajligmdjpekaaRefs2
namespace Go.Proofs.Ytfajligmdjpekaa
open Go.RowKit Go.Lib Go.Maps Go.Shelf

/-- Nobody of the first k stands before j. -/
def freeS (l : List (List Int)) (k j : Nat) : Bool := !(List.range k).any fun c => (pars l c).contains j
theorem freeS_succ {l : List (List Int)} {k : Nat} {r : List Int} (hk : l[k]? = some r) (j : Nat) : freeS l (k + 1) j = (freeS l k j && !r.any fun z => z.toNat == j) := by
  have : (pars l k).contains j = r.any fun z => z.toNat == j := by
    rw [Bool.eq_iff_iff, List.contains_iff_mem, mem_pars hk]; simp
  simp only [freeS, List.range_succ, List.any_append, List.any_cons, List.any_nil, Bool.or_false, this, Bool.not_or]

set_option maxHeartbeats 1000000 in
theorem refHeads_any (n c : Nat) (a : Option Addr) (l : List (List Int)) (hn : l.length = n) (hc : n ≤ 1000) (w : World) (hf : RowFacts w a l) :
    Calls Try.prog 26 #[.slice a n c] w (RowPost w (headsL l)) := by
  have HF := Lib.hid hf
  have HN := Lib.hid hn
  clear hf hn
  go_enter Try.func26, Try.ntmps26
  go_wp2_with fail
  refine (refRight_walk n c a l w HN.out hc HF.out).mono ?_
  rintro e w1 ⟨rfl, d, hd⟩
  have HE : Hid (Ext w w1) := Lib.hid (by rw [hd]; exact (ext_refl w).drewN d)
  clear hd
  cases hr : right l with
  | false =>
    have HP : Hid (RowPost w (headsL l) (.returned (.slice none 0 0)) w1) := Lib.hid ⟨_, rfl, by simp only [headsL, hr]; exact own_nil _ _, HE.out⟩
    clear hr
    go_wp2_with fail
    go_ret
    exact HP.out
  | true =>
    have HH : Hid (headsL l = rowOf n (freeS l n)) := Lib.hid (by
      rw [headsL, if_pos hr, HN.out]
      exact rowOf_congr fun j _ => by rw [headsS, freeS, HN.out])
    have HR := Lib.hid hr
    have hmk := make_bools w1 n hc
    clear hr
    go_wp2_with fail
    obtain ⟨g, hg⟩ : ∃ g, g = w1.heap.size := ⟨_, rfl⟩
    obtain ⟨w2, hw2⟩ : ∃ w2, w2 = w1.alloc (.cells (madeCells #[.bool false] n) 4) := ⟨_, rfl⟩
    rw [← hw2, ← hg]
    have HE2 : Hid (Ext w w2) := Lib.hid (by rw [hw2]; exact HE.out.alloc _)
    have HT2 : Hid (Tab w2 g 4 n (bools fun _ => false)) := Lib.hid (by rw [hw2, hg]; exact tab_made _ _ _ _)
    have hgw : w.heap.size ≤ g := by rw [hg]; exact HE.out.size
    clear hw2 hg hmk
    go_loopw [4] (fun q wr => ∃ k : Nat, k ≤ n ∧ q = .int .i64 k ∧ Hid (Tab wr g 4 n (bools fun j => decide (j < k))) ∧ Hid (Ext w wr)) (fun q _ => n - (intOf q).toNat)
    case atStart => exact ⟨0, Nat.zero_le _, rfl, Lib.hid (HT2.out.congr fun j _ => by simp [bools]), HE2⟩
    case round =>
      obtain ⟨k, hk, rfl, ht, he⟩ := hrel
      by_cases hlt : k < n
      · have hcell := ht.out.cell hlt
        have hfz := ht.out.thaw k
        have HT3 : Hid (Tab (wr.setCell ⟨g, k, none⟩ (.bool true)) g 4 n (bools fun j => decide (j < k + 1))) := Lib.hid ((ht.out.set k (.bool true)).congr fun j _ => by
          by_cases hjk : j = k
          · subst hjk; simp [bools]
          · have : decide (j < k) = decide (j < k + 1) := decide_eq_decide.2 (by omega)
            simp only [bools, if_neg hjk, this])
        have HE3 : Hid (Ext w (wr.setCell ⟨g, k, none⟩ (.bool true))) := Lib.hid (he.out.setCell hgw _)
        clear ht he
        go_wp2_with fail
        go_roundw
        case rel => exact ⟨k + 1, by omega, by go_num, HT3, HE3⟩
        case measure => simp [intOf]; omega
      · obtain rfl : k = n := by omega
        obtain ⟨wo, hwo⟩ : ∃ wo, wo = wr := ⟨_, rfl⟩
        subst hwo
        go_wp2_with fail
        go_loopw [5] (fun q wr => ∃ i : Nat, i ≤ k ∧ q = .int .i64 i ∧ Hid (Tab wr g 4 k (bools (freeS l i))) ∧ Hid (Ext w wr)) (fun q _ => k - (intOf q).toNat)
        case atStart => exact ⟨0, Nat.zero_le _, rfl, Lib.hid (ht.out.congr fun j hj => by simp [bools, freeS, hj]), he⟩
        case round =>
          obtain ⟨i, hi, rfl, ht2, he2⟩ := hrel
          by_cases hlt2 : i < k
          · have er : l[i]? = some (l[i]'(by rw [HN.out]; exact hlt2)) := List.getElem?_eq_getElem _
            generalize (l[i]'(by rw [HN.out]; exact hlt2)) = r at er
            obtain ⟨hr2, hrx⟩ := okRow_mem (right_row HR.out er)
            have HRX := Lib.hid hrx
            have HER := Lib.hid er
            obtain ⟨b, o, ar, cr, rfl, hu0, h3, h4, hx⟩ := HF.out i r er
            have HU0 := Lib.hid hu0
            have HX := Lib.hid hx
            obtain ⟨m, hm⟩ : ∃ m, m = r.length := ⟨_, rfl⟩
            rw [← hm] at hr2 h3
            have HMr := Lib.hid hm
            clear er hrx hu0 hx hm
            obtain ⟨wp, hwp⟩ : ∃ wp, wp = wr := ⟨_, rfl⟩
            subst hwp
            go_wp2_with fail
            go_loopw [6] (fun v wr => ∃ s : Nat, s ≤ m ∧ v = .int .i64 s ∧ Hid (Tab wr g 4 k (bools fun j => freeS l i j && !(r.take s).any fun z => z.toNat == j)) ∧ Hid (Ext w wr)) (fun v _ => m - (intOf v).toNat)
            case atStart => exact ⟨0, Nat.zero_le _, rfl, Lib.hid (ht2.out.congr fun j _ => by simp [bools]), he2⟩
            case round =>
              obtain ⟨s, hs, rfl, ht3, he3⟩ := hrel
              have hu := he3.out.cell HU0.out
              rw [← HMr.out] at hu
              by_cases hlt3 : s < m
              · have ep : r[s]? = some (r[s]'(by rw [← HMr.out]; exact hlt3)) := List.getElem?_eq_getElem _
                generalize (r[s]'(by rw [← HMr.out]; exact hlt3)) = z at ep
                have hz0 := HRX.out z (List.mem_of_getElem? ep)
                obtain ⟨p, rfl⟩ := Int.eq_ofNat_of_zero_le hz0.1
                have hpi : p < i := by omega
                obtain ⟨bp, op, rfl, hcp0⟩ := HX.out s p ep
                have hcp := he3.out.cell hcp0
                have hfz := ht3.out.thaw p
                have hcq := ht3.out.cell (j := p) (by omega)
                have HT5 : Hid (Tab (wr.setCell ⟨g, p, none⟩ (.bool false)) g 4 k (bools fun j => freeS l i j && !(r.take (s + 1)).any fun z => z.toNat == j)) := Lib.hid ((ht3.out.set p (.bool false)).congr fun j _ => by
                  rw [List.take_add_one, ep]
                  by_cases hjp : j = p
                  · subst hjp; simp [bools]
                  · have : (p == j) = false := by simp; omega
                    simp [bools, hjp, this])
                have HE5 : Hid (Ext w (wr.setCell ⟨g, p, none⟩ (.bool false))) := Lib.hid (he3.out.setCell hgw _)
                clear ep hz0 hcp0 ht3 he3
                go_wp2_with fail
                go_roundw
                case rel => exact ⟨s + 1, by omega, by go_num, HT5, HE5⟩
                case measure => simp [intOf]; omega
              · obtain rfl : s = m := by omega
                have HT4 : Hid (Tab wr g 4 k (bools (freeS l (i + 1)))) := Lib.hid (ht3.out.congr fun j _ => by
                  rw [bools, bools, freeS_succ HER.out, HMr.out, List.take_length])
                clear ht3
                go_wp2_with fail
                go_roundw
                case rel => exact ⟨i + 1, by omega, by go_num, HT4, he3⟩
                case measure => simp [intOf]; omega
          · obtain rfl : i = k := by omega
            go_wp2_with fail
            refine (rows_any i g i hc _ wr ht2.out).mono ?_
            rintro e w3 ⟨v, rfl, ho, h3⟩
            have HP : Hid (RowPost w (headsL l) (.returned v) w3) := Lib.hid ⟨v, rfl, by rw [HH.out]; exact ho.mono he2.out.size, he2.out.trans h3⟩
            obtain ⟨ao, m, cp, rfl⟩ := own_form ho
            clear ho h3
            go_wp2_with fail
            go_ret
            exact HP.out
end Go.Proofs.Ytfajligmdjpekaa
