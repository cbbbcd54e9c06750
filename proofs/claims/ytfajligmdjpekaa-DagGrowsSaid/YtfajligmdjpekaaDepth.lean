/- dag.Depth. -/
import Derived.Test.YtfajligmdjpekaaRefDepth
namespace Go.Proofs.Ytfajligmdjpekaa
open Go.RowKit Go.Lib Go.Maps Go.Shelf

set_option maxHeartbeats 1000000 in
theorem depth_any (n c : Nat) (a : Option Addr) (l : List (List Int)) (hn : l.length = n) (hc : n ≤ 1000) (x : Int) (w : World) (hf : RowFacts w a l) :
    Calls Try.prog 14 #[.slice a n c, .int .i64 x] w (Gives (.int .i64 (depthI l x)) w) := by
  have HF := Lib.hid hf
  have HN := Lib.hid hn
  clear hf hn
  go_enter Try.func14, Try.ntmps14
  go_wp2_with fail
  refine (there_one n c a l HN.out hc x w HF.out).mono ?_
  rintro e w1 ⟨rfl, h1⟩
  have HE := Lib.hid h1
  clear h1
  cases htt : there1 l x with
  | false =>
    have HP : Hid (Gives (.int .i64 (depthI l x)) w (.returned (.int .i64 0)) w1) := Lib.hid ⟨by simp [depthI, htt], HE.out⟩
    clear htt
    go_wp2_with fail
    go_ret
    exact HP.out
  | true =>
    obtain ⟨hr, ⟨k, rfl, hkn⟩⟩ := there1_open htt
    have HD : Hid (depthI l k = dep l k) := Lib.hid (by simp [depthI, htt])
    have HR := Lib.hid hr
    have h64 : n ≤ 64 := by rw [← HN.out]; exact right_length hr
    rw [HN.out] at hkn
    obtain ⟨q, hq⟩ : ∃ q : Nat, q = k + 1 := ⟨_, rfl⟩
    have hmk := make_ints w1 q (by omega)
    have hqi : (k : Int) + 1 = q := by omega
    have hkq : k < q := by omega
    have hqn : q ≤ n := by omega
    have hq64 : q ≤ 64 := by omega
    clear hr htt hq
    go_wp2_with fail
    obtain ⟨g, hg⟩ : ∃ g, g = w1.heap.size := ⟨_, rfl⟩
    obtain ⟨w2, hw2⟩ : ∃ w2, w2 = w1.alloc (.cells (madeCells #[.int .i64 0] q) 3) := ⟨_, rfl⟩
    rw [← hw2, ← hg]
    have HE2 : Hid (Ext w w2) := Lib.hid (by rw [hw2]; exact HE.out.alloc _)
    have HT2 : Hid (Tab w2 g 3 q (depTab l 0 0)) := Lib.hid (by rw [hw2, hg]; exact (tab_made _ _ _ _).congr fun j _ => by simp [depTab])
    have hgw : w.heap.size ≤ g := by rw [hg]; exact HE.out.size
    clear hw2 hg hmk
    go_loopw [6, 19] (fun _ v wr => ∃ i : Nat, i ≤ q ∧ v = .int .i64 i ∧ Hid (Tab wr g 3 q (depTab l i 0)) ∧ Hid (Ext w wr)) (fun _ v _ => q - (intOf v).toNat)
    case atStart => exact ⟨0, Nat.zero_le _, rfl, HT2, HE2⟩
    case round =>
      obtain ⟨i, hi, rfl, ht, he⟩ := hrel
      by_cases hlt : i < q
      · have er : l[i]? = some (l[i]'(by rw [HN.out]; omega)) := List.getElem?_eq_getElem _
        generalize (l[i]'(by rw [HN.out]; omega)) = r at er
        obtain ⟨hr2, hrx⟩ := okRow_mem (right_row HR.out er)
        have HRX := Lib.hid hrx
        have HER := Lib.hid er
        obtain ⟨b, o, ar, cr, rfl, hu0, h3, h4, hx⟩ := HF.out i r er
        have HU0 := Lib.hid hu0
        have HX := Lib.hid hx
        obtain ⟨m, hm⟩ : ∃ m, m = r.length := ⟨_, rfl⟩
        rw [← hm] at hr2 h3
        have HMr := Lib.hid hm
        have hcell := ht.out.cell hlt
        have hfz := ht.out.thaw i
        have HT3 : Hid (Tab (wr.setCell ⟨g, i, none⟩ (.int .i64 1)) g 3 q (depTab l i 1)) := Lib.hid (depTab_set ht.out 1)
        have HE3 : Hid (Ext w (wr.setCell ⟨g, i, none⟩ (.int .i64 1))) := Lib.hid (he.out.setCell hgw _)
        have hu1 := HE3.out.cell HU0.out
        rw [← HMr.out] at hu1
        clear er hrx hu0 hx hm ht he
        obtain ⟨wo, hwo⟩ : ∃ wo, wo = wr := ⟨_, rfl⟩
        subst hwo
        go_wp2_with fail
        go_loopw [8, 30] (fun _ v wr => ∃ s : Nat, s ≤ m ∧ v = .int .i64 s ∧ Hid (Tab wr g 3 q (depTab l i (depOf l (r.take s)))) ∧ Hid (Ext w wr)) (fun _ v _ => m - (intOf v).toNat)
        case atStart => exact ⟨0, Nat.zero_le _, rfl, HT3, HE3⟩
        case round =>
          obtain ⟨s, hs, rfl, ht3, he3⟩ := hrel
          have hu := he3.out.cell HU0.out
          rw [← HMr.out] at hu
          by_cases hlt3 : s < m
          · have ep : r[s]? = some (r[s]'(by rw [← HMr.out]; exact hlt3)) := List.getElem?_eq_getElem _
            generalize (r[s]'(by rw [← HMr.out]; exact hlt3)) = z at ep
            have hz0 := HRX.out z (List.mem_of_getElem? ep)
            obtain ⟨p, rfl⟩ := Int.eq_ofNat_of_zero_le hz0.1
            have hpi : p < i := by omega
            obtain ⟨bp, op, rfl, hcp0⟩ := HX.out s p ep
            have hcp := he3.out.cell hcp0
            have hfz3 := ht3.out.thaw i
            have hcp2 := ht3.out.cell (j := p) (by omega)
            have hci := ht3.out.cell hlt
            have hdp := dep_le HR.out p
            have hdo := depOf_le HR.out i (r.take s) (fun z hz => HRX.out z (List.mem_of_mem_take hz))
            have hmore : depOf l (r.take (s + 1)) = max (depOf l (r.take s)) (dep l p + 1) := by
              rw [List.take_add_one, ep]
              simp only [Option.toList_some]
              rw [depOf_more]; simp
            simp only [depTab, if_pos hpi, if_neg (Nat.lt_irrefl i)] at hcp2 hci
            simp only [if_true] at hci
            have HT5 : ∀ y, y = depOf l (r.take (s + 1)) → Hid (Tab (wr.setCell ⟨g, i, none⟩ (.int .i64 (y : Nat))) g 3 q (depTab l i (depOf l (r.take (s + 1))))) := fun y hy => Lib.hid (by rw [← hy]; exact depTab_set ht3.out y)
            have HE5 : ∀ v, Hid (Ext w (wr.setCell ⟨g, i, none⟩ v)) := fun v => Lib.hid (he3.out.setCell hgw v)
            rw [hmore] at HT5
            generalize dep l p = D at *
            generalize depOf l (r.take s) = cur at *
            have hcast : (((max cur (D + 1) : Nat)) : Int) = max (cur : Int) ((D : Int) + 1) := by omega
            have HT6 : Hid (Tab (wr.setCell ⟨g, i, none⟩ (.int .i64 (max (cur : Int) ((D : Int) + 1)))).drew g 3 q (depTab l i (depOf l (r.take (s + 1))))) := Lib.hid (by
              have := (HT5 (max cur (D + 1)) rfl).out
              rw [hcast] at this
              rw [hmore]
              exact this)
            have HE6 : Hid (Ext w (wr.setCell ⟨g, i, none⟩ (.int .i64 (max (cur : Int) ((D : Int) + 1)))).drew) := Lib.hid ((HE5 _).out.drew)
            clear ep hz0 hcp0 ht3 he3 hmore HT5 HE5 hcast
            go_wp2_with fail
            go_region
            go_wp2_with fail
            go_roundw
            case rel => exact ⟨s + 1, by omega, by go_num, HT6, HE6⟩
            case measure => simp [intOf]; omega
          · obtain rfl : s = m := by omega
            have HT4 : Hid (Tab wr g 3 q (depTab l (i + 1) 0)) := Lib.hid (ht3.out.congr fun j _ => by
              rw [HMr.out, List.take_length, ← dep_row HR.out HER.out]; exact depTab_succ j)
            clear ht3
            go_wp2_with fail
            go_roundw
            case rel => exact ⟨i + 1, by omega, by go_num, HT4, he3⟩
            case measure => simp [intOf]; omega
      · obtain rfl : i = q := by omega
        have hcell := ht.out.cell (j := k) (by omega)
        simp only [depTab, if_pos (show k < i by omega)] at hcell
        have HP : Hid (Gives (.int .i64 (depthI l k)) w (.returned (.int .i64 (dep l k))) wr) := Lib.hid ⟨by rw [HD.out], he.out⟩
        generalize dep l k = D at *
        clear ht he
        go_wp2_with fail
        go_ret
        exact HP.out
end Go.Proofs.Ytfajligmdjpekaa
