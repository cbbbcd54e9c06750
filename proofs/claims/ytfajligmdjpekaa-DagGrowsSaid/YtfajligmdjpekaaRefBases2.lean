/- The document's Bases and Base: the walks. -/
import Derived.Test.YtfajligmdjpekaaRefBases
namespace Go.Proofs.Ytfajligmdjpekaa
open Go.RowKit Go.Lib Go.Maps Go.Shelf

theorem commonL_length (l : List (List Int)) (x y : Int) : (commonL l x y).length ≤ 64 := by
  unfold commonL
  split
  · rename_i h
    exact Nat.le_trans (rowOf_length _ _) (right_length (there2_open h).1)
  · simp
theorem last_bases' (l : List (List Int)) (x y : Int) : lastOf l (commonL l x y) (commonL l x y).length = basesL l x y := by
  cases ht : there2 l x y with
  | true => exact last_bases ht
  | false => simp [commonL, basesL, ht, lastOf]

set_option maxHeartbeats 1000000 in
theorem refBases_any (n c : Nat) (a : Option Addr) (l : List (List Int)) (hn : l.length = n) (hc : n ≤ 1000) (x y : Int) (w : World) (hf : RowFacts w a l) :
    Calls Try.prog 24 #[.slice a n c, .int .i64 x, .int .i64 y] w (RowPost w (basesL l x y)) := by
  have HF := Lib.hid hf
  have HN := Lib.hid hn
  clear hf hn
  obtain ⟨i0, hi, hz0, hz1, hz2⟩ := info_parts Try.info3
  have HI := Lib.hid hi
  have HZ0 := Lib.hid hz0
  have HZ1 := Lib.hid hz1
  have HZ2 := Lib.hid hz2
  clear hi hz0 hz1 hz2
  go_enter Try.func24, Try.ntmps24
  go_wp2_with fail
  refine (refCommon_any n c a l HN.out hc x y w HF.out).mono ?_
  rintro e w1 ⟨v, rfl, ho, h1⟩
  have HLB : Hid (lastOf l (commonL l x y) (commonL l x y).length = basesL l x y) := Lib.hid (last_bases' l x y)
  have hlen := commonL_length l x y
  have HE := Lib.hid h1
  obtain ⟨ao, cp, rfl, hcells⟩ := ho.facts (by omega)
  have HCx : Hid (IntsFacts w1 ao (commonL l x y)) := Lib.hid hcells
  generalize commonL l x y = xs at *
  obtain ⟨m, hm⟩ : ∃ m, m = xs.length := ⟨_, rfl⟩
  rw [← hm] at hlen ⊢
  have HM := Lib.hid hm
  clear ho h1 hcells hm
  go_wp2_with fail
  go_loopw [8, 9] (fun v q wr => ∃ i : Nat, i ≤ m ∧ q = .int .i64 i ∧ Hid (Own w1.heap.size wr v (lastOf l xs i)) ∧ Hid (Ext w1 wr)) (fun _ q _ => m - (intOf q).toNat)
  case atStart => exact ⟨0, Nat.zero_le _, rfl, Lib.hid (own_nil _ _), Lib.hid (ext_refl _)⟩
  case round =>
    obtain ⟨i, hi, rfl, ho, he⟩ := hrel
    by_cases hlt : i < m
    · have HO := Lib.hid ho.out
      clear ho
      obtain ⟨wo, hwo⟩ : ∃ wo, wo = wr := ⟨_, rfl⟩
      subst hwo
      go_wp2_with fail
      go_loopw [10, 11] (fun lv q wr => ∃ k : Nat, k ≤ m ∧ q = .int .i64 k ∧ lv = .bool (!lowOf l xs i k) ∧ Hid (Ext wo wr)) (fun _ q _ => m - (intOf q).toNat)
      case atStart => exact ⟨0, Nat.zero_le _, rfl, rfl, Lib.hid (ext_refl _)⟩
      case round =>
        obtain ⟨k, hk, rfl, rfl, hek⟩ := hrel
        have HEk := Lib.hid (he.out.trans hek.out)
        have exi : xs[i]? = some (xs[i]'(by rw [← HM.out]; exact hlt)) := List.getElem?_eq_getElem _
        have hgi : xs.getD i 0 = (xs[i]'(by rw [← HM.out]; exact hlt)) := getD_eq _
        generalize (xs[i]'(by rw [← HM.out]; exact hlt)) = zi at exi hgi
        obtain ⟨bi, oi, rfl, hci0⟩ := HCx.out i zi exi
        have hci := HEk.out.cell hci0
        have HXI := Lib.hid exi
        have HGI := Lib.hid hgi
        clear exi hgi hci0
        by_cases hlt2 : k < m
        · have exk : xs[k]? = some (xs[k]'(by rw [← HM.out]; exact hlt2)) := List.getElem?_eq_getElem _
          have hgk : xs.getD k 0 = (xs[k]'(by rw [← HM.out]; exact hlt2)) := getD_eq _
          generalize (xs[k]'(by rw [← HM.out]; exact hlt2)) = zk at exk hgk
          obtain ⟨bk, ok', he2, hck0⟩ := HCx.out k zk exk
          cases he2
          have hck := HEk.out.cell hck0
          have HLS : Hid (lowOf l xs i (k + 1) = (lowOf l xs i k || (decide (k ≠ i) && isB l zi zk))) := Lib.hid (by rw [lowOf_succ, hgk, HGI.out])
          clear exk hgk hck0
          by_cases hki : k = i
          · have d0 : ((k : Int) != (i : Int)) = false := by simp; omega
            have HLV : Hid (lowOf l xs i (k + 1) = lowOf l xs i k) := Lib.hid (by rw [HLS.out]; simp [hki])
            clear hki
            generalize hlow : lowOf l xs i k = low at *
            clear hlow
            go_wp2_with fail
            go_quiet (fail)
            go_wp2_with fail
            go_roundw
            case rel => exact ⟨k + 1, by omega, by go_num, by rw [HLV.out], Lib.hid (hek.out.drewN _)⟩
            case measure => simp [intOf]; omega
          · have d0 : ((k : Int) != (i : Int)) = true := by simp; omega
            have HLV : Hid (lowOf l xs i (k + 1) = (lowOf l xs i k || isB l zi zk)) := Lib.hid (by rw [HLS.out]; simp [hki])
            have hcall : ∀ W, Ext wr W → Calls Try.prog 13 #[.slice a n c, .int .i64 zi, .int .i64 zk] W (Gives (.bool (isB l zi zk)) W) := fun W hW => refIs_any n c a l HN.out hc zi zk W (HF.out.ext ((HE.out.trans HEk.out).trans hW))
            have HCL := Lib.hid hcall
            clear hki hcall
            go_wp2_with fail
            refine wp_region_any (by kernel_rfl) ?_
            change wpAny _ _ _ _ _ _ _ (World.drew _)
            refine Go.Rely.takeD 0 (some 28) (.int .i64 (k : Int)) rfl rfl (by kernel_rfl) (by kernel_rfl) (by kernel_rfl) (fun _ _ _ h => h) (Or.inl ⟨by first | rfl | go_simp, fun w => by go_simp⟩) ?_
            simp only [Act.put, List.setIfInBounds_toArray, List.set_cons_zero, List.set_cons_succ]
            refine Go.Rely.takeD 1 (some 29) (.int .i64 (i : Int)) rfl rfl (by kernel_rfl) (by kernel_rfl) (by kernel_rfl) (fun _ _ _ h => h) (Or.inl ⟨by first | rfl | go_simp, fun w => by go_simp⟩) ?_
            simp only [Act.put, List.setIfInBounds_toArray, List.set_cons_zero, List.set_cons_succ]
            refine Go.Rely.takeD 2 (some 30) (.bool true) rfl rfl (by kernel_rfl) (by kernel_rfl) (by kernel_rfl) (fun _ _ _ h => h) (Or.inl ⟨by first | rfl | go_simp, fun w => by go_simp⟩) ?_
            simp only [Act.put, List.setIfInBounds_toArray, List.set_cons_zero, List.set_cons_succ]
            refine Go.Rely.takeD 3 (some 31) (.bool true) rfl rfl (by kernel_rfl) (by kernel_rfl) (by kernel_rfl) (fun _ _ _ h => h) (Or.inl ⟨by first | rfl | go_simp, fun w => by go_simp⟩) ?_
            simp only [Act.put, List.setIfInBounds_toArray, List.set_cons_zero, List.set_cons_succ]
            refine Go.Rely.takeD 4 (some 32) (.slice a n c) rfl rfl (by kernel_rfl) (by kernel_rfl) (by kernel_rfl) (fun _ _ _ h => h) (Or.inl ⟨by first | rfl | go_simp, fun w => by go_simp⟩) ?_
            simp only [Act.put, List.setIfInBounds_toArray, List.set_cons_zero, List.set_cons_succ]
            refine Go.Rely.takeD 5 (some 33) (.slice (some ⟨bi, oi, none⟩) m cp) rfl rfl (by kernel_rfl) (by kernel_rfl) (by kernel_rfl) (fun _ _ _ h => h) (Or.inl ⟨by first | rfl | go_simp, fun w => by go_simp⟩) ?_
            simp only [Act.put, List.setIfInBounds_toArray, List.set_cons_zero, List.set_cons_succ]
            refine Go.Rely.takeD 6 (some 34) (.int .i64 (i : Int)) rfl rfl (by kernel_rfl) (by kernel_rfl) (by kernel_rfl) (fun _ _ _ h => h) (Or.inl ⟨by first | rfl | go_simp, fun w => by go_simp⟩) ?_
            simp only [Act.put, List.setIfInBounds_toArray, List.set_cons_zero, List.set_cons_succ]
            refine Go.Rely.takeD 7 (some 35) (.pointer (some ⟨bi, oi + i, none⟩)) rfl rfl (by kernel_rfl) (by kernel_rfl) (by kernel_rfl) (fun _ _ _ h => h) (Or.inl ⟨by first | rfl | go_simp, fun w => by go_simp⟩) ?_
            simp only [Act.put, List.setIfInBounds_toArray, List.set_cons_zero, List.set_cons_succ]
            refine Go.Rely.takeD 9 (some 37) (.slice (some ⟨bi, oi, none⟩) m cp) rfl rfl (by kernel_rfl) (by kernel_rfl) (by kernel_rfl) (fun _ _ _ h => h) (Or.inl ⟨by first | rfl | go_simp, fun w => by go_simp⟩) ?_
            simp only [Act.put, List.setIfInBounds_toArray, List.set_cons_zero, List.set_cons_succ]
            refine Go.Rely.takeD 10 (some 38) (.int .i64 (k : Int)) rfl rfl (by kernel_rfl) (by kernel_rfl) (by kernel_rfl) (fun _ _ _ h => h) (Or.inl ⟨by first | rfl | go_simp, fun w => by go_simp⟩) ?_
            simp only [Act.put, List.setIfInBounds_toArray, List.set_cons_zero, List.set_cons_succ]
            refine Go.Rely.takeD 11 (some 39) (.pointer (some ⟨bi, oi + k, none⟩)) rfl rfl (by kernel_rfl) (by kernel_rfl) (by kernel_rfl) (fun _ _ _ h => h) (Or.inl ⟨by first | rfl | go_simp, fun w => by go_simp⟩) ?_
            simp only [Act.put, List.setIfInBounds_toArray, List.set_cons_zero, List.set_cons_succ]
            refine Go.Rely.rely_use 14 [(8, some 36), (12, some 40), (13, some 41)] Ext
              [fun v _ => v = .int .i64 zi, fun v _ => v = .int .i64 zk, fun v _ => v = .bool (isB l zi zk)]
              ext_refl ext_trans ⟨fun v w w' h _ => h, fun v w w' h _ => h, fun v w w' h _ => h, trivial⟩ (by kernel_rfl) (by rfl) ⟨?s8, ?s12, ?s13, trivial⟩ ?fin
            case s8 =>
              intro o ho vs W hR hT K hK
              simp only [List.getElem?_toArray, List.getElem?_cons_succ, List.getElem?_cons_zero, Option.some.injEq] at ho
              subst ho
              rw [if_pos (by rfl)]
              simp only [Go.Rely.putsO, Act.put, List.setIfInBounds_toArray, List.set_cons_zero, List.set_cons_succ] at hK ⊢
              clear hT
              have hc0 := ((ext_refl wr).drew.trans hR).cell hci
              go_simp
              exact hK _ _ (ext_refl _) rfl
            case s12 =>
              intro o ho vs W hR hT K hK
              simp only [List.getElem?_toArray, List.getElem?_cons_succ, List.getElem?_cons_zero, Option.some.injEq] at ho
              subst ho
              rw [if_pos (by rfl)]
              simp only [Go.Rely.putsO, Act.put, List.setIfInBounds_toArray, List.set_cons_zero, List.set_cons_succ] at hK ⊢
              clear hT
              have hc0 := ((ext_refl wr).drew.trans hR).cell hck
              go_simp
              exact hK _ _ (ext_refl _) rfl
            case s13 =>
              intro o ho vs W hR hT K hK
              simp only [List.getElem?_toArray, List.getElem?_cons_succ, List.getElem?_cons_zero, Option.some.injEq] at ho
              subst ho
              have h8 : vs 8 = .int .i64 zi := hT.get 8 (by kernel_rfl)
              have h12 : vs 12 = .int .i64 zk := hT.get 12 (by kernel_rfl)
              rw [if_pos (by rfl)]
              simp only [Go.Rely.putsO, Act.put, List.setIfInBounds_toArray, List.set_cons_zero, List.set_cons_succ] at hK ⊢
              clear hT
              rw [h8, h12] at hK ⊢
              go_simp
              refine (HCL.out W ((ext_refl wr).drew.trans hR)).mono ?_
              rintro e w5 ⟨rfl, h5⟩
              exact hK _ _ h5 rfl
            case fin =>
              intro vs W hR hT
              have h8 : vs 8 = .int .i64 zi := hT 8
              have h12 : vs 12 = .int .i64 zk := hT 12
              have h13 : vs 13 = .bool (isB l zi zk) := hT 13
              have HEW : Hid (Ext wr W) := Lib.hid ((ext_refl wr).drew.trans hR)
              clear hT hR
              simp only [Go.Rely.putsO, Act.put, List.setIfInBounds_toArray, List.set_cons_zero, List.set_cons_succ, h8, h12, h13, List.drop_succ_cons, List.drop_zero]
              clear hci hck
              generalize isB l zi zk = bb at *
              have HE5 : Hid (Ext wo W) := Lib.hid (hek.out.trans HEW.out)
              generalize hlow : lowOf l xs i k = low at *
              clear hlow HLS
              cases bb with
              | true =>
                go_wp2_with fail
                go_roundw
                case rel => exact ⟨k + 1, by omega, by go_num, by rw [HLV.out]; simp, HE5⟩
                case measure => simp [intOf]; omega
              | false =>
                go_wp2_with fail
                go_roundw
                case rel => exact ⟨k + 1, by omega, by go_num, by rw [HLV.out]; simp, HE5⟩
                case measure => simp [intOf]; omega
        · obtain rfl : k = m := by omega
          have hlast := lastOf_succ l xs i
          rw [← HM.out] at hlast
          rw [HGI.out] at hlast
          have HO2 : Hid (Own w1.heap.size wr u8 (lastOf l xs i)) := Lib.hid (Own.ext HO.out hek.out)
          cases hlow : lowOf l xs i k with
          | true =>
            rw [hlow] at hlast
            have HO1 : Hid (Own w1.heap.size wr u8 (lastOf l xs (i + 1))) := Lib.hid (by rw [hlast]; simpa using HO2.out)
            clear hlast hlow
            go_wp2_with fail
            go_roundw
            case rel => exact ⟨i + 1, by omega, by go_num, HO1, HEk⟩
            case measure => simp [intOf]; omega
          | false =>
            rw [hlow] at hlast
            have HSU : Hid (lastOf l xs (i + 1) = lastOf l xs i ++ [zi]) := Lib.hid (by rw [hlast]; rfl)
            have hlen2 : (lastOf l xs i).length ≤ 64 := by
              unfold lastOf
              rw [List.length_map]
              exact Nat.le_trans (List.length_filter_le _ _) (by rw [List.length_range]; omega)
            have hzw := HEk.out.size
            have HSH := Lib.hid (own_form HO2.out)
            clear hlast hlow
            go_wp2_with (
              at_builtin
              refine wpList_append_own _ rfl _ _ 29 rfl w1.heap.size 3 i0 _ 1 8 Try.underlying29 HI.out HZ0.out HZ1.out HZ2.out rfl (by decide) u8 (lastOf l xs i).length _ rfl (Own.ext HO2.out (ext_alloc _ _)) ⟨wr.heap.size, 0, none⟩ 1 1 [.int .i64 zi] rfl rfl
                (World.news_of_block (heap_alloc_new _ _)) (fun u hu => by simp at hu; subst hu; rfl) (by unfold maxLen; omega) (by omega) (by simp; omega) ?_
              intro v' w2 hown hgrow _
              have HO1 : Hid (Own w1.heap.size w2 v' (lastOf l xs (i + 1))) := Lib.hid (by
                rw [HSU.out]
                unfold Own
                rw [List.length_append, List.map_append]
                exact hown)
              have HE1 : Hid (Ext w1 w2) := Lib.hid ((HEk.out.alloc _).grown hgrow (fun q hq => own_block HO2.out q hq))
              clear hown hgrow)
            go_wp2_with fail
            go_roundw
            case rel => exact ⟨i + 1, by omega, by go_num, HO1, HE1⟩
            case measure => simp [intOf]; omega
    · obtain rfl : i = m := by omega
      have HP : Hid (RowPost w (basesL l x y) (.returned u8) wr) := Lib.hid ⟨u8, rfl, by rw [← HLB.out, ← HM.out]; exact ho.out.mono HE.out.size, HE.out.trans he.out⟩
      obtain ⟨ao', m', cp', rfl⟩ := own_form ho.out
      clear ho he
      go_wp2_with fail
      go_ret
      exact HP.out
end Go.Proofs.Ytfajligmdjpekaa
