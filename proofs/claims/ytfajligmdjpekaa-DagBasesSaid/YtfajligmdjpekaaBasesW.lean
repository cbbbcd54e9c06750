/- DagBases: the walk. -/
import Derived.Test.YtfajligmdjpekaaLaws
import Derived.Test.YtfajligmdjpekaaPlain3
import Derived.Deep.CutRange
import Derived.Deep.DeepCutAuto
namespace Go.Proofs.Ytfajligmdjpekaa
open Go.RowKit Go.Lib Go.Maps Go.Shelf

set_option maxHeartbeats 2000000 in
set_option maxRecDepth 100000 in
theorem basesW_walk (n c : Nat) (a : Option Addr) (l : List (List Int)) (hn : l.length = n) (hnc : n ≤ c) (hcm : c ≤ maxLen) (x y z : Int) (w : World) (hf : RowFacts w a l) :
    Calls Try.prog 4 #[.slice a n c, .int .i64 x, .int .i64 y, .int .i64 z] w (Gives (.bool true) w) := by
  have HF := Lib.hid hf
  have HN := Lib.hid hn
  clear hf hn
  go_enter Try.func4, Try.ntmps4
  go_wp2_with fail
  refine (small_any w).mono ?_
  rintro e w1 ⟨rfl, h⟩
  have HX1 := Lib.hid h
  clear h
  go_wp2_with fail
  refine ((few_walk n c a l w1 HN.out hnc hcm (HF.out.ext HX1.out)).mono fun _ _ h => h.gives).mono ?_
  rintro e w2 ⟨rfl, h⟩
  have HX2 : Hid (Ext w w2) := Lib.hid (HX1.out.trans h)
  clear h
  cases hfew : fewB l with
  | false =>
    clear hfew
    go_wp2_with fail
    go_ret
    exact ⟨rfl, HX2.out⟩
  | true =>
    have h70 := few_le hfew
    rw [HN.out] at h70
    have HD : Hid (DagAt w a n c l) := Lib.hid (dagAt HN.out (by omega) HF.out)
    clear hfew
    go_wp2_with fail
    refine (HD.out.right _ HX2.out).mono ?_
    rintro e w3 ⟨rfl, h⟩
    have HX3 : Hid (Ext w w3) := Lib.hid (HX2.out.trans h)
    clear h
    cases hr : right l with
    | false =>
      clear hr
      go_wp2_with fail
      go_ret
      exact ⟨rfl, HX3.out⟩
    | true =>
      by_cases hg : x < 0
      · clear hr
        go_wp2_with fail
        go_ret
        exact ⟨rfl, HX3.out⟩
      · have hg8 := hg
        clear hg
        by_cases hg : y < 0
        · clear hr
          go_wp2_with fail
          go_ret
          exact ⟨rfl, HX3.out⟩
        · have hg10 := hg
          clear hg
          by_cases hg : z < 0
          · clear hr
            go_wp2_with fail
            go_ret
            exact ⟨rfl, HX3.out⟩
          · have hg12 := hg
            clear hg
            by_cases hg : x ≥ (n : Int)
            · clear hr
              go_wp2_with fail
              go_ret
              exact ⟨rfl, HX3.out⟩
            · have hg14 := hg
              clear hg
              by_cases hg : y ≥ (n : Int)
              · clear hr
                go_wp2_with fail
                go_ret
                exact ⟨rfl, HX3.out⟩
              · have hg16 := hg
                clear hg
                by_cases hg : z ≥ (n : Int)
                · clear hr
                  go_wp2_with fail
                  go_ret
                  exact ⟨rfl, HX3.out⟩
                · have hg18 := hg
                  clear hg
                  obtain ⟨ka, rfl⟩ := Int.eq_ofNat_of_zero_le (show 0 ≤ x by omega)
                  obtain ⟨kb, rfl⟩ := Int.eq_ofNat_of_zero_le (show 0 ≤ y by omega)
                  obtain ⟨kc, rfl⟩ := Int.eq_ofNat_of_zero_le (show 0 ≤ z by omega)
                  have hla : ka < l.length := by rw [HN.out]; omega
                  have hlb : kb < l.length := by rw [HN.out]; omega
                  have hlc : kc < l.length := by rw [HN.out]; omega
                  have HS : Hid (isB l ka ka = true) := Lib.hid (isB_self hr hla)
                  have HAS : Hid (isB l ka kb = true → isB l kb ka = true → ka = kb) := Lib.hid (isB_antisymm hr hla hlb)
                  have HTR : Hid (isB l ka kb = true → isB l kb kc = true → isB l ka kc = true) := Lib.hid (isB_trans hr hla hlb hlc)
                  have HAP : Hid (∀ y z, y ∈ basesL l ka kb → z ∈ basesL l ka kb → y ≠ z → isB l y z = false) := Lib.hid fun y z hy hz hne => bases_apart hr hla hlb hy hz hne
                  have HCM : Hid (basesL l kb ka = basesL l ka kb) := Lib.hid (bases_comm hr hla hlb).symm
                  have HON : Hid (isB l ka kb = true → basesL l ka kb = [(ka : Int)]) := Lib.hid (bases_one hr hla hlb)
                  have HDM : Hid (isB l ka kb = true → depthI l ka ≤ depthI l kb) := Lib.hid (depth_mono hr hla hlb)
                  have HUN : Hid (((basesL l ka kb).any fun z => isB l kc z) = (isB l kc ka && isB l kc kb)) := Lib.hid (under_bases hr hla hlb hlc)
                  have HND : Hid ((basesL l ka kb).Nodup) := Lib.hid (bases_nodup l ka kb)
                  have hgx : ¬ ((ka : Int) < 0) := by omega
                  have hlan : ka < n := by omega
                  have hlbn : kb < n := by omega
                  have hlcn : kc < n := by omega
                  clear hr hla hlb hlc
                  go_upto_region 5 with (fail)
                  go_cut [97] from 19 to 97 (fun u wr => u = .bool false ∧ Hid (Ext w wr))
                  case first =>
                    go_wp2_with fail
                    have hc := HD.out.is ka ka _ HX3.out
                    rw [HS.out] at hc
                    refine hc.mono ?_
                    rintro e w4 ⟨rfl, h⟩
                    have HX4 : Hid (Ext w w4) := Lib.hid (HX3.out.trans h)
                    clear hc h
                    go_wp2_with fail
                    cases hab : isB l ka kb with
                    | false =>
                      have HAB := Lib.hid hab
                      clear hab
                      have hc := HD.out.is ka kb _ HX4.out
                      rw [HAB.out] at hc
                      refine hc.mono ?_
                      rintro e w5 ⟨rfl, h⟩
                      have HX5 : Hid (Ext w w5) := Lib.hid (HX4.out.trans h)
                      clear hc h
                      go_wp2_with fail
                      have hc := HD.out.is ka kb _ HX5.out
                      rw [HAB.out] at hc
                      refine hc.mono ?_
                      rintro e w6 ⟨rfl, h⟩
                      have HX6 : Hid (Ext w w6) := Lib.hid (HX5.out.trans h)
                      clear hc h
                      go_wp2_with fail
                      go_meet
                      exact ⟨rfl, HX6⟩
                    | true =>
                      have HAB := Lib.hid hab
                      clear hab
                      have hc := HD.out.is ka kb _ HX4.out
                      rw [HAB.out] at hc
                      refine hc.mono ?_
                      rintro e w5 ⟨rfl, h⟩
                      have HX5 : Hid (Ext w w5) := Lib.hid (HX4.out.trans h)
                      clear hc h
                      go_wp2_with fail
                      cases hba : isB l kb ka with
                      | false =>
                        have HBA := Lib.hid hba
                        clear hba
                        have hc := HD.out.is kb ka _ HX5.out
                        rw [HBA.out] at hc
                        refine hc.mono ?_
                        rintro e w6 ⟨rfl, h⟩
                        have HX6 : Hid (Ext w w6) := Lib.hid (HX5.out.trans h)
                        clear hc h
                        go_wp2_with fail
                        have hc := HD.out.is ka kb _ HX6.out
                        rw [HAB.out] at hc
                        refine hc.mono ?_
                        rintro e w7 ⟨rfl, h⟩
                        have HX7 : Hid (Ext w w7) := Lib.hid (HX6.out.trans h)
                        clear hc h
                        go_wp2_with fail
                        cases hbc : isB l kb kc with
                        | false =>
                          have HBC := Lib.hid hbc
                          clear hbc
                          have hc := HD.out.is kb kc _ HX7.out
                          rw [HBC.out] at hc
                          refine hc.mono ?_
                          rintro e w8 ⟨rfl, h⟩
                          have HX8 : Hid (Ext w w8) := Lib.hid (HX7.out.trans h)
                          clear hc h
                          go_wp2_with fail
                          go_meet
                          exact ⟨rfl, HX8⟩
                        | true =>
                          have HBC := Lib.hid hbc
                          clear hbc
                          have hc := HD.out.is kb kc _ HX7.out
                          rw [HBC.out] at hc
                          refine hc.mono ?_
                          rintro e w8 ⟨rfl, h⟩
                          have HX8 : Hid (Ext w w8) := Lib.hid (HX7.out.trans h)
                          clear hc h
                          go_wp2_with fail
                          have hc := HD.out.is ka kc _ HX8.out
                          rw [HTR.out HAB.out HBC.out] at hc
                          refine hc.mono ?_
                          rintro e w9 ⟨rfl, h⟩
                          have HX9 : Hid (Ext w w9) := Lib.hid (HX8.out.trans h)
                          clear hc h
                          go_wp2_with fail
                          go_meet
                          exact ⟨rfl, HX9⟩
                      | true =>
                        have HBA := Lib.hid hba
                        clear hba
                        have d0 : ((ka : Int) != (kb : Int)) = false := by rw [HAS.out HAB.out HBA.out]; simp
                        have hc := HD.out.is kb ka _ HX5.out
                        rw [HBA.out] at hc
                        refine hc.mono ?_
                        rintro e w6 ⟨rfl, h⟩
                        have HX6 : Hid (Ext w w6) := Lib.hid (HX5.out.trans h)
                        clear hc h
                        go_wp2_with fail
                        have hc := HD.out.is ka kb _ HX6.out
                        rw [HAB.out] at hc
                        refine hc.mono ?_
                        rintro e w7 ⟨rfl, h⟩
                        have HX7 : Hid (Ext w w7) := Lib.hid (HX6.out.trans h)
                        clear hc h
                        go_wp2_with fail
                        cases hbc : isB l kb kc with
                        | false =>
                          have HBC := Lib.hid hbc
                          clear hbc
                          have hc := HD.out.is kb kc _ HX7.out
                          rw [HBC.out] at hc
                          refine hc.mono ?_
                          rintro e w8 ⟨rfl, h⟩
                          have HX8 : Hid (Ext w w8) := Lib.hid (HX7.out.trans h)
                          clear hc h
                          go_wp2_with fail
                          go_meet
                          exact ⟨rfl, HX8⟩
                        | true =>
                          have HBC := Lib.hid hbc
                          clear hbc
                          have hc := HD.out.is kb kc _ HX7.out
                          rw [HBC.out] at hc
                          refine hc.mono ?_
                          rintro e w8 ⟨rfl, h⟩
                          have HX8 : Hid (Ext w w8) := Lib.hid (HX7.out.trans h)
                          clear hc h
                          go_wp2_with fail
                          have hc := HD.out.is ka kc _ HX8.out
                          rw [HTR.out HAB.out HBC.out] at hc
                          refine hc.mono ?_
                          rintro e w9 ⟨rfl, h⟩
                          have HX9 : Hid (Ext w w9) := Lib.hid (HX8.out.trans h)
                          clear hc h
                          go_wp2_with fail
                          go_meet
                          exact ⟨rfl, HX9⟩
                  case rest =>
                    obtain ⟨rfl, HXc⟩ := hcut
                    obtain ⟨w100, hw100⟩ : ∃ w100, w100 = wc := ⟨_, rfl⟩
                    subst hw100
                    clear HAS HTR HS
                    go_wp2_with fail
                    have HX100 := HXc
                    clear HXc
                    have hlenb := basesL_length l ka kb
                    refine (HD.out.bases ka kb _ HX100.out).mono ?_
                    rintro e w101 ⟨v, rfl, ho, h⟩
                    obtain ⟨aob, cpb, rfl, hc⟩ := ho.facts' (basesL l ka kb).length rfl (by omega)
                    have HCb : Hid (∀ W, Ext w101 W → IntsFacts W aob (basesL l ka kb)) := Lib.hid fun W hW => hc.ext hW
                    have HX101 : Hid (Ext w w101) := Lib.hid (HX100.out.trans h)
                    have HY101 : Hid (Ext w100 w101) := Lib.hid h
                    clear ho hc h
                    have hcl := hlenb
                    have HBS : Hid (∀ W, Ext w101 W → Calls Try.prog 23 #[.slice a n c, .int .i64 kb, .int .i64 ka] W (RowPost W (basesL l ka kb))) := Lib.hid fun W hW => by
                      have := HD.out.bases kb ka W (HX101.out.trans hW)
                      rwa [HCM.out] at this
                    clear HCM HY101 hcl
                    generalize basesL l ka kb = bs at *
                    obtain ⟨m, hm⟩ : ∃ m, m = bs.length := ⟨_, rfl⟩
                    have HM := Lib.hid hm
                    rw [← hm] at hlenb ⊢
                    clear hm
                    have hl2 := hlenb
                    clear hlenb
                    go_upto_region 8 with (fail)
                    go_cut [12, 111] from 102 to 111 (fun u v wr => u = .bool (isB l kc ka && isB l kc kb) ∧ v = u ∧ Hid (Ext w101 wr))
                    case first =>
                      go_wp2_with fail
                      have hc := HD.out.is kc ka _ HX101.out
                      refine hc.mono ?_
                      rintro e wa ⟨rfl, ha⟩
                      have HA := Lib.hid ha
                      clear hc ha
                      cases hca : isB l kc ka with
                      | false =>
                        have HCA := Lib.hid hca
                        clear hca
                        go_wp2_with fail
                        go_meet
                        exact ⟨by rw [HCA.out]; rfl, rfl, HA⟩
                      | true =>
                        have HCA := Lib.hid hca
                        clear hca
                        go_wp2_with fail
                        have hc := HD.out.is kc kb _ (HX101.out.trans HA.out)
                        refine hc.mono ?_
                        rintro e wb ⟨rfl, hb⟩
                        have HB : Hid (Ext w101 wb) := Lib.hid (HA.out.trans hb)
                        clear hc hb
                        go_wp2_with fail
                        go_meet
                        exact ⟨by rw [HCA.out, Bool.true_and], rfl, HB⟩
                    case rest =>
                      obtain ⟨rfl, rfl, HZ⟩ := hcut
                      have HXz : Hid (Ext w wc) := Lib.hid (HX101.out.trans HZ.out)
                      generalize (isB l kc ka && isB l kc kb) = bu at *
                      go_wp2_with fail
                      have HCB2 : Hid (∀ W, Ext wc W → IntsFacts W aob bs) := Lib.hid fun W hW => HCb.out W (HZ.out.trans hW)
                      have HBS2 : Hid (∀ W, Ext wc W → Calls Try.prog 23 #[.slice a n c, .int .i64 kb, .int .i64 ka] W (RowPost W bs)) := Lib.hid fun W hW => HBS.out W (HZ.out.trans hW)
                      have HD2 : Hid (DagAt wc a n c l) := Lib.hid (dagAt HN.out (by omega) (HF.out.ext HXz.out))
                      clear HD HCb HBS HZ
                      go_loopw [13, 14, 15] (fun s q _ wr => ∃ i : Nat, i ≤ m ∧ q = .int .i64 i ∧ s = .bool ((bs.take i).any fun z => isB l kc z) ∧ Hid (Ext wc wr)) (fun _ q _ _ => m - (intOf q).toNat)
                      case atStart => exact ⟨0, Nat.zero_le _, rfl, rfl, Lib.hid (ext_refl _)⟩
                      case round =>
                        obtain ⟨i, hi, rfl, rfl, he⟩ := hrel
                        by_cases hlt : i < m
                        · have ei : bs[i]? = some (bs[i]'(by rw [← HM.out]; exact hlt)) := List.getElem?_eq_getElem _
                          have EQ : Hid (bs.getD i 0 = (bs[i]'(by rw [← HM.out]; exact hlt))) := Lib.hid (getD_eq _)
                          generalize (bs[i]'(by rw [← HM.out]; exact hlt)) = zi at ei EQ
                          have HSU : Hid ((bs.take (i + 1)).any (fun z => isB l kc z) = ((bs.take i).any (fun z => isB l kc z) || isB l kc zi)) := Lib.hid (by rw [List.take_add_one, ei]; simp)
                          have HMI := Lib.hid (List.mem_of_getElem? ei)
                          have HEI := Lib.hid ei
                          obtain ⟨b, o, rfl, hcell⟩ := HCB2.out _ he.out i zi ei
                          have hcall := HD2.out.is kc zi _ he.out
                          clear ei EQ
                          generalize (bs.take i).any (fun z => isB l kc z) = so at *
                          go_upto_region 13 with (fail)
                          go_cut [13] from 112 to 148 (fun u wr => u = .bool (so || isB l kc zi) ∧ Hid (Ext wc wr))
                          case first =>
                            generalize isB l kc zi = bz at *
                            cases so with
                            | true =>
                              clear hcall
                              go_wp2_with fail
                              go_meet
                              exact ⟨rfl, he⟩
                            | false =>
                              go_wp2_with fail
                              refine hcall.mono ?_
                              rintro e wz ⟨rfl, hz⟩
                              have HE2 : Hid (Ext wc wz) := Lib.hid (he.out.trans hz)
                              clear hcall hz hcell
                              go_wp2_with fail
                              go_meet
                              exact ⟨rfl, HE2⟩
                          case rest =>
                            rename_i wprev
                            obtain ⟨rfl, HE3⟩ := hcut
                            obtain ⟨wi, hwi⟩ : ∃ wi, wi = wc := ⟨_, rfl⟩
                            subst hwi
                            obtain ⟨wc, hwc⟩ : ∃ wc, wc = wprev := ⟨_, rfl⟩
                            subst hwc
                            clear hcall hcell he
                            go_wp2_with fail
                            go_loopw [15] (fun q wr => ∃ k : Nat, k ≤ m ∧ q = .int .i64 k ∧ Hid (Ext wc wr)) (fun q _ => m - (intOf q).toNat)
                            case atStart => exact ⟨0, Nat.zero_le _, rfl, HE3⟩
                            case round =>
                              obtain ⟨k, hk, rfl, hek⟩ := hrel
                              by_cases hlt2 : k < m
                              · have ek : bs[k]? = some (bs[k]'(by rw [← HM.out]; exact hlt2)) := List.getElem?_eq_getElem _
                                generalize (bs[k]'(by rw [← HM.out]; exact hlt2)) = zk at ek
                                obtain ⟨b', o', he2, hck⟩ := HCB2.out wr hek.out k zk ek
                                cases he2
                                obtain ⟨b', o', he2, hci⟩ := HCB2.out wr hek.out i zi HEI.out
                                cases he2
                                by_cases hki : k = i
                                · have d0 : ((k : Int) != (i : Int)) = false := by simp; omega
                                  clear hki ek hck hci
                                  go_wp2_with fail
                                  go_quiet (fail)
                                  go_wp2_with fail
                                  go_roundw
                                  case rel => exact ⟨k + 1, by omega, by go_num, Lib.hid (hek.out.drewN _)⟩
                                  case measure => simp [intOf]; omega
                                · have d0 : ((k : Int) != (i : Int)) = true := by simp; omega
                                  have hzz : isB l zi zk = false := HAP.out zi zk HMI.out (List.mem_of_getElem? ek) (fun e => by
                                    subst e
                                    have h1 := HEI.out
                                    obtain ⟨h3, h4⟩ := List.getElem?_eq_some_iff.1 h1
                                    obtain ⟨h5, h6⟩ := List.getElem?_eq_some_iff.1 ek
                                    exact hki ((List.getElem_inj HND.out).1 (h6.trans h4.symm)))
                                  have HCL : Hid (∀ W, Ext wr W → Calls Try.prog 12 #[.slice a n c, .int .i64 zi, .int .i64 zk] W (Gives (.bool false) W)) := Lib.hid fun W hW => by
                                    have := HD2.out.is zi zk W (hek.out.trans hW)
                                    rwa [hzz] at this
                                  clear hki hzz ek
                                  go_wp2_with fail
                                  refine wp_region_any (by kernel_rfl) ?_
                                  change wpAny _ _ _ _ _ _ _ (World.drew _)
                                  refine Go.Rely.takeD 0 (some 134) (.int .i64 (k : Int)) rfl rfl (by kernel_rfl) (by kernel_rfl) (by kernel_rfl) (fun _ _ _ h => h) (Or.inl ⟨by first | rfl | go_simp, fun w => by go_simp⟩) ?_
                                  simp only [Act.put, List.setIfInBounds_toArray, List.set_cons_zero, List.set_cons_succ]
                                  refine Go.Rely.takeD 1 (some 135) (.int .i64 (i : Int)) rfl rfl (by kernel_rfl) (by kernel_rfl) (by kernel_rfl) (fun _ _ _ h => h) (Or.inl ⟨by first | rfl | go_simp, fun w => by go_simp⟩) ?_
                                  simp only [Act.put, List.setIfInBounds_toArray, List.set_cons_zero, List.set_cons_succ]
                                  refine Go.Rely.takeD 2 (some 136) (.bool true) rfl rfl (by kernel_rfl) (by kernel_rfl) (by kernel_rfl) (fun _ _ _ h => h) (Or.inl ⟨by first | rfl | go_simp, fun w => by go_simp⟩) ?_
                                  simp only [Act.put, List.setIfInBounds_toArray, List.set_cons_zero, List.set_cons_succ]
                                  refine Go.Rely.takeD 3 (some 137) (.bool true) rfl rfl (by kernel_rfl) (by kernel_rfl) (by kernel_rfl) (fun _ _ _ h => h) (Or.inl ⟨by first | rfl | go_simp, fun w => by go_simp⟩) ?_
                                  simp only [Act.put, List.setIfInBounds_toArray, List.set_cons_zero, List.set_cons_succ]
                                  refine Go.Rely.takeD 4 (some 138) (.slice a n c) rfl rfl (by kernel_rfl) (by kernel_rfl) (by kernel_rfl) (fun _ _ _ h => h) (Or.inl ⟨by first | rfl | go_simp, fun w => by go_simp⟩) ?_
                                  simp only [Act.put, List.setIfInBounds_toArray, List.set_cons_zero, List.set_cons_succ]
                                  refine Go.Rely.takeD 5 (some 139) (.slice (some ⟨b, o, none⟩) m cpb) rfl rfl (by kernel_rfl) (by kernel_rfl) (by kernel_rfl) (fun _ _ _ h => h) (Or.inl ⟨by first | rfl | go_simp, fun w => by go_simp⟩) ?_
                                  simp only [Act.put, List.setIfInBounds_toArray, List.set_cons_zero, List.set_cons_succ]
                                  refine Go.Rely.takeD 6 (some 140) (.int .i64 (i : Int)) rfl rfl (by kernel_rfl) (by kernel_rfl) (by kernel_rfl) (fun _ _ _ h => h) (Or.inl ⟨by first | rfl | go_simp, fun w => by go_simp⟩) ?_
                                  simp only [Act.put, List.setIfInBounds_toArray, List.set_cons_zero, List.set_cons_succ]
                                  refine Go.Rely.takeD 7 (some 141) (.pointer (some ⟨b, o + i, none⟩)) rfl rfl (by kernel_rfl) (by kernel_rfl) (by kernel_rfl) (fun _ _ _ h => h) (Or.inl ⟨by first | rfl | go_simp, fun w => by go_simp⟩) ?_
                                  simp only [Act.put, List.setIfInBounds_toArray, List.set_cons_zero, List.set_cons_succ]
                                  refine Go.Rely.takeD 9 (some 143) (.slice (some ⟨b, o, none⟩) m cpb) rfl rfl (by kernel_rfl) (by kernel_rfl) (by kernel_rfl) (fun _ _ _ h => h) (Or.inl ⟨by first | rfl | go_simp, fun w => by go_simp⟩) ?_
                                  simp only [Act.put, List.setIfInBounds_toArray, List.set_cons_zero, List.set_cons_succ]
                                  refine Go.Rely.takeD 10 (some 144) (.int .i64 (k : Int)) rfl rfl (by kernel_rfl) (by kernel_rfl) (by kernel_rfl) (fun _ _ _ h => h) (Or.inl ⟨by first | rfl | go_simp, fun w => by go_simp⟩) ?_
                                  simp only [Act.put, List.setIfInBounds_toArray, List.set_cons_zero, List.set_cons_succ]
                                  refine Go.Rely.takeD 11 (some 145) (.pointer (some ⟨b, o + k, none⟩)) rfl rfl (by kernel_rfl) (by kernel_rfl) (by kernel_rfl) (fun _ _ _ h => h) (Or.inl ⟨by first | rfl | go_simp, fun w => by go_simp⟩) ?_
                                  simp only [Act.put, List.setIfInBounds_toArray, List.set_cons_zero, List.set_cons_succ]
                                  refine Go.Rely.rely_use 14 [(8, some 142), (12, some 146), (13, some 147)] Ext
                                    [fun v _ => v = .int .i64 zi, fun v _ => v = .int .i64 zk, fun v _ => v = .bool false]
                                    ext_refl ext_trans ⟨fun v w w' h _ => h, fun v w w' h _ => h, fun v w w' h _ => h, trivial⟩ (by kernel_rfl) (by rfl) ⟨?s8, ?s12, ?s13, trivial⟩ ?fin
                                  case s8 =>
                                    intro o ho vs W hR hT K hK
                                    simp only [List.getElem?_toArray, List.getElem?_cons_succ, List.getElem?_cons_zero, Option.some.injEq] at ho
                                    subst ho
                                    rw [if_pos (by rfl)]
                                    simp only [Go.Rely.putsO, Act.put, List.setIfInBounds_toArray, List.set_cons_zero, List.set_cons_succ] at hK ⊢
                                    clear hT
                                    have hc0 := ((ext_refl wr).drew.trans hR).cell hci
                                    go_simp
                                    exact hK _ _ (ext_refl _) rfl
                                  case s12 =>
                                    intro o ho vs W hR hT K hK
                                    simp only [List.getElem?_toArray, List.getElem?_cons_succ, List.getElem?_cons_zero, Option.some.injEq] at ho
                                    subst ho
                                    rw [if_pos (by rfl)]
                                    simp only [Go.Rely.putsO, Act.put, List.setIfInBounds_toArray, List.set_cons_zero, List.set_cons_succ] at hK ⊢
                                    clear hT
                                    have hc0 := ((ext_refl wr).drew.trans hR).cell hck
                                    go_simp
                                    exact hK _ _ (ext_refl _) rfl
                                  case s13 =>
                                    intro o ho vs W hR hT K hK
                                    simp only [List.getElem?_toArray, List.getElem?_cons_succ, List.getElem?_cons_zero, Option.some.injEq] at ho
                                    subst ho
                                    have h8 : vs 8 = .int .i64 zi := hT.get 8 (by kernel_rfl)
                                    have h12 : vs 12 = .int .i64 zk := hT.get 12 (by kernel_rfl)
                                    rw [if_pos (by rfl)]
                                    simp only [Go.Rely.putsO, Act.put, List.setIfInBounds_toArray, List.set_cons_zero, List.set_cons_succ] at hK ⊢
                                    clear hT
                                    rw [h8, h12] at hK ⊢
                                    go_simp
                                    refine (HCL.out W ((ext_refl wr).drew.trans hR)).mono ?_
                                    rintro e w5 ⟨rfl, h5⟩
                                    exact hK _ _ h5 rfl
                                  case fin =>
                                    intro vs W hR hT
                                    have h8 : vs 8 = .int .i64 zi := hT 8
                                    have h12 : vs 12 = .int .i64 zk := hT 12
                                    have h13 : vs 13 = .bool false := hT 13
                                    have HEW : Hid (Ext wc W) := Lib.hid (hek.out.trans ((ext_refl wr).drew.trans hR))
                                    clear hT hR
                                    simp only [Go.Rely.putsO, Act.put, List.setIfInBounds_toArray, List.set_cons_zero, List.set_cons_succ, h8, h12, h13, List.drop_succ_cons, List.drop_zero]
                                    clear hci hck
                                    go_wp2_with fail
                                    go_roundw
                                    case rel => exact ⟨k + 1, by omega, by go_num, HEW⟩
                                    case measure => simp [intOf]; omega
                              · obtain rfl : k = m := by omega
                                go_wp2_with fail
                                go_roundw
                                case rel => exact ⟨i + 1, by omega, by go_num, by rw [HSU.out], hek⟩
                                case measure => simp [intOf]; omega
                        · obtain rfl : i = m := by omega
                          have hso : (bs.take i).any (fun z => isB l kc z) = bu := by
                            rw [HM.out, List.take_length]; exact HUN.out
                          rw [hso]
                          have e0 : (bu != bu) = false := by simp
                          have HIC := Lib.hid HCB2.out
                          clear hso HUN HAP HND
                          obtain ⟨wo, hwo⟩ : ∃ wo, wo = wr := ⟨_, rfl⟩
                          subst hwo
                          go_upto_region 19 with (fail)
                          go_cut [164] from 112 to 164 (fun u wr => u = .bool false ∧ Hid (Ext wc wr))
                          case first =>
                            go_wp2_with fail
                            have hc := HD2.out.is ka kb _ he.out
                            cases hab : isB l ka kb with
                            | false =>
                              rw [hab] at hc
                              clear hab
                              refine hc.mono ?_
                              rintro e wz ⟨rfl, hz⟩
                              have HE2 : Hid (Ext wc wz) := Lib.hid (he.out.trans hz)
                              clear hc hz
                              go_wp2_with fail
                              go_meet
                              exact ⟨rfl, HE2⟩
                            | true =>
                              have hb1 : bs = [(ka : Int)] := HON.out hab
                              rw [hab] at hc
                              obtain rfl : i = 1 := by rw [HM.out, hb1]; rfl
                              have HB1 := Lib.hid hb1
                              clear hab hb1
                              refine hc.mono ?_
                              rintro e wz ⟨rfl, hz⟩
                              have HE2 : Hid (Ext wc wz) := Lib.hid (he.out.trans hz)
                              clear hc hz
                              go_wp2_with fail
                              have hcb := HCB2.out _ (HE2.out.alloc (.cells #[.int .i64 ka] 3))
                              rw [HB1.out] at hcb
                              refine (ints_same 1 _ _ _ _ [(ka : Int)] rfl (by omega) _ hcb (ints_lit _ [(ka : Int)])).mono ?_
                              rintro e wy ⟨rfl, hy⟩
                              have HE3 : Hid (Ext wc wy) := Lib.hid ((HE2.out.alloc _).trans hy)
                              clear hcb hy
                              go_wp2_with fail
                              go_meet
                              exact ⟨rfl, HE3⟩
                          case rest =>
                            rename_i wprev
                            obtain ⟨rfl, HE3⟩ := hcut
                            obtain ⟨wi, hwi⟩ : ∃ wi, wi = wc := ⟨_, rfl⟩
                            subst hwi
                            obtain ⟨wc, hwc⟩ : ∃ wc, wc = wprev := ⟨_, rfl⟩
                            subst hwc
                            go_wp2_with fail
                            refine (HBS2.out wi HE3.out).mono ?_
                            rintro e wa ⟨v, rfl, ho, ha⟩
                            obtain ⟨aoc, cpc, rfl, hc⟩ := ho.facts' i HM.out.symm (by omega)
                            have HA : Hid (Ext wc wa) := Lib.hid (HE3.out.trans ha)
                            have HC1 := Lib.hid (HCB2.out wa HA.out)
                            have HC2 := Lib.hid hc
                            clear ho ha hc
                            go_wp2_with fail
                            refine (ints_same i _ _ _ _ bs HM.out.symm (by omega) _ HC1.out HC2.out).mono ?_
                            rintro e wb ⟨rfl, hb⟩
                            have HB : Hid (Ext wc wb) := Lib.hid (HA.out.trans hb)
                            clear hb HC1 HC2
                            go_wp2_with fail
                            have hc := HD2.out.is ka kb _ HB.out
                            cases hab : isB l ka kb with
                            | false =>
                              rw [hab] at hc
                              clear hab
                              refine hc.mono ?_
                              rintro e wz ⟨rfl, hz⟩
                              have HP : Hid (Gives (.bool true) w (.returned (.bool true)) wz) := Lib.hid ⟨rfl, HXz.out.trans (HB.out.trans hz)⟩
                              clear hc hz
                              go_wp2_with fail
                              go_ret
                              exact HP.out
                            | true =>
                              have hdm := HDM.out hab
                              rw [hab] at hc
                              clear hab
                              refine hc.mono ?_
                              rintro e wz ⟨rfl, hz⟩
                              have HE2 : Hid (Ext wc wz) := Lib.hid (HB.out.trans hz)
                              have HQ1 := Lib.hid (HD2.out.depth ka)
                              have HQ2 := Lib.hid (HD2.out.depth kb)
                              generalize depthI l ka = da at *
                              generalize depthI l kb = db at *
                              have d0 : decide (da ≤ db) = true := decide_eq_true hdm
                              clear hc hz
                              go_wp2_with fail
                              refine (HQ1.out _ HE2.out).mono ?_
                              rintro e wz2 ⟨rfl, hz⟩
                              have HE4 : Hid (Ext wc wz2) := Lib.hid (HE2.out.trans hz)
                              clear hz
                              go_wp2_with fail
                              refine (HQ2.out _ HE4.out).mono ?_
                              rintro e wz3 ⟨rfl, hz⟩
                              have HP : Hid (Gives (.bool true) w (.returned (.bool true)) wz3) := Lib.hid ⟨rfl, HXz.out.trans (HE4.out.trans hz)⟩
                              clear hz
                              go_wp2_with fail
                              go_ret
                              exact HP.out
end Go.Proofs.Ytfajligmdjpekaa
