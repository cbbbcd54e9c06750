/- DagGrows: the walk. -/
import Derived.Test.YtfajligmdjpekaaMore
import Derived.Deep.CutRange
import Derived.Deep.DeepCutAuto
namespace Go.Proofs.Ytfajligmdjpekaa
open Go.RowKit Go.Lib Go.Maps Go.Shelf

set_option maxHeartbeats 2000000 in
set_option maxRecDepth 100000 in
theorem grows_walk (n c : Nat) (a : Option Addr) (l : List (List Int)) (hn : l.length = n) (hnc : n ≤ c) (hcm : c ≤ maxLen) (x y z u : Int) (w : World) (hf : RowFacts w a l) :
    Calls Try.prog 5 #[.slice a n c, .int .i64 x, .int .i64 y, .int .i64 z, .int .i64 u] w (Gives (.bool true) w) := by
  have HF := Lib.hid hf
  have HN := Lib.hid hn
  clear hf hn
  go_enter Try.func5, Try.ntmps5
  go_wp2_with fail
  refine (small_any w).mono ?_
  rintro e w1 ⟨rfl, h⟩
  have HX1 := Lib.hid h
  clear h
  go_wp2_with fail
  refine ((few_walk n c a l w1 HN.out hnc hcm (HF.out.ext HX1.out)).mono fun _ _ h => h.gives).mono ?_
  rintro e w2 ⟨rfl, h⟩
  have HX2 : Hid (Ext w w2) := Lib.hid (HX1.out.trans h)
  clear h
  cases hfew : fewB l with
  | false =>
    clear hfew
    go_wp2_with fail
    go_ret
    exact ⟨rfl, HX2.out⟩
  | true =>
    have h70 := few_le hfew
    rw [HN.out] at h70
    have HD : Hid (DagAt w a n c l) := Lib.hid (dagAt HN.out (by omega) HF.out)
    clear hfew
    go_wp2_with fail
    refine (HD.out.right _ HX2.out).mono ?_
    rintro e w3 ⟨rfl, h⟩
    have HX3 : Hid (Ext w w3) := Lib.hid (HX2.out.trans h)
    clear h
    cases hr : right l with
    | false =>
      clear hr
      go_wp2_with fail
      go_ret
      exact ⟨rfl, HX3.out⟩
    | true =>
      by_cases hg : n ≥ 64
      · clear hr
        go_wp2_with fail
        go_ret
        exact ⟨rfl, HX3.out⟩
      · have hg8 := hg
        clear hg
        by_cases hg : x < 0
        · clear hr
          go_wp2_with fail
          go_ret
          exact ⟨rfl, HX3.out⟩
        · have hg10 := hg
          clear hg
          by_cases hg : y ≤ x
          · clear hr
            go_wp2_with fail
            go_ret
            exact ⟨rfl, HX3.out⟩
          · have hg12 := hg
            clear hg
            by_cases hg : y ≥ (n : Int)
            · clear hr
              go_wp2_with fail
              go_ret
              exact ⟨rfl, HX3.out⟩
            · have hg14 := hg
              clear hg
              obtain ⟨p, rfl⟩ := Int.eq_ofNat_of_zero_le (show 0 ≤ x by omega)
              obtain ⟨q, rfl⟩ := Int.eq_ofNat_of_zero_le (show 0 ≤ y by omega)
              have hpq : p < q := by omega
              have hqn : q < n := by omega
              have hn64 : n < 64 := by omega
              have HRT := Lib.hid hr
              have HPQ := Lib.hid hpq
              have HQN : Hid (q < l.length) := Lib.hid (by rw [HN.out]; exact hqn)
              have HN64 : Hid (l.length < 64) := Lib.hid (by rw [HN.out]; exact hn64)
              obtain ⟨us, hus, huc, hu1, huv⟩ : ∃ us : List Value, us.length = n ∧ (∀ ad, a = some ad → ∀ j u, us[j]? = some u → w.cell? (ad.add j) = some u) ∧ (∀ u ∈ us, u.oneCell' = true) ∧ ∀ (j : Nat) u r, us[j]? = some u → l[j]? = some r → RowVal w u r := by
                have e0 : l[0]? = some (l[0]'(by rw [HN.out]; omega)) := List.getElem?_eq_getElem _
                obtain ⟨b, o, _, _, ha, _⟩ := HF.out 0 _ e0
                subst ha
                obtain ⟨us, h1, h2, h3, h4⟩ := rows_vals HN.out HF.out
                exact ⟨us, h1, fun ad h => by cases h; exact h2, h3, h4⟩
              obtain ⟨ab, ao, rfl⟩ : ∃ ab ao, a = some ⟨ab, ao, none⟩ := by
                have e0 : l[0]? = some (l[0]'(by rw [HN.out]; omega)) := List.getElem?_eq_getElem _
                obtain ⟨b, o, _, _, ha, _⟩ := HF.out 0 _ e0
                exact ⟨b, o, ha⟩
              obtain ⟨i0, hi, hz0, hz1, hz2⟩ := info_parts Try.info29
              have HI := Lib.hid hi
              have HZ0 := Lib.hid hz0
              have HZ1 := Lib.hid hz1
              have HZ2 := Lib.hid hz2
              have HUS := Lib.hid hus
              have HUC := Lib.hid (huc _ rfl)
              have HU1 := Lib.hid hu1
              have HUV := Lib.hid huv
              have hgx : ¬ ((p : Int) < 0) := by omega
              clear hr hi hz0 hz1 hz2 hus huc hu1 huv hpq
              go_upto_region 5 with (fail)
              go_cut [13] from 19 to 54 (fun v wr => ∃ gm cm, v = .slice (some ⟨gm, 0, none⟩) (n + 1) cm ∧ Hid (DagAt wr (some ⟨gm, 0, none⟩) (n + 1) cm (l ++ [[(p : Int), (q : Int)]])) ∧ Hid (Ext w wr))
              case first =>
                have HW : Hid (w.heap.size ≤ w3.heap.size) := Lib.hid HX3.out.size
                go_wp2_with (first
                  | (at_builtin
                     refine wpList_append_own _ rfl (.tmp 47) (.tmp 48) 22 rfl w3.heap.size 29 i0 _ 1 24 Try.underlying22 HI.out HZ0.out HZ1.out HZ2.out rfl (by decide) _ 0 [] rfl ⟨rfl, .inr ⟨_, 0, _, rfl, Nat.le_refl _, heap_alloc_new _ _, Nat.le_refl _, by unfold maxLen; omega, rfl, rfl⟩⟩ ⟨ab, ao, none⟩ n c us rfl (by rw [HUS.out, Nat.mul_one])
                       (fun j u hj => ((HX3.out.alloc _).cell (HUC.out j u hj))) HU1.out (by unfold maxLen; omega) (by omega) (by simp) ?_
                     intro v1 w5 hown hgrow _
                     rw [Nat.zero_add, List.nil_append] at hown
                     have HO1 := Lib.hid hown
                     have HE1 : Hid (Ext w3 w5) := Lib.hid ((ext_alloc _ _).grown hgrow (fun k hk => by cases hk; exact Nat.le_refl _))
                     clear hown hgrow)
                  | (at_builtin
                     refine wpList_append_own _ rfl (.tmp 49) (.tmp 53) 22 rfl w3.heap.size 29 i0 _ 1 24 Try.underlying22 HI.out HZ0.out HZ1.out HZ2.out rfl (by decide) v1 n us rfl (ownsRow_below HO1.out ((ext_alloc _ _).alloc _)) ⟨w5.heap.size + 1, 0, none⟩ 1 1 [.slice (some ⟨w5.heap.size, 0, none⟩) 2 2] rfl rfl
                       (World.news_of_block (by have := heap_alloc_new (w5.alloc (.cells #[.int .i64 p, .int .i64 q] 3)) (.cells #[.slice (some ⟨w5.heap.size, 0, none⟩) 2 2] 29); rwa [heap_alloc_size] at this)) (fun u hu => by simp at hu; subst hu; rfl) (by unfold maxLen; omega) (by omega) (by have := HE1.out.size; simp; omega) ?_
                     intro v2 w6 hown hgrow _
                     have HO2 := Lib.hid hown
                     have HE2 : Hid (Ext w3 w6) := Lib.hid (((HE1.out.alloc _).alloc _).grown hgrow (fun k hk => by
                       rcases HO1.out.2 with ⟨hv, _⟩ | ⟨g, cp, cur, hv, hg, _⟩
                       · rw [hv] at hk; cases hk
                       · rw [hv] at hk; cases hk; exact hg))
                     have HB2 : Hid (w6.heap[w5.heap.size]? = some (.cells #[.int .i64 p, .int .i64 q] 3 (0, 0))) := Lib.hid (by
                       have h1 := (ext_alloc (w5.alloc (.cells #[.int .i64 p, .int .i64 q] 3)) (.cells #[.slice (some ⟨w5.heap.size, 0, none⟩) 2 2] 29)).heap (heap_alloc_new w5 (.cells #[.int .i64 p, .int .i64 q] 3))
                       rw [hgrow.block w5.heap.size (by rw [heap_alloc_size, heap_alloc_size]; omega) (fun e => by
                         rcases HO1.out.2 with ⟨hv, _⟩ | ⟨g, cp, cur, hv, hg, hb, _⟩
                         · rw [hv] at e; cases e
                         · rw [hv] at e
                           cases e
                           have h9 := (Array.getElem?_eq_some_iff.1 hb).1
                           simp at h9)]
                       exact h1)
                     clear hown hgrow))
                obtain ⟨gm, cm, rfl, hcm1, hcm2, hcells⟩ := ownsRow_cells HO2.out (by omega)
                have HRF : RowFacts w6 (some ⟨gm, 0, none⟩) (l ++ [[(p : Int), (q : Int)]]) := rows_more HN.out HUS.out hcells (fun j v s h1 h2 => (HUV.out j v s h1 h2).ext (HX3.out.trans HE2.out)) (pair_val _ _ HB2.out)
                have HDM : Hid (DagAt w6 (some ⟨gm, 0, none⟩) (n + 1) cm (l ++ [[(p : Int), (q : Int)]])) := Lib.hid (dagAt (by simp [HN.out]) (by omega) HRF)
                have HE3 : Hid (Ext w w6) := Lib.hid (HX3.out.trans HE2.out)
                clear hcells HRF
                go_wp2_with fail
                go_meet
                exact ⟨gm, cm, rfl, HDM, HE3⟩
              case rest =>
                obtain ⟨gm, cm, rfl, HDM, HX100⟩ := hcut
                obtain ⟨w100, hw100⟩ : ∃ w100, w100 = wc := ⟨_, rfl⟩
                subst hw100
                have HRM : Hid (right (l ++ [[(p : Int), (q : Int)]]) = true) := Lib.hid (more_right HRT.out HPQ.out HQN.out HN64.out)
                have HIB : Hid (isB l z u = (isB (l ++ [[(p : Int), (q : Int)]]) z u && decide (z < (n : Int)) && decide (u < (n : Int)))) := Lib.hid (by have := more_isB HRT.out HPQ.out HQN.out HN64.out z u; rwa [HN.out] at this)
                have HMB : Hid (∀ i : Nat, i < n → isB (l ++ [[(p : Int), (q : Int)]]) i n = (isB l i p || isB l i q)) := Lib.hid (fun i hi => by have := more_behind HRT.out HPQ.out HQN.out HN64.out (i := i) (by rw [HN.out]; exact hi); rwa [HN.out] at this)
                obtain ⟨ys, hys⟩ := more_heads HRT.out HPQ.out HQN.out HN64.out
                rw [HN.out] at hys
                have hhl := headsL_length (l ++ [[(p : Int), (q : Int)]])
                clear HI HZ0 HZ1 HZ2 HUS HUC HU1 HUV
                go_wp2_with fail
                refine (HDM.out.heads _ (ext_refl _)).mono ?_
                rintro e w101 ⟨v, rfl, ho, h⟩
                obtain ⟨aoh, cph, rfl, hc⟩ := ho.facts' (ys.length + 1) (by rw [hys]; simp) (by rw [hys] at hhl; simp at hhl; omega)
                obtain ⟨bh, oh, rfl, hcell⟩ := hc ys.length (n : Int) (by rw [hys]; simp)
                have HH : Hid (∀ W, Ext w101 W → W.cell? ⟨bh, oh + ys.length, none⟩ = some (.int .i64 (n : Int))) := Lib.hid fun W hW => hW.cell hcell
                have HW1 : Hid (Ext w100 w101) := Lib.hid h
                have hyl : ys.length ≤ 63 := by rw [hys] at hhl; simp at hhl; omega
                clear ho h hc hcell hhl hys
                generalize ys.length = yl at *
                go_upto_region 8 with (fail)
                go_cut [97] from 55 to 97 (fun u wr => u = .bool false ∧ Hid (Ext w100 wr))
                case first =>
                  go_wp2_with fail
                  have hcr := HDM.out.right _ HW1.out
                  rw [HRM.out] at hcr
                  refine hcr.mono ?_
                  rintro e w102 ⟨rfl, h⟩
                  have HW2 : Hid (Ext w100 w102) := Lib.hid (HW1.out.trans h)
                  have hcell := HH.out w102 h
                  have hq1 : ((yl + 1 : Nat) : Int) - 1 = yl := by omega
                  have hne : ¬ ((yl + 1 : Nat) : Int) = 0 := by omega
                  clear h hcr
                  go_wp2_with fail
                  have hcb := HD.out.is z u _ (HX100.out.trans HW2.out)
                  have HIS : Hid (∀ W, Ext w100 W → Calls Try.prog 12 #[.slice (some ⟨gm, 0, none⟩) (n + 1) cm, .int .i64 z, .int .i64 u] W (Gives (.bool (isB (l ++ [[(p : Int), (q : Int)]]) z u)) W)) := Lib.hid fun W hW => HDM.out.is z u W hW
                  have hib := HIB.out
                  generalize isB l z u = bl at *
                  generalize isB (l ++ [[(p : Int), (q : Int)]]) z u = bm at *
                  refine hcb.mono ?_
                  rintro e w103 ⟨rfl, h⟩
                  have HW3 : Hid (Ext w100 w103) := Lib.hid (HW2.out.trans h)
                  clear h hcb hcell HIB
                  cases bm with
                  | false =>
                    obtain rfl : bl = false := by rw [hib]; rfl
                    clear hib
                    go_wp2_with fail
                    refine (HIS.out _ HW3.out).mono ?_
                    rintro e w104 ⟨rfl, h⟩
                    have HW4 : Hid (Ext w100 w104) := Lib.hid (HW3.out.trans h)
                    clear h
                    go_wp2_with fail
                    go_meet
                    exact ⟨rfl, HW4⟩
                  | true =>
                    by_cases hz : z < (n : Int)
                    · have dz : decide (z < (n : Int)) = true := decide_eq_true hz
                      rw [dz] at hib
                      by_cases hu : u < (n : Int)
                      · have du : decide (u < (n : Int)) = true := decide_eq_true hu
                        rw [du] at hib
                        obtain rfl : bl = true := by rw [hib]; rfl
                        clear hib
                        go_wp2_with fail
                        refine (HIS.out _ HW3.out).mono ?_
                        rintro e w104 ⟨rfl, h⟩
                        have HW4 : Hid (Ext w100 w104) := Lib.hid (HW3.out.trans h)
                        clear h
                        go_wp2_with fail
                        go_meet
                        exact ⟨rfl, HW4⟩
                      · have du : decide (u < (n : Int)) = false := decide_eq_false hu
                        rw [du] at hib
                        obtain rfl : bl = false := by rw [hib]; rfl
                        clear hib
                        go_wp2_with fail
                        refine (HIS.out _ HW3.out).mono ?_
                        rintro e w104 ⟨rfl, h⟩
                        have HW4 : Hid (Ext w100 w104) := Lib.hid (HW3.out.trans h)
                        clear h
                        go_wp2_with fail
                        go_meet
                        exact ⟨rfl, HW4⟩
                    · have dz : decide (z < (n : Int)) = false := decide_eq_false hz
                      rw [dz] at hib
                      obtain rfl : bl = false := by rw [hib]; rfl
                      clear hib
                      go_wp2_with fail
                      refine (HIS.out _ HW3.out).mono ?_
                      rintro e w104 ⟨rfl, h⟩
                      have HW4 : Hid (Ext w100 w104) := Lib.hid (HW3.out.trans h)
                      clear h
                      go_wp2_with fail
                      go_meet
                      exact ⟨rfl, HW4⟩
                case rest =>
                  rename_i wprev
                  obtain ⟨rfl, HZ⟩ := hcut
                  obtain ⟨wi, hwi⟩ : ∃ wi, wi = wc := ⟨_, rfl⟩
                  subst hwi
                  have HXi : Hid (Ext w wi) := Lib.hid (HX100.out.trans HZ.out)
                  by_cases hz0 : z < 0
                  · go_wp2_with fail
                    go_ret
                    exact ⟨rfl, HXi.out⟩
                  · by_cases hzn : z ≥ (n : Int)
                    · go_wp2_with fail
                      go_ret
                      exact ⟨rfl, HXi.out⟩
                    · obtain ⟨ka, rfl⟩ := Int.eq_ofNat_of_zero_le (show 0 ≤ z by omega)
                      have hka : ka < n := by omega
                      have hmb := HMB.out ka hka
                      have hlp : p < l.length := by have := HPQ.out; have := HQN.out; omega
                      have hd1 := dep_le HRT.out p
                      have hd2 := dep_le HRT.out q
                      have hpq := HPQ.out
                      have HNN : Hid (newL (l ++ [[(p : Int), (q : Int)]]) n ka = [] ↔ isB (l ++ [[(p : Int), (q : Int)]]) ka n = true) := Lib.hid (by
                        have hk2 : ka < l.length := by rw [HN.out]; exact hka
                        have := new_nil HRM.out (a := l.length) (b := ka) (by simp) (by simp; omega)
                        rwa [HN.out] at this)
                      have HNW : Hid (∀ W, Ext w100 W → Calls Try.prog 27 #[.slice (some ⟨gm, 0, none⟩) (n + 1) cm, .int .i64 n, .int .i64 ka] W (RowPost W (newL (l ++ [[(p : Int), (q : Int)]]) n ka))) := Lib.hid fun W hW => HDM.out.new n ka W hW
                      have HQ1 : Hid (∀ W, Ext w W → Calls Try.prog 14 #[.slice (some ⟨ab, ao, none⟩) n c, .int .i64 p] W (Gives (.int .i64 (dep l p : Nat)) W)) := Lib.hid fun W hW => by
                        have := HD.out.depth p W hW
                        rwa [depthI_nat HRT.out hlp] at this
                      have HQ2 : Hid (∀ W, Ext w W → Calls Try.prog 14 #[.slice (some ⟨ab, ao, none⟩) n c, .int .i64 q] W (Gives (.int .i64 (dep l q : Nat)) W)) := Lib.hid fun W hW => by
                        have := HD.out.depth q W hW
                        rwa [depthI_nat HRT.out HQN.out] at this
                      have HQ3 : Hid (∀ W, Ext w100 W → Calls Try.prog 14 #[.slice (some ⟨gm, 0, none⟩) (n + 1) cm, .int .i64 n] W (Gives (.int .i64 ((max (dep l p) (dep l q) + 1 : Nat) : Int)) W)) := Lib.hid fun W hW => by
                        have h1 := HDM.out.depth n W hW
                        have h2 := more_depth HRT.out HPQ.out HQN.out HN64.out
                        rw [HN.out] at h2
                        rwa [h2] at h1
                      generalize dep l p = dp at *
                      generalize dep l q = dq at *
                      have hcast : (((max dp dq + 1 : Nat)) : Int) = max (dp : Int) (dq : Int) + 1 := by omega
                      rw [hcast] at HQ3
                      have d0 : (max (dp : Int) (dq : Int) + 1 == max (dp : Int) (dq : Int) + 1) = true := by simp
                      have HI1 : Hid (∀ W, Ext w W → Calls Try.prog 12 #[.slice (some ⟨ab, ao, none⟩) n c, .int .i64 ka, .int .i64 p] W (Gives (.bool (isB l ka p)) W)) := Lib.hid fun W hW => HD.out.is ka p W hW
                      have HI2 : Hid (∀ W, Ext w W → Calls Try.prog 12 #[.slice (some ⟨ab, ao, none⟩) n c, .int .i64 ka, .int .i64 q] W (Gives (.bool (isB l ka q)) W)) := Lib.hid fun W hW => HD.out.is ka q W hW
                      clear hcast hlp HIB HMB
                      go_wp2_with fail
                      have hc := HDM.out.is ka n _ HZ.out
                      generalize isB l ka p = b1 at *
                      generalize isB l ka q = b2 at *
                      cases b1 with
                      | true =>
                        have hbm : isB (l ++ [[(p : Int), (q : Int)]]) ka n = true := by rw [hmb]; rfl
                        rw [hbm] at hc
                        clear hmb
                        refine hc.mono ?_
                        rintro e w4 ⟨rfl, h⟩
                        have HW4 : Hid (Ext w100 w4) := Lib.hid (HZ.out.trans h)
                        clear h hc
                        go_wp2_with fail
                        refine (HI1.out _ (HX100.out.trans HW4.out)).mono ?_
                        rintro e w5 ⟨rfl, h⟩
                        have HW5 : Hid (Ext w100 w5) := Lib.hid (HW4.out.trans h)
                        clear h
                        go_wp2_with fail
                        refine (HNW.out _ HW5.out).mono ?_
                        rintro e w6 ⟨v, rfl, ho, h⟩
                        obtain ⟨aon, cpn, rfl, _⟩ := ho.facts' (newL (l ++ [[(p : Int), (q : Int)]]) n ka).length rfl (by have := newL_length (l ++ [[(p : Int), (q : Int)]]) n ka; omega)
                        have HW6 : Hid (Ext w100 w6) := Lib.hid (HW5.out.trans h)
                        clear ho h
                        have hln : ((newL (l ++ [[(p : Int), (q : Int)]]) n ka).length : Int) = 0 ↔ isB (l ++ [[(p : Int), (q : Int)]]) ka n = true := by rw [← HNN.out, ← List.length_eq_zero_iff]; omega
                        rw [hbm] at hln
                        generalize (newL (l ++ [[(p : Int), (q : Int)]]) n ka).length = nn at *
                        have d1 : ((nn : Int) == 0) = true := by simp at hln ⊢; omega
                        clear hln
                        go_wp2_with fail
                        have hc := HDM.out.is ka n _ HW6.out
                        rw [hbm] at hc
                        refine hc.mono ?_
                        rintro e w7 ⟨rfl, h⟩
                        have HW7 : Hid (Ext w100 w7) := Lib.hid (HW6.out.trans h)
                        clear h hc
                        go_wp2_with fail
                        refine (HQ3.out _ HW7.out).mono ?_
                        rintro e w8 ⟨rfl, h⟩
                        have HW8 : Hid (Ext w100 w8) := Lib.hid (HW7.out.trans h)
                        clear h
                        go_wp2_with fail
                        refine (HQ1.out _ (HX100.out.trans HW8.out)).mono ?_
                        rintro e w9 ⟨rfl, h⟩
                        have HW9 : Hid (Ext w100 w9) := Lib.hid (HW8.out.trans h)
                        clear h
                        go_wp2_with fail
                        refine (HQ2.out _ (HX100.out.trans HW9.out)).mono ?_
                        rintro e w10 ⟨rfl, h⟩
                        have HP : Hid (Gives (.bool true) w (.returned (.bool true)) w10) := Lib.hid ⟨rfl, HX100.out.trans (HW9.out.trans h)⟩
                        clear h
                        go_wp2_with fail
                        go_ret
                        exact HP.out
                      | false =>
                        cases b2 with
                        | true =>
                          have hbm : isB (l ++ [[(p : Int), (q : Int)]]) ka n = true := by rw [hmb]; rfl
                          rw [hbm] at hc
                          clear hmb
                          refine hc.mono ?_
                          rintro e w4 ⟨rfl, h⟩
                          have HW4 : Hid (Ext w100 w4) := Lib.hid (HZ.out.trans h)
                          clear h hc
                          go_wp2_with fail
                          refine (HI1.out _ (HX100.out.trans HW4.out)).mono ?_
                          rintro e w4' ⟨rfl, h⟩
                          have HW4' : Hid (Ext w100 w4') := Lib.hid (HW4.out.trans h)
                          clear h
                          go_wp2_with fail
                          refine (HI2.out _ (HX100.out.trans HW4'.out)).mono ?_
                          rintro e w5 ⟨rfl, h⟩
                          have HW5 : Hid (Ext w100 w5) := Lib.hid (HW4'.out.trans h)
                          clear h
                          go_wp2_with fail
                          refine (HNW.out _ HW5.out).mono ?_
                          rintro e w6 ⟨v, rfl, ho, h⟩
                          obtain ⟨aon, cpn, rfl, _⟩ := ho.facts' (newL (l ++ [[(p : Int), (q : Int)]]) n ka).length rfl (by have := newL_length (l ++ [[(p : Int), (q : Int)]]) n ka; omega)
                          have HW6 : Hid (Ext w100 w6) := Lib.hid (HW5.out.trans h)
                          clear ho h
                          have hln : ((newL (l ++ [[(p : Int), (q : Int)]]) n ka).length : Int) = 0 ↔ isB (l ++ [[(p : Int), (q : Int)]]) ka n = true := by rw [← HNN.out, ← List.length_eq_zero_iff]; omega
                          rw [hbm] at hln
                          generalize (newL (l ++ [[(p : Int), (q : Int)]]) n ka).length = nn at *
                          have d1 : ((nn : Int) == 0) = true := by simp at hln ⊢; omega
                          clear hln
                          go_wp2_with fail
                          have hc := HDM.out.is ka n _ HW6.out
                          rw [hbm] at hc
                          refine hc.mono ?_
                          rintro e w7 ⟨rfl, h⟩
                          have HW7 : Hid (Ext w100 w7) := Lib.hid (HW6.out.trans h)
                          clear h hc
                          go_wp2_with fail
                          refine (HQ3.out _ HW7.out).mono ?_
                          rintro e w8 ⟨rfl, h⟩
                          have HW8 : Hid (Ext w100 w8) := Lib.hid (HW7.out.trans h)
                          clear h
                          go_wp2_with fail
                          refine (HQ1.out _ (HX100.out.trans HW8.out)).mono ?_
                          rintro e w9 ⟨rfl, h⟩
                          have HW9 : Hid (Ext w100 w9) := Lib.hid (HW8.out.trans h)
                          clear h
                          go_wp2_with fail
                          refine (HQ2.out _ (HX100.out.trans HW9.out)).mono ?_
                          rintro e w10 ⟨rfl, h⟩
                          have HP : Hid (Gives (.bool true) w (.returned (.bool true)) w10) := Lib.hid ⟨rfl, HX100.out.trans (HW9.out.trans h)⟩
                          clear h
                          go_wp2_with fail
                          go_ret
                          exact HP.out
                        | false =>
                          have hbm : isB (l ++ [[(p : Int), (q : Int)]]) ka n = false := by rw [hmb]; rfl
                          rw [hbm] at hc
                          clear hmb
                          refine hc.mono ?_
                          rintro e w4 ⟨rfl, h⟩
                          have HW4 : Hid (Ext w100 w4) := Lib.hid (HZ.out.trans h)
                          clear h hc
                          go_wp2_with fail
                          refine (HI1.out _ (HX100.out.trans HW4.out)).mono ?_
                          rintro e w4' ⟨rfl, h⟩
                          have HW4' : Hid (Ext w100 w4') := Lib.hid (HW4.out.trans h)
                          clear h
                          go_wp2_with fail
                          refine (HI2.out _ (HX100.out.trans HW4'.out)).mono ?_
                          rintro e w5 ⟨rfl, h⟩
                          have HW5 : Hid (Ext w100 w5) := Lib.hid (HW4'.out.trans h)
                          clear h
                          go_wp2_with fail
                          refine (HNW.out _ HW5.out).mono ?_
                          rintro e w6 ⟨v, rfl, ho, h⟩
                          obtain ⟨aon, cpn, rfl, _⟩ := ho.facts' (newL (l ++ [[(p : Int), (q : Int)]]) n ka).length rfl (by have := newL_length (l ++ [[(p : Int), (q : Int)]]) n ka; omega)
                          have HW6 : Hid (Ext w100 w6) := Lib.hid (HW5.out.trans h)
                          clear ho h
                          have hln : ((newL (l ++ [[(p : Int), (q : Int)]]) n ka).length : Int) = 0 ↔ isB (l ++ [[(p : Int), (q : Int)]]) ka n = true := by rw [← HNN.out, ← List.length_eq_zero_iff]; omega
                          rw [hbm] at hln
                          generalize (newL (l ++ [[(p : Int), (q : Int)]]) n ka).length = nn at *
                          have d1 : ((nn : Int) == 0) = false := by simp at hln ⊢; omega
                          clear hln
                          go_wp2_with fail
                          have hc := HDM.out.is ka n _ HW6.out
                          rw [hbm] at hc
                          refine hc.mono ?_
                          rintro e w7 ⟨rfl, h⟩
                          have HW7 : Hid (Ext w100 w7) := Lib.hid (HW6.out.trans h)
                          clear h hc
                          go_wp2_with fail
                          refine (HQ3.out _ HW7.out).mono ?_
                          rintro e w8 ⟨rfl, h⟩
                          have HW8 : Hid (Ext w100 w8) := Lib.hid (HW7.out.trans h)
                          clear h
                          go_wp2_with fail
                          refine (HQ1.out _ (HX100.out.trans HW8.out)).mono ?_
                          rintro e w9 ⟨rfl, h⟩
                          have HW9 : Hid (Ext w100 w9) := Lib.hid (HW8.out.trans h)
                          clear h
                          go_wp2_with fail
                          refine (HQ2.out _ (HX100.out.trans HW9.out)).mono ?_
                          rintro e w10 ⟨rfl, h⟩
                          have HP : Hid (Gives (.bool true) w (.returned (.bool true)) w10) := Lib.hid ⟨rfl, HX100.out.trans (HW9.out.trans h)⟩
                          clear h
                          go_wp2_with fail
                          go_ret
                          exact HP.out
end Go.Proofs.Ytfajligmdjpekaa
