/- DagDepths: the walk. -/
import Derived.Test.YtfajligmdjpekaaLaws
import Derived.Test.YtfajligmdjpekaaPlain2
namespace Go.Proofs.Ytfajligmdjpekaa
open Go.RowKit Go.Lib Go.Maps Go.Shelf

set_option maxHeartbeats 2000000 in
theorem depths_walk (n c : Nat) (a : Option Addr) (l : List (List Int)) (hn : l.length = n) (hnc : n ≤ c) (hcm : c ≤ maxLen) (x : Int) (w : World) (hf : RowFacts w a l) :
    Calls Try.prog 7 #[.slice a n c, .int .i64 x] w (Gives (.bool true) w) := by
  have HF := Lib.hid hf
  have HN := Lib.hid hn
  clear hf hn
  go_enter Try.func7, Try.ntmps7
  go_wp2_with fail
  refine (small_any w).mono ?_
  rintro e w1 ⟨rfl, h⟩
  have HX1 := Lib.hid h
  clear h
  go_wp2_with fail
  refine ((few_walk n c a l w1 HN.out hnc hcm (HF.out.ext HX1.out)).mono fun _ _ h => h.gives).mono ?_
  rintro e w2 ⟨rfl, h⟩
  have HX2 : Hid (Ext w w2) := Lib.hid (HX1.out.trans h)
  clear h
  cases hfew : fewB l with
  | false =>
    clear hfew
    go_wp2_with fail
    go_ret
    exact ⟨rfl, HX2.out⟩
  | true =>
    have h70 := few_le hfew
    rw [HN.out] at h70
    have HD : Hid (DagAt w a n c l) := Lib.hid (dagAt HN.out (by omega) HF.out)
    clear hfew
    go_wp2_with fail
    refine (HD.out.right _ HX2.out).mono ?_
    rintro e w3 ⟨rfl, h⟩
    have HX3 : Hid (Ext w w3) := Lib.hid (HX2.out.trans h)
    clear h
    cases hr : right l with
    | false =>
      clear hr
      go_wp2_with fail
      go_ret
      exact ⟨rfl, HX3.out⟩
    | true =>
      by_cases hg : x < 0
      · clear hr
        go_wp2_with fail
        go_ret
        exact ⟨rfl, HX3.out⟩
      · have hg8 := hg
        clear hg
        by_cases hg : x ≥ (n : Int)
        · clear hr
          go_wp2_with fail
          go_ret
          exact ⟨rfl, HX3.out⟩
        · have hg10 := hg
          clear hg
          obtain ⟨k, rfl⟩ := Int.eq_ofNat_of_zero_le (show 0 ≤ x by omega)
          have hlk : k < l.length := by rw [HN.out]; omega
          have er : l[k]? = some l[k] := List.getElem?_eq_getElem hlk
          generalize l[k] = r at er
          have hdk := depthI_nat hr hlk
          have hd1 := dep_pos hr k
          have hd2 := dep_le hr k
          have h64 := right_length hr
          have hr2 := (okRow_mem (right_row hr er)).1
          have HPR : Hid (∀ z ∈ r, depthI l z < dep l k ∧ isB l z k = true) := Lib.hid fun z hz => row_par hr er hz
          have HBL : Hid (dep l k ≤ (behindL l k).length) := Lib.hid (dep_behind hr k k (Nat.le_refl _) hlk)
          have HHD : Hid (∃ z ∈ headsL l, isB l k z = true) := Lib.hid (some_head hr _ k (Nat.le_refl _) hlk)
          have HR0 : Hid (r = [] → dep l k = 1) := Lib.hid fun h => row_none hr (h ▸ er)
          have HR1 : Hid (r ≠ [] → r.any (fun z => depthI l z == (dep l k : Int) - 1) = true) := Lib.hid fun h => row_some hr er h
          obtain ⟨bl, ol, ar, cr, rfl, hu, hrc, hcrm, hx⟩ := HF.out k r er
          obtain ⟨m, hm⟩ : ∃ m, m = r.length := ⟨_, rfl⟩
          rw [← hm] at hu hrc hr2
          have HMr := Lib.hid hm
          have HU : Hid (∀ W, Ext w W → W.cell? ⟨bl, ol + k, none⟩ = some (.slice ar m cr)) := Lib.hid fun W hW => hW.cell hu
          have HRC : Hid (∀ W, Ext w W → IntsFacts W ar r) := Lib.hid fun W hW i z hi => by
            obtain ⟨b, o, h1, h2⟩ := hx i z hi
            exact ⟨b, o, h1, hW.cell h2⟩
          have HDP : Hid (∀ W, Ext w W → Calls Try.prog 14 #[.slice (some ⟨bl, ol, none⟩) n c, .int .i64 k] W (Gives (.int .i64 (dep l k : Nat)) W)) := Lib.hid fun W hW => by
            have := HD.out.depth k W hW
            rwa [hdk] at this
          clear hr hlk er hdk h64 hu hx hm
          generalize dep l k = D at *
          go_wp2_with fail
          refine (HDP.out _ HX3.out).mono ?_
          rintro e w4 ⟨rfl, h⟩
          have HX4 : Hid (Ext w w4) := Lib.hid (HX3.out.trans h)
          clear h
          by_cases hm0 : m = 0
          · have hD1 : D = 1 := HR0.out (List.eq_nil_of_length_eq_zero (by rw [← HMr.out]; exact hm0))
            subst hm0 hD1
            have hu := HU.out w4 HX4.out
            clear HPR HR0 HR1
            go_wp2_with fail
            go_loopw [8, 9, 10] (fun o q _ wr => o = .bool true ∧ q = .int .i64 0 ∧ wr = w4) (fun _ _ _ _ => 0)
            case atStart => exact ⟨rfl, rfl, rfl⟩
            case round =>
              obtain ⟨rfl, rfl, hw⟩ := hrel
              have hu := HU.out wr (by rw [hw]; exact HX4.out)
              have HE : Hid (Ext w wr) := Lib.hid (by rw [hw]; exact HX4.out)
              clear hw
              go_wp2_with fail
              refine (HD.out.heads _ HE.out).mono ?_
              rintro e wh ⟨v, rfl, ho, h⟩
              have hlenh := headsL_length l
              obtain ⟨aoh, cph, rfl, hc⟩ := ho.facts' (headsL l).length rfl (by omega)
              have HCH : Hid (∀ W, Ext wh W → IntsFacts W aoh (headsL l)) := Lib.hid fun W hW => hc.ext hW
              have HXh : Hid (Ext w wh) := Lib.hid (HE.out.trans h)
              clear ho hc h
              generalize headsL l = hs at *
              obtain ⟨nh, hnh⟩ : ∃ nh, nh = hs.length := ⟨_, rfl⟩
              have HNH := Lib.hid hnh
              rw [← hnh] at hlenh ⊢
              clear hnh
              go_wp2_with fail
              go_loopw [12, 13] (fun u q wr => ∃ j : Nat, j ≤ nh ∧ q = .int .i64 j ∧ u = .bool ((hs.take j).any fun z => isB l k z) ∧ Hid (Ext wh wr)) (fun _ q _ => nh - (intOf q).toNat)
              case atStart => exact ⟨0, Nat.zero_le _, rfl, rfl, Lib.hid (ext_refl _)⟩
              case round =>
                obtain ⟨j, hj, rfl, rfl, he⟩ := hrel
                by_cases hlt : j < nh
                · have ez : hs[j]? = some (hs[j]'(by rw [← HNH.out]; exact hlt)) := List.getElem?_eq_getElem _
                  generalize (hs[j]'(by rw [← HNH.out]; exact hlt)) = z at ez
                  have HSU : Hid ((hs.take (j + 1)).any (fun z => isB l k z) = ((hs.take j).any (fun z => isB l k z) || isB l k z)) := Lib.hid (by rw [List.take_add_one, ez]; simp)
                  obtain ⟨b, o, rfl, hcell⟩ := HCH.out _ he.out j z ez
                  have hcall := HD.out.is k z _ (HXh.out.trans he.out)
                  clear ez
                  generalize isB l k z = bz at *
                  cases hu : (hs.take j).any fun z => isB l k z with
                  | true =>
                    rw [hu] at HSU
                    clear hu hcall
                    go_wp2_with fail
                    go_roundw
                    case rel => exact ⟨j + 1, by omega, by go_num, by rw [HSU.out]; rfl, he⟩
                    case measure => simp [intOf]; omega
                  | false =>
                    rw [hu] at HSU
                    clear hu
                    go_wp2_with fail
                    refine hcall.mono ?_
                    rintro e wz ⟨rfl, hz⟩
                    have HE2 : Hid (Ext wh wz) := Lib.hid (he.out.trans hz)
                    clear hcall hz hcell
                    go_wp2_with fail
                    go_roundw
                    case rel => exact ⟨j + 1, by omega, by go_num, by rw [HSU.out]; rfl, HE2⟩
                    case measure => simp [intOf]; omega
                · obtain rfl : j = nh := by omega
                  have hall : (hs.take j).any (fun z => isB l k z) = true := by
                    rw [HNH.out, List.take_length, List.any_eq_true]; exact HHD.out
                  rw [hall]
                  have hbl := HBL.out
                  have hlenl := behindL_length l k
                  have hcall := HD.out.behind k wr (HXh.out.trans he.out)
                  generalize behindL l k = bs at *
                  clear hall
                  go_wp2_with fail
                  refine hcall.mono ?_
                  rintro e wz ⟨v, rfl, ho, hz⟩
                  obtain ⟨aob, cpb, rfl, _⟩ := ho.facts' bs.length rfl (by omega)
                  have d0 : decide (((1 : Nat) : Int) ≤ (bs.length : Int)) = true := by simp; omega
                  have HP : Hid (Ext w wz) := Lib.hid (HXh.out.trans (he.out.trans hz))
                  clear hcall ho hz
                  go_wp2_with fail
                  go_ret
                  exact ⟨by simp <;> omega, HP.out⟩
          · have hany := HR1.out (fun e => hm0 (by rw [HMr.out, e]; rfl))
            have HANY := Lib.hid hany
            have hu := HU.out w4 HX4.out
            have d0 : ((m : Int) == 0) = false := by simp; omega
            clear HR0 HR1 hany
            go_wp2_with fail
            go_loopw [8, 9, 10] (fun o q _ wr => ∃ i : Nat, i ≤ m ∧ q = .int .i64 i ∧ o = .bool ((r.take i).any fun z => depthI l z == (D : Int) - 1) ∧ Hid (Ext w wr)) (fun _ q _ _ => m - (intOf q).toNat)
            case atStart => exact ⟨0, Nat.zero_le _, rfl, rfl, HX4⟩
            case round =>
              obtain ⟨i, hi, rfl, rfl, he⟩ := hrel
              have hu := HU.out wr he.out
              by_cases hlt : i < m
              · have ez : r[i]? = some (r[i]'(by rw [← HMr.out]; exact hlt)) := List.getElem?_eq_getElem _
                generalize (r[i]'(by rw [← HMr.out]; exact hlt)) = z at ez
                obtain ⟨hz1, hz2⟩ := HPR.out z (List.mem_of_getElem? ez)
                have HSU : Hid ((r.take (i + 1)).any (fun z => depthI l z == (D : Int) - 1) = ((r.take i).any (fun z => depthI l z == (D : Int) - 1) || (depthI l z == (D : Int) - 1))) := Lib.hid (by rw [List.take_add_one, ez]; simp)
                obtain ⟨b, o, rfl, hcell⟩ := HRC.out _ he.out i z ez
                have hcall := HD.out.depth z _ he.out
                have HC2 : Hid (∀ W, Ext w W → Calls Try.prog 12 #[.slice (some ⟨bl, ol, none⟩) n c, .int .i64 z, .int .i64 k] W (Gives (.bool true) W)) := Lib.hid fun W hW => by
                  have := HD.out.is z k W hW
                  rwa [hz2] at this
                clear hz2
                generalize depthI l z = d at *
                go_wp2_with fail
                refine hcall.mono ?_
                rintro e wa ⟨rfl, ha⟩
                have HA : Hid (Ext w wa) := Lib.hid (he.out.trans ha)
                have hu2 := HU.out wa HA.out
                have hcell2 := ha.cell hcell
                have d1 : decide (d ≥ (D : Int)) = false := by simp; omega
                have d2 : ¬ (d ≥ (D : Int)) := by omega
                clear hcall ha hcell hu
                go_wp2_with fail
                refine (HC2.out wa HA.out).mono ?_
                rintro e wb ⟨rfl, hb⟩
                have HE : Hid (Ext w wb) := Lib.hid (HA.out.trans hb)
                clear hb hcell2 hu2 ez
                cases ho : (r.take i).any fun z => depthI l z == (D : Int) - 1 with
                | true =>
                  rw [ho] at HSU
                  clear ho
                  go_wp2_with fail
                  go_roundw
                  case rel => exact ⟨i + 1, by omega, by go_num, by rw [HSU.out]; rfl, HE⟩
                  case measure => simp [intOf]; omega
                | false =>
                  rw [ho] at HSU
                  clear ho
                  go_wp2_with fail
                  go_roundw
                  case rel => exact ⟨i + 1, by omega, by go_num, by rw [HSU.out]; rfl, HE⟩
                  case measure => simp [intOf]; omega
              · obtain rfl : i = m := by omega
                have hall : (r.take i).any (fun z => depthI l z == (D : Int) - 1) = true := by
                  rw [HMr.out, List.take_length]; exact HANY.out
                rw [hall]
                obtain ⟨wo, hwo⟩ : ∃ wo, wo = wr := ⟨_, rfl⟩
                subst hwo
                have HE := he
                clear hall HPR HANY he
                go_wp2_with fail
                refine (HD.out.heads _ HE.out).mono ?_
                rintro e wh ⟨v, rfl, ho, h⟩
                have hlenh := headsL_length l
                obtain ⟨aoh, cph, rfl, hc⟩ := ho.facts' (headsL l).length rfl (by omega)
                have HCH : Hid (∀ W, Ext wh W → IntsFacts W aoh (headsL l)) := Lib.hid fun W hW => hc.ext hW
                have HXh : Hid (Ext w wh) := Lib.hid (HE.out.trans h)
                clear ho hc h
                generalize headsL l = hs at *
                obtain ⟨nh, hnh⟩ : ∃ nh, nh = hs.length := ⟨_, rfl⟩
                have HNH := Lib.hid hnh
                rw [← hnh] at hlenh ⊢
                clear hnh
                go_wp2_with fail
                go_loopw [12, 13] (fun u q wr => ∃ j : Nat, j ≤ nh ∧ q = .int .i64 j ∧ u = .bool ((hs.take j).any fun z => isB l k z) ∧ Hid (Ext wh wr)) (fun _ q _ => nh - (intOf q).toNat)
                case atStart => exact ⟨0, Nat.zero_le _, rfl, rfl, Lib.hid (ext_refl _)⟩
                case round =>
                  obtain ⟨j, hj, rfl, rfl, he⟩ := hrel
                  by_cases hlt : j < nh
                  · have ez : hs[j]? = some (hs[j]'(by rw [← HNH.out]; exact hlt)) := List.getElem?_eq_getElem _
                    generalize (hs[j]'(by rw [← HNH.out]; exact hlt)) = z at ez
                    have HSU : Hid ((hs.take (j + 1)).any (fun z => isB l k z) = ((hs.take j).any (fun z => isB l k z) || isB l k z)) := Lib.hid (by rw [List.take_add_one, ez]; simp)
                    obtain ⟨b, o, rfl, hcell⟩ := HCH.out _ he.out j z ez
                    have hcall := HD.out.is k z _ (HXh.out.trans he.out)
                    clear ez
                    generalize isB l k z = bz at *
                    cases hu : (hs.take j).any fun z => isB l k z with
                    | true =>
                      rw [hu] at HSU
                      clear hu hcall
                      go_wp2_with fail
                      go_roundw
                      case rel => exact ⟨j + 1, by omega, by go_num, by rw [HSU.out]; rfl, he⟩
                      case measure => simp [intOf]; omega
                    | false =>
                      rw [hu] at HSU
                      clear hu
                      go_wp2_with fail
                      refine hcall.mono ?_
                      rintro e wz ⟨rfl, hz⟩
                      have HE2 : Hid (Ext wh wz) := Lib.hid (he.out.trans hz)
                      clear hcall hz hcell
                      go_wp2_with fail
                      go_roundw
                      case rel => exact ⟨j + 1, by omega, by go_num, by rw [HSU.out]; rfl, HE2⟩
                      case measure => simp [intOf]; omega
                  · obtain rfl : j = nh := by omega
                    have hall : (hs.take j).any (fun z => isB l k z) = true := by
                      rw [HNH.out, List.take_length, List.any_eq_true]; exact HHD.out
                    rw [hall]
                    have hbl := HBL.out
                    have hlenl := behindL_length l k
                    have hcall := HD.out.behind k wr (HXh.out.trans he.out)
                    generalize behindL l k = bs at *
                    clear hall
                    go_wp2_with fail
                    refine hcall.mono ?_
                    rintro e wz ⟨v, rfl, ho, hz⟩
                    obtain ⟨aob, cpb, rfl, _⟩ := ho.facts' bs.length rfl (by omega)
                    have d0 : decide (((D : Nat) : Int) ≤ (bs.length : Int)) = true := by simp; omega
                    have HP : Hid (Ext w wz) := Lib.hid (HXh.out.trans (he.out.trans hz))
                    clear hcall ho hz
                    go_wp2_with fail
                    go_ret
                    exact ⟨by simp <;> omega, HP.out⟩
end Go.Proofs.Ytfajligmdjpekaa
