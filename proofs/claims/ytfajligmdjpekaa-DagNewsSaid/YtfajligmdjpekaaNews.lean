/- DagNews: the walk. -/
import Derived.Test.YtfajligmdjpekaaLaws
import Derived.Test.YtfajligmdjpekaaPlain
namespace Go.Proofs.Ytfajligmdjpekaa
open Go.RowKit Go.Lib Go.Maps Go.Shelf

set_option maxHeartbeats 2000000 in
theorem news_walk (n c : Nat) (a : Option Addr) (l : List (List Int)) (hn : l.length = n) (hnc : n ≤ c) (hcm : c ≤ maxLen) (x y : Int) (w : World) (hf : RowFacts w a l) :
    Calls Try.prog 6 #[.slice a n c, .int .i64 x, .int .i64 y] w (Gives (.bool true) w) := by
  have HF := Lib.hid hf
  have HN := Lib.hid hn
  clear hf hn
  go_enter Try.func6, Try.ntmps6
  go_wp2_with fail
  refine (small_any w).mono ?_
  rintro e w1 ⟨rfl, h⟩
  have HX1 := Lib.hid h
  clear h
  go_wp2_with fail
  refine ((few_walk n c a l w1 HN.out hnc hcm (HF.out.ext HX1.out)).mono fun _ _ h => h.gives).mono ?_
  rintro e w2 ⟨rfl, h⟩
  have HX2 : Hid (Ext w w2) := Lib.hid (HX1.out.trans h)
  clear h
  cases hfew : fewB l with
  | false =>
    clear hfew
    go_wp2_with fail
    go_ret
    exact ⟨rfl, HX2.out⟩
  | true =>
    have h70 := few_le hfew
    rw [HN.out] at h70
    have HD : Hid (DagAt w a n c l) := Lib.hid (dagAt HN.out (by omega) HF.out)
    clear hfew
    go_wp2_with fail
    refine (HD.out.right _ HX2.out).mono ?_
    rintro e w3 ⟨rfl, h⟩
    have HX3 : Hid (Ext w w3) := Lib.hid (HX2.out.trans h)
    clear h
    cases hr : right l with
    | false =>
      clear hr
      go_wp2_with fail
      go_ret
      exact ⟨rfl, HX3.out⟩
    | true =>
      by_cases hg : x < 0
      · clear hr
        go_wp2_with fail
        go_ret
        exact ⟨rfl, HX3.out⟩
      · have hg8 := hg
        clear hg
        by_cases hg : y < 0
        · clear hr
          go_wp2_with fail
          go_ret
          exact ⟨rfl, HX3.out⟩
        · have hg10 := hg
          clear hg
          by_cases hg : x ≥ (n : Int)
          · clear hr
            go_wp2_with fail
            go_ret
            exact ⟨rfl, HX3.out⟩
          · have hg12 := hg
            clear hg
            by_cases hg : y ≥ (n : Int)
            · clear hr
              go_wp2_with fail
              go_ret
              exact ⟨rfl, HX3.out⟩
            · have hg14 := hg
              clear hg
              obtain ⟨ka, rfl⟩ := Int.eq_ofNat_of_zero_le (show 0 ≤ x by omega)
              obtain ⟨kb, rfl⟩ := Int.eq_ofNat_of_zero_le (show 0 ≤ y by omega)
              have hla : ka < l.length := by rw [HN.out]; omega
              have hlb : kb < l.length := by rw [HN.out]; omega
              have hlen := news_len hr hla hlb
              have HNM : Hid (∀ z ∈ newL l ka kb, isB l z kb = true ∧ isB l z ka = false) := Lib.hid fun z hz => new_mem hr hla hlb hz
              have HCM : Hid (∀ z ∈ commonL l ka kb, isB l z ka = true ∧ isB l z kb = true) := Lib.hid fun z hz => common_mem hr hla hlb hz
              have HCC : Hid (commonL l kb ka = commonL l ka kb) := Lib.hid (common_comm hr hlb hla)
              have HNN : Hid (newL l ka kb = [] ↔ isB l kb ka = true) := Lib.hid (new_nil hr hla hlb)
              clear hr hla hlb
              go_wp2_with fail
              have hlenf := newL_length l ka kb
              refine (HD.out.new ka kb _ HX3.out).mono ?_
              rintro e w4 ⟨v, rfl, ho, h⟩
              obtain ⟨aof, cpf, rfl, hc⟩ := ho.facts' (newL l ka kb).length rfl (by omega)
              have HCf : Hid (∀ W, Ext w4 W → IntsFacts W aof (newL l ka kb)) := Lib.hid fun W hW => hc.ext hW
              have HX4 : Hid (Ext w w4) := Lib.hid (HX3.out.trans h)
              have HY4 : Hid (Ext w3 w4) := Lib.hid h
              clear ho hc h
              go_wp2_with fail
              have hlenb := commonL_length l ka kb
              refine (HD.out.common ka kb _ HX4.out).mono ?_
              rintro e w5 ⟨v, rfl, ho, h⟩
              obtain ⟨aob, cpb, rfl, hc⟩ := ho.facts' (commonL l ka kb).length rfl (by omega)
              have HCb : Hid (∀ W, Ext w5 W → IntsFacts W aob (commonL l ka kb)) := Lib.hid fun W hW => hc.ext hW
              have HX5 : Hid (Ext w w5) := Lib.hid (HX4.out.trans h)
              have HY5 : Hid (Ext w4 w5) := Lib.hid h
              clear ho hc h
              go_wp2_with fail
              have hlenl := behindL_length l kb
              refine (HD.out.behind kb _ HX5.out).mono ?_
              rintro e w6 ⟨v, rfl, ho, h⟩
              obtain ⟨aol, cpl, rfl, hc⟩ := ho.facts' (behindL l kb).length rfl (by omega)
              have HCl : Hid (∀ W, Ext w6 W → IntsFacts W aol (behindL l kb)) := Lib.hid fun W hW => hc.ext hW
              have HX6 : Hid (Ext w w6) := Lib.hid (HX5.out.trans h)
              have HY6 : Hid (Ext w5 w6) := Lib.hid h
              clear ho hc h
              have HCf5 : Hid (∀ W, Ext w6 W → IntsFacts W aof (newL l ka kb)) := Lib.hid fun W hW => HCf.out W (HY5.out.trans (HY6.out.trans hW))
              have HCb5 : Hid (∀ W, Ext w6 W → IntsFacts W aob (commonL l ka kb)) := Lib.hid fun W hW => HCb.out W (HY6.out.trans hW)
              clear HCf HCb HCl HY6 HY5 HY4
              have hsum : ((newL l ka kb).length : Int) + (commonL l ka kb).length = (behindL l kb).length := by omega
              have HIS : Hid (∀ W, Ext w6 W → Calls Try.prog 12 #[.slice a n c, .int .i64 kb, .int .i64 ka] W (Gives (.bool (isB l kb ka)) W)) := Lib.hid fun W hW => HD.out.is kb ka W (HX6.out.trans hW)
              have HCO : Hid (∀ W, Ext w6 W → Calls Try.prog 21 #[.slice a n c, .int .i64 kb, .int .i64 ka] W (RowPost W (commonL l ka kb))) := Lib.hid fun W hW => by
                have := HD.out.common kb ka W (HX6.out.trans hW)
                rwa [HCC.out] at this
              generalize newL l ka kb = fs at *
              generalize commonL l ka kb = bs at *
              generalize behindL l kb = ls at *
              obtain ⟨nf, hnf⟩ : ∃ nf, nf = fs.length := ⟨_, rfl⟩
              obtain ⟨nb, hnb⟩ : ∃ nb, nb = bs.length := ⟨_, rfl⟩
              have HNF := Lib.hid hnf
              have HNB := Lib.hid hnb
              rw [← hnf] at hsum hlenf ⊢
              rw [← hnb] at hsum hlenb ⊢
              generalize ls.length = nl at *
              clear hnf hnb hlen
              go_wp2_with fail
              go_loopw [12] (fun q wr => ∃ k : Nat, k ≤ nf ∧ q = .int .i64 k ∧ Hid (Ext w6 wr)) (fun q _ => nf - (intOf q).toNat)
              case atStart => exact ⟨0, Nat.zero_le _, rfl, Lib.hid (ext_refl _)⟩
              case round =>
                obtain ⟨k, hk, rfl, he⟩ := hrel
                by_cases hlt : k < nf
                · have ez : fs[k]? = some (fs[k]'(by rw [← HNF.out]; exact hlt)) := List.getElem?_eq_getElem _
                  generalize (fs[k]'(by rw [← HNF.out]; exact hlt)) = z at ez
                  obtain ⟨hz1, hz2⟩ := HNM.out z (List.mem_of_getElem? ez)
                  obtain ⟨b, o, rfl, hcell⟩ := HCf5.out wr he.out k z ez
                  have hc1 := HD.out.is z kb wr (HX6.out.trans he.out)
                  have HC2 : Hid (∀ W, Ext wr W → Calls Try.prog 12 #[.slice a n c, .int .i64 z, .int .i64 ka] W (Gives (.bool false) W)) := Lib.hid fun W hW => by
                    have := HD.out.is z ka W (HX6.out.trans (he.out.trans hW))
                    rwa [hz2] at this
                  rw [hz1] at hc1
                  clear ez hz1 hz2
                  go_wp2_with fail
                  refine hc1.mono ?_
                  rintro e wa ⟨rfl, ha⟩
                  have hcell2 := ha.cell hcell
                  have HA := Lib.hid ha
                  clear hc1 ha hcell
                  go_wp2_with fail
                  refine (HC2.out wa HA.out).mono ?_
                  rintro e wb ⟨rfl, hb⟩
                  have HE : Hid (Ext w6 wb) := Lib.hid (he.out.trans (HA.out.trans hb))
                  clear hb hcell2
                  go_wp2_with fail
                  go_roundw
                  case rel => exact ⟨k + 1, by omega, by go_num, HE⟩
                  case measure => simp [intOf]; omega
                · obtain rfl : k = nf := by omega
                  obtain ⟨wo, hwo⟩ : ∃ wo, wo = wr := ⟨_, rfl⟩
                  subst hwo
                  clear HCf5 HNM
                  go_wp2_with fail
                  go_loopw [13] (fun q wr => ∃ j : Nat, j ≤ nb ∧ q = .int .i64 j ∧ Hid (Ext w6 wr)) (fun q _ => nb - (intOf q).toNat)
                  case atStart => exact ⟨0, Nat.zero_le _, rfl, he⟩
                  case round =>
                    obtain ⟨j, hj, rfl, he2⟩ := hrel
                    by_cases hlt2 : j < nb
                    · have ez : bs[j]? = some (bs[j]'(by rw [← HNB.out]; exact hlt2)) := List.getElem?_eq_getElem _
                      generalize (bs[j]'(by rw [← HNB.out]; exact hlt2)) = z at ez
                      obtain ⟨hz1, hz2⟩ := HCM.out z (List.mem_of_getElem? ez)
                      obtain ⟨b, o, rfl, hcell⟩ := HCb5.out wr he2.out j z ez
                      have hc1 := HD.out.is z ka wr (HX6.out.trans he2.out)
                      have HC2 : Hid (∀ W, Ext wr W → Calls Try.prog 12 #[.slice a n c, .int .i64 z, .int .i64 kb] W (Gives (.bool true) W)) := Lib.hid fun W hW => by
                        have := HD.out.is z kb W (HX6.out.trans (he2.out.trans hW))
                        rwa [hz2] at this
                      rw [hz1] at hc1
                      clear ez hz1 hz2
                      go_wp2_with fail
                      refine hc1.mono ?_
                      rintro e wa ⟨rfl, ha⟩
                      have hcell2 := ha.cell hcell
                      have HA := Lib.hid ha
                      clear hc1 ha hcell
                      go_wp2_with fail
                      refine (HC2.out wa HA.out).mono ?_
                      rintro e wb ⟨rfl, hb⟩
                      have HE : Hid (Ext w6 wb) := Lib.hid (he2.out.trans (HA.out.trans hb))
                      clear hb hcell2
                      go_wp2_with fail
                      go_roundw
                      case rel => exact ⟨j + 1, by omega, by go_num, HE⟩
                      case measure => simp [intOf]; omega
                    · obtain rfl : j = nb := by omega
                      go_wp2_with fail
                      refine (HCO.out wr he2.out).mono ?_
                      rintro e wa ⟨v, rfl, ho, ha⟩
                      obtain ⟨aoc, cpc, rfl, hc⟩ := ho.facts' j HNB.out.symm (by omega)
                      have HA := Lib.hid ha
                      have HC1 := Lib.hid (HCb5.out wa (he2.out.trans ha))
                      have HC2 := Lib.hid hc
                      clear ho ha hc
                      go_wp2_with fail
                      refine (ints_same j _ _ _ _ bs HNB.out.symm (by omega) _ HC1.out HC2.out).mono ?_
                      rintro e wb ⟨rfl, hb⟩
                      have HB : Hid (Ext w6 wb) := Lib.hid (he2.out.trans (HA.out.trans hb))
                      have hcall := HIS.out wb HB.out
                      clear hb HC1 HC2
                      by_cases h0 : k = 0
                      · have ht : isB l kb ka = true := HNN.out.1 (List.eq_nil_of_length_eq_zero (by rw [← HNF.out]; exact h0))
                        rw [ht] at hcall
                        subst h0
                        go_wp2_with fail
                        refine hcall.mono ?_
                        rintro e wc ⟨rfl, hcx⟩
                        have HP : Hid (Gives (.bool true) w (.returned (.bool true)) wc) := Lib.hid ⟨rfl, HX6.out.trans (HB.out.trans hcx)⟩
                        clear hcall hcx
                        go_wp2_with fail
                        go_ret
                        exact HP.out
                      · have ht : isB l kb ka = false := by
                          cases hb : isB l kb ka with
                          | false => rfl
                          | true => exact absurd (by rw [HNF.out, HNN.out.2 hb]; rfl) h0
                        rw [ht] at hcall
                        go_wp2_with fail
                        refine hcall.mono ?_
                        rintro e wc ⟨rfl, hcx⟩
                        have e0 : (!((k : Int) == 0)) = true := by simp; omega
                        have HP : Hid (Gives (.bool true) w (.returned (.bool (!((k : Int) == 0)))) wc) := Lib.hid ⟨by rw [e0], HX6.out.trans (HB.out.trans hcx)⟩
                        clear hcall hcx e0
                        go_wp2_with fail
                        go_ret
                        exact HP.out
end Go.Proofs.Ytfajligmdjpekaa
