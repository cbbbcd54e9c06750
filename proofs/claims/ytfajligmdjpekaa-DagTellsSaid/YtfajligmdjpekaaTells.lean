/- DagTells: the walk. -/
import Derived.Test.YtfajligmdjpekaaLaws
namespace Go.Proofs.Ytfajligmdjpekaa
open Go.RowKit Go.Lib Go.Maps Go.Shelf

set_option maxHeartbeats 2000000 in
theorem tells_walk (n c : Nat) (a : Option Addr) (l : List (List Int)) (hn : l.length = n) (hnc : n ≤ c) (hcm : c ≤ maxLen) (x y : Int) (w : World) (hf : RowFacts w a l) :
    Calls Try.prog 3 #[.slice a n c, .int .i64 x, .int .i64 y] w (Gives (.bool true) w) := by
  have HF := Lib.hid hf
  have HN := Lib.hid hn
  clear hf hn
  go_enter Try.func3, Try.ntmps3
  go_wp2_with fail
  refine (small_any w).mono ?_
  rintro e w1 ⟨rfl, h⟩
  have HX1 := Lib.hid h
  clear h
  go_wp2_with fail
  refine ((few_walk n c a l w1 HN.out hnc hcm (HF.out.ext HX1.out)).mono fun _ _ h => h.gives).mono ?_
  rintro e w2 ⟨rfl, h⟩
  have HX2 : Hid (Ext w w2) := Lib.hid (HX1.out.trans h)
  clear h
  cases hfew : fewB l with
  | false =>
    clear hfew
    go_wp2_with fail
    go_ret
    exact ⟨rfl, HX2.out⟩
  | true =>
    have h70 := few_le hfew
    rw [HN.out] at h70
    have HD : Hid (DagAt w a n c l) := Lib.hid (dagAt HN.out (by omega) HF.out)
    have HR : Hid (RefAt w a n c l) := Lib.hid (refAt HN.out (by omega) HF.out)
    have e1 : (right l != right l) = false := by simp
    have e2 : (isB l x y != isB l x y) = false := by simp
    have e3 : (depthI l x != depthI l x) = false := by simp
    have e4 : (baseI l x y != baseI l x y) = false := by simp
    clear hfew HF HN
    go_wp2_with fail
    refine (HD.out.right _ HX2.out).mono ?_
    rintro e w3 ⟨rfl, h⟩
    have HX3 : Hid (Ext w w3) := Lib.hid (HX2.out.trans h)
    clear h
    go_wp2_with fail
    refine (HR.out.right _ HX3.out).mono ?_
    rintro e w4 ⟨rfl, h⟩
    have HX4 : Hid (Ext w w4) := Lib.hid (HX3.out.trans h)
    clear h
    go_wp2_with fail
    refine (HD.out.is x y _ HX4.out).mono ?_
    rintro e w5 ⟨rfl, h⟩
    have HX5 : Hid (Ext w w5) := Lib.hid (HX4.out.trans h)
    clear h
    go_wp2_with fail
    refine (HR.out.is x y _ HX5.out).mono ?_
    rintro e w6 ⟨rfl, h⟩
    have HX6 : Hid (Ext w w6) := Lib.hid (HX5.out.trans h)
    clear h
    go_wp2_with fail
    refine (HD.out.depth x _ HX6.out).mono ?_
    rintro e w7 ⟨rfl, h⟩
    have HX7 : Hid (Ext w w7) := Lib.hid (HX6.out.trans h)
    clear h
    go_wp2_with fail
    refine (HR.out.depth x _ HX7.out).mono ?_
    rintro e w8 ⟨rfl, h⟩
    have HX8 : Hid (Ext w w8) := Lib.hid (HX7.out.trans h)
    clear h
    go_wp2_with fail
    refine (HD.out.base x y _ HX8.out).mono ?_
    rintro e w9 ⟨rfl, h⟩
    have HX9 : Hid (Ext w w9) := Lib.hid (HX8.out.trans h)
    clear h
    go_wp2_with fail
    refine (HR.out.base x y _ HX9.out).mono ?_
    rintro e w10 ⟨rfl, h⟩
    have HX10 : Hid (Ext w w10) := Lib.hid (HX9.out.trans h)
    clear h
    go_wp2_with fail
    have hlen := behindL_length l x
    refine (HD.out.behind x _ HX10.out).mono ?_
    rintro e w11 ⟨v, rfl, ho, h⟩
    obtain ⟨ao10, cp10, rfl, hc⟩ := ho.facts' (behindL l x).length rfl (by omega)
    have HC10 := Lib.hid hc
    have HX11 : Hid (Ext w w11) := Lib.hid (HX10.out.trans h)
    clear ho hc h
    go_wp2_with fail
    refine (HR.out.behind x _ HX11.out).mono ?_
    rintro e w12 ⟨v, rfl, ho, h⟩
    obtain ⟨ao11, cp11, rfl, hc⟩ := ho.facts' (behindL l x).length rfl (by omega)
    have HC11 := Lib.hid hc
    have HC10' := Lib.hid (HC10.out.ext h)
    have HX12 : Hid (Ext w w12) := Lib.hid (HX11.out.trans h)
    clear ho hc h HC10
    go_wp2_with fail
    refine (ints_same (behindL l x).length _ _ _ _ (behindL l x) rfl (by omega) _ HC10'.out HC11.out).mono ?_
    rintro e w13 ⟨rfl, h⟩
    have HX13 : Hid (Ext w w13) := Lib.hid (HX12.out.trans h)
    clear h HC10' HC11 hlen
    go_wp2_with fail
    have hlen := commonL_length l x y
    refine (HD.out.common x y _ HX13.out).mono ?_
    rintro e w14 ⟨v, rfl, ho, h⟩
    obtain ⟨ao13, cp13, rfl, hc⟩ := ho.facts' (commonL l x y).length rfl (by omega)
    have HC13 := Lib.hid hc
    have HX14 : Hid (Ext w w14) := Lib.hid (HX13.out.trans h)
    clear ho hc h
    go_wp2_with fail
    refine (HR.out.common x y _ HX14.out).mono ?_
    rintro e w15 ⟨v, rfl, ho, h⟩
    obtain ⟨ao14, cp14, rfl, hc⟩ := ho.facts' (commonL l x y).length rfl (by omega)
    have HC14 := Lib.hid hc
    have HC13' := Lib.hid (HC13.out.ext h)
    have HX15 : Hid (Ext w w15) := Lib.hid (HX14.out.trans h)
    clear ho hc h HC13
    go_wp2_with fail
    refine (ints_same (commonL l x y).length _ _ _ _ (commonL l x y) rfl (by omega) _ HC13'.out HC14.out).mono ?_
    rintro e w16 ⟨rfl, h⟩
    have HX16 : Hid (Ext w w16) := Lib.hid (HX15.out.trans h)
    clear h HC13' HC14 hlen
    go_wp2_with fail
    have hlen := basesL_length l x y
    refine (HD.out.bases x y _ HX16.out).mono ?_
    rintro e w17 ⟨v, rfl, ho, h⟩
    obtain ⟨ao16, cp16, rfl, hc⟩ := ho.facts' (basesL l x y).length rfl (by omega)
    have HC16 := Lib.hid hc
    have HX17 : Hid (Ext w w17) := Lib.hid (HX16.out.trans h)
    clear ho hc h
    go_wp2_with fail
    refine (HR.out.bases x y _ HX17.out).mono ?_
    rintro e w18 ⟨v, rfl, ho, h⟩
    obtain ⟨ao17, cp17, rfl, hc⟩ := ho.facts' (basesL l x y).length rfl (by omega)
    have HC17 := Lib.hid hc
    have HC16' := Lib.hid (HC16.out.ext h)
    have HX18 : Hid (Ext w w18) := Lib.hid (HX17.out.trans h)
    clear ho hc h HC16
    go_wp2_with fail
    refine (ints_same (basesL l x y).length _ _ _ _ (basesL l x y) rfl (by omega) _ HC16'.out HC17.out).mono ?_
    rintro e w19 ⟨rfl, h⟩
    have HX19 : Hid (Ext w w19) := Lib.hid (HX18.out.trans h)
    clear h HC16' HC17 hlen
    go_wp2_with fail
    have hlen := headsL_length l
    refine (HD.out.heads _ HX19.out).mono ?_
    rintro e w20 ⟨v, rfl, ho, h⟩
    obtain ⟨ao19, cp19, rfl, hc⟩ := ho.facts' (headsL l).length rfl (by omega)
    have HC19 := Lib.hid hc
    have HX20 : Hid (Ext w w20) := Lib.hid (HX19.out.trans h)
    clear ho hc h
    go_wp2_with fail
    refine (HR.out.heads _ HX20.out).mono ?_
    rintro e w21 ⟨v, rfl, ho, h⟩
    obtain ⟨ao20, cp20, rfl, hc⟩ := ho.facts' (headsL l).length rfl (by omega)
    have HC20 := Lib.hid hc
    have HC19' := Lib.hid (HC19.out.ext h)
    have HX21 : Hid (Ext w w21) := Lib.hid (HX20.out.trans h)
    clear ho hc h HC19
    go_wp2_with fail
    refine (ints_same (headsL l).length _ _ _ _ (headsL l) rfl (by omega) _ HC19'.out HC20.out).mono ?_
    rintro e w22 ⟨rfl, h⟩
    have HX22 : Hid (Ext w w22) := Lib.hid (HX21.out.trans h)
    clear h HC19' HC20 hlen
    go_wp2_with fail
    have hlen := newL_length l x y
    refine (HD.out.new x y _ HX22.out).mono ?_
    rintro e w23 ⟨v, rfl, ho, h⟩
    obtain ⟨ao22, cp22, rfl, hc⟩ := ho.facts' (newL l x y).length rfl (by omega)
    have HC22 := Lib.hid hc
    have HX23 : Hid (Ext w w23) := Lib.hid (HX22.out.trans h)
    clear ho hc h
    go_wp2_with fail
    refine (HR.out.new x y _ HX23.out).mono ?_
    rintro e w24 ⟨v, rfl, ho, h⟩
    obtain ⟨ao23, cp23, rfl, hc⟩ := ho.facts' (newL l x y).length rfl (by omega)
    have HC23 := Lib.hid hc
    have HC22' := Lib.hid (HC22.out.ext h)
    have HX24 : Hid (Ext w w24) := Lib.hid (HX23.out.trans h)
    clear ho hc h HC22
    go_wp2_with fail
    refine (ints_same (newL l x y).length _ _ _ _ (newL l x y) rfl (by omega) _ HC22'.out HC23.out).mono ?_
    rintro e w25 ⟨rfl, h⟩
    have HX25 : Hid (Ext w w25) := Lib.hid (HX24.out.trans h)
    clear h HC22' HC23 hlen
    go_wp2_with fail
    go_ret
    exact ⟨rfl, HX25.out⟩
end Go.Proofs.Ytfajligmdjpekaa
