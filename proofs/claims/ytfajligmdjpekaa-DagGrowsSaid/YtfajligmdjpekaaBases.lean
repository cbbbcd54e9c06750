/- The last ones of those that stand behind both: dag.Bases. -/
import Derived.Test.YtfajligmdjpekaaCommon
namespace Go.Proofs.Ytfajligmdjpekaa
open Go.RowKit Go.Lib Go.Maps Go.Shelf

/-- Those under the first ones of xs. -/
def underOf (l : List (List Int)) (xs : List Int) (j : Nat) : Bool := xs.any fun c => (pars l c.toNat).any fun p => anc l p j
def withRow (l : List (List Int)) (U : Nat → Bool) (ps : List Int) (j : Nat) : Bool := U j || ps.any fun x => anc l x.toNat j
theorem withRow_more (l : List (List Int)) (U : Nat → Bool) (ps : List Int) (x : Int) (j : Nat) : withRow l U (ps ++ [x]) j = (withRow l U ps j || anc l x.toNat j) := by simp [withRow, Bool.or_assoc]
theorem underOf_more (l : List (List Int)) (xs : List Int) (k : Nat) (r : List Int) (hk : l[k]? = some r) (j : Nat) : underOf l (xs ++ [(k : Int)]) j = withRow l (underOf l xs) r j := by
  simp [underOf, withRow, pars, hk, List.any_map, Function.comp_def]
theorem underOf_common {l : List (List Int)} {n i j : Nat} (hn : l.length = n) (x : Nat) : underOf l (rowOf n (commonS l i j)) x = underS l i j x := by
  rw [Bool.eq_iff_iff]
  simp only [underOf, underS, List.any_eq_true, Bool.and_eq_true, List.mem_range, hn]
  constructor
  · rintro ⟨c, hc, h⟩
    obtain ⟨k, hk, hS, rfl⟩ := mem_rowOf.1 hc
    exact ⟨k, hk, hS, by simpa using h⟩
  · rintro ⟨k, hk, hS, h⟩
    exact ⟨k, mem_rowOf.2 ⟨k, hk, hS, rfl⟩, by simpa using h⟩

theorem grown_cell2 {w W : World} {row : Option Nat} (h : w.grownBy W row) {p : Addr} (hp : row ≠ some p.block) {v : Value} (hc : w.cell? p = some v) : W.cell? p = some v := by
  have hlt := World.block_lt_of_cell? w p hc
  simp only [World.cell?] at hc ⊢
  rw [h.block _ hlt (fun e => hp e.symm)]
  exact hc
theorem grown_set2 {w W : World} {row : Option Nat} (h : w.grownBy W row) {b : Nat} (hp : row ≠ some b) {S : Nat → Bool} (hs : SetAt w b S) : SetAt W b S := by
  have hlt := hs.lt
  obtain ⟨D, ⟨es, k, hb, h1⟩, h2⟩ := hs
  exact ⟨D, ⟨es, k, (h.block _ hlt (fun e => hp e.symm)).trans hb, h1⟩, h2⟩
theorem But.grown {c : Nat} {w w' : World} (h : But c w w') : w.grownBy w' (some c) := ⟨h.os, h.tape, h.output, h.size, fun k hk hne => h.block k hk (fun e => hne (by rw [e]))⟩
theorem plain4_inv {v : Value} {y : D1 × List MemPlace} (h : plainElem Try.prog 4 v = some y) : ∃ c, v = .bool c := by
  cases v <;> simp [plainElem, Try.underlying4] at h
  exact ⟨_, rfl⟩

theorem But.trans_new {c : Nat} {a w w' : World} (h : But c a w) {r : Nat} (hg : w.grownBy w' (some r)) (hr : a.heap.size ≤ r) : But c a w' :=
  ⟨hg.os.trans h.os, hg.tape.trans h.tape, hg.output.trans h.output, Nat.le_trans h.size hg.size, fun k hk hc => (hg.block k (Nat.lt_of_lt_of_le hk h.size) (by simp; omega)).trans (h.block k hk hc)⟩
/-- In the midst of the innermost loop. -/
def InMap (wr wA : World) (mU mb r0 : Nat) (D : D1) (U V : Nat → Bool) : Prop :=
  ∃ left cnt, wr.ranges Try.prog 3 (plainElem Try.prog 4) mb r0 64 D left cnt ∧ (∀ kl, left kl = true → ∃ j : Nat, j < 64 ∧ kl = .int .i64 j ∧ V j = true) ∧
    SetAt wr mU (fun j => U j || (V j && !left (.int .i64 j))) ∧ But mU wA wr

set_option maxHeartbeats 1000000 in
theorem bases_any (n c : Nat) (a : Option Addr) (l : List (List Int)) (hn : l.length = n) (hc : n ≤ 1000) (x y : Int) (w : World) (hf : RowFacts w a l) :
    Calls Try.prog 23 #[.slice a n c, .int .i64 x, .int .i64 y] w (RowPost w (basesL l x y)) := by
  have HF := Lib.hid hf
  have HN := Lib.hid hn
  clear hf hn
  have hmm := @run_makeMap Try.prog
  go_enter Try.func23, Try.ntmps23
  go_wp2_with fail
  refine (common_any n c a l HN.out hc x y w HF.out).mono ?_
  rintro e w1 ⟨v, rfl, ho, h1⟩
  have HO := Lib.hid ho
  have HE := Lib.hid h1
  obtain ⟨ao, cp, hv⟩ := own_shape ho
  subst hv
  clear ho h1
  cases ht : there2 l x y with
  | false =>
    have hc0 : commonL l x y = [] := by simp [commonL, ht]
    have HB0 : Hid (basesL l x y = []) := Lib.hid (by simp [basesL, ht])
    rw [hc0] at HO ⊢
    simp only [List.length_nil] at HO ⊢
    clear ht hc0
    go_wp2_with fail
    obtain ⟨wA, hwA⟩ : ∃ wA, wA = (w1.alloc (.map #[] 0)).alloc (.cells #[.map (some w1.heap.size)] 38) := ⟨_, rfl⟩
    rw [← hwA]
    have hE1 : Ext w1 wA := by rw [hwA]; exact (ext_alloc _ _).alloc _
    have hSA : SetAt wA w1.heap.size (fun _ => false) := by rw [hwA]; exact (setAt_new w1).ext (ext_alloc _ _)
    have hBx : wA.cell? ⟨w1.heap.size + 1, 0, none⟩ = some (.map (some w1.heap.size)) := by
      rw [hwA]
      have := cell_new1 (w1.alloc (.map #[] 0)) 38 (.map (some w1.heap.size))
      simpa only [World.size_alloc] using this
    have hblk : ∀ q, (Value.slice ao 0 cp).ownBlock = some q → w.heap.size ≤ q ∧ q < w1.heap.size := fun q hq => HO.out.lt q hq
    have hrow : ∀ q, w1.heap.size ≤ q → (Value.slice ao 0 cp).ownBlock ≠ some q := fun q h1 h2 => by have := (hblk q h2).2; omega
    have hOA : Own w.heap.size wA (.slice ao 0 cp) (rowOf 0 (fun _ => false)) := HO.out.ext hE1
    have HD := Lib.hid (delete_own 38 #[.pointer (some ⟨w1.heap.size + 1, 0, none⟩)] enters38 (fun _ => false) (fun _ => false) 0 w.heap.size (by omega) _ wA hOA (fun W hW k hk =>
      in_38 k hk (w1.heap.size + 1) w1.heap.size (fun _ => false) W (grown_cell2 hW (hrow _ (by show w1.heap.size ≤ w1.heap.size + 1; omega)) hBx) (grown_set2 hW (hrow _ (Nat.le_refl _)) hSA)))
    have HBK := Lib.hid hblk
    have HEA := Lib.hid (HE.out.trans hE1)
    clear hwA hE1 hSA hBx hblk hrow hOA hmm
    go_loopw [21] (fun q wr => q = .int .i64 0 ∧ wr = wA) (fun _ _ => 0)
    case atStart => exact ⟨rfl, rfl⟩
    case round =>
      obtain ⟨rfl, rfl⟩ := hrel
      go_wp2_with fail
      refine HD.out.mono ?_
      rintro e w5 ⟨v', rfl, ho5, hg5⟩
      obtain ⟨ao', m', cp', hv'⟩ := own_form ho5
      have HP : Hid (RowPost w (basesL l x y) (.returned v') w5) := Lib.hid ⟨v', rfl, by rw [HB0.out]; exact ho5, HEA.out.grown hg5 (fun q hq => (HBK.out q hq).1)⟩
      clear ho5 hg5
      subst hv'
      go_wp2_with fail
      go_ret
      exact HP.out
  | true =>
    obtain ⟨hr, ⟨i, rfl, hi⟩, ⟨j, rfl, hj⟩⟩ := there2_open ht
    have HC : Hid (commonL l i j = rowOf n (commonS l i j)) := Lib.hid (by simp [commonL, ht, HN.out])
    have HBs : Hid (basesL l i j = rowOf n (basesS l i j)) := Lib.hid (by simp [basesL, ht, HN.out])
    have h64 : n ≤ 64 := by rw [← HN.out]; exact right_length hr
    have HR := Lib.hid hr
    rw [HN.out] at hi hj
    obtain ⟨m, hm⟩ : ∃ m, m = (commonL l i j).length := ⟨_, rfl⟩
    rw [← hm]
    have hm64 : m ≤ 64 := by rw [hm, HC.out]; exact Nat.le_trans (rowOf_length _ _) h64
    have HM := Lib.hid hm
    clear ht hr hm
    go_wp2_with fail
    obtain ⟨wA, hwA⟩ : ∃ wA, wA = (w1.alloc (.map #[] 0)).alloc (.cells #[.map (some w1.heap.size)] 38) := ⟨_, rfl⟩
    rw [← hwA]
    have hE1 : Ext w1 wA := by rw [hwA]; exact (ext_alloc _ _).alloc _
    have hSA : SetAt wA w1.heap.size (fun _ => false) := by rw [hwA]; exact (setAt_new w1).ext (ext_alloc _ _)
    have hBx : wA.cell? ⟨w1.heap.size + 1, 0, none⟩ = some (.map (some w1.heap.size)) := by
      rw [hwA]
      have := cell_new1 (w1.alloc (.map #[] 0)) 38 (.map (some w1.heap.size))
      simpa only [World.size_alloc] using this
    have hzA : wA.heap.size = w1.heap.size + 2 := by rw [hwA]; simp
    have hsz1 := HE.out.size
    have HE1 := Lib.hid hE1
    have HSA := Lib.hid hSA
    have HBx := Lib.hid hBx
    have hints : ∀ t z, (commonL l i j)[t]? = some z → ∃ b o, ao = some ⟨b, o, none⟩ ∧ w1.cell? ⟨b, o + t, none⟩ = some (.int .i64 z) := by
      obtain ⟨a', c', he, _, _, hh⟩ := (HO.out.ints (by rw [← HM.out]; unfold maxLen; omega)).open
      simp only [Value.slice.injEq] at he
      obtain ⟨rfl, _⟩ := he
      exact hh
    have HI := Lib.hid hints
    obtain ⟨mU, hmU⟩ : ∃ mU, mU = w1.heap.size := ⟨_, rfl⟩
    rw [← hmU] at HSA HBx hzA hsz1 ⊢
    have HU := Lib.hid hmU
    clear hwA hE1 hSA hBx hints hmU
    go_loopw [10, 21] (fun _ q wr => ∃ t : Nat, t ≤ m ∧ q = .int .i64 t ∧ Hid (SetAt wr mU (underOf l ((commonL l i j).take t))) ∧ Hid (But mU wA wr)) (fun _ q _ => m - (intOf q).toNat)
    case atStart => exact ⟨0, Nat.zero_le _, rfl, Lib.hid (HSA.out.congr fun k => by simp [underOf]), Lib.hid (But.refl _ _)⟩
    case round =>
      obtain ⟨t, htm, rfl, hs, hb⟩ := hrel
      have HEw : Hid (Ext w wr) := Lib.hid (hb.out.ext (HE.out.trans HE1.out) hsz1)
      have HEw1 : Hid (Ext w1 wr) := Lib.hid (hb.out.ext HE1.out (by rw [HU.out]; exact Nat.le_refl _))
      have hzr := hb.out.size
      by_cases hlt : t < m
      · have ex : (commonL l i j)[t]? = some ((commonL l i j)[t]'(by rw [← HM.out]; exact hlt)) := List.getElem?_eq_getElem _
        generalize ((commonL l i j)[t]'(by rw [← HM.out]; exact hlt)) = z at ex
        have hz : z ∈ rowOf n (commonS l i j) := by rw [← HC.out]; exact List.mem_of_getElem? ex
        obtain ⟨k, hkn, hkS, rfl⟩ := mem_rowOf.1 hz
        obtain ⟨b', o', rfl, hcz⟩ := HI.out t _ ex
        have hcz' := HEw1.out.cell hcz
        have HX := Lib.hid ex
        have er : l[k]? = some (l[k]'(by rw [HN.out]; exact hkn)) := List.getElem?_eq_getElem _
        generalize (l[k]'(by rw [HN.out]; exact hkn)) = r at er
        obtain ⟨hr2, hrx⟩ := okRow_mem (right_row HR.out er)
        have HRX := Lib.hid hrx
        have HER := Lib.hid er
        have hfr := HF.out.ext HEw.out
        have HFr := Lib.hid hfr
        obtain ⟨b, o, ar, cr, rfl, hu, h3, h4, hx⟩ := hfr k r er
        obtain ⟨m2, hm2⟩ : ∃ m2, m2 = r.length := ⟨_, rfl⟩
        rw [← hm2] at hu hr2 h3
        have HM2 := Lib.hid hm2
        clear ex hz hcz er hrx hfr hm2 hx hmm
        obtain ⟨wo, hwo⟩ : ∃ wo, wo = wr := ⟨_, rfl⟩
        subst hwo
        go_wp2_with fail
        go_loopw [12, 30] (fun _ q wr => ∃ s : Nat, s ≤ m2 ∧ q = .int .i64 s ∧ Hid (SetAt wr mU (withRow l (underOf l ((commonL l i j).take t)) (r.take s))) ∧ Hid (But mU wA wr)) (fun _ q _ => m2 - (intOf q).toNat)
        case atStart => exact ⟨0, Nat.zero_le _, rfl, Lib.hid (hs.out.congr fun k => by simp [withRow]), hb⟩
        case round =>
          obtain ⟨s, hsm, rfl, hs2, hb2⟩ := hrel
          have HEv : Hid (Ext w wr) := Lib.hid (hb2.out.ext (HE.out.trans HE1.out) hsz1)
          have hzr2 := hb2.out.size
          by_cases hlt2 : s < m2
          · have ep : r[s]? = some (r[s]'(by rw [← HM2.out]; exact hlt2)) := List.getElem?_eq_getElem _
            generalize (r[s]'(by rw [← HM2.out]; exact hlt2)) = z at ep
            have hz0 := HRX.out z (List.mem_of_getElem? ep)
            obtain ⟨p, rfl⟩ := Int.eq_ofNat_of_zero_le hz0.1
            have hpk : p < k := by omega
            have hcp : ∃ bp op, ar = some ⟨bp, op, none⟩ ∧ wr.cell? ⟨bp, op + s, none⟩ = some (.int .i64 p) := by
              obtain ⟨b2, o2, ar2, cr2, he, hu2, _, _, hx2⟩ := HF.out k r HER.out
              have h1 := HEw.out.cell hu2
              cases he
              rw [hu] at h1
              simp only [Option.some.injEq, Value.slice.injEq] at h1
              obtain ⟨rfl, _⟩ := h1
              obtain ⟨bp, op, e1, e2⟩ := hx2 s p ep
              exact ⟨bp, op, e1, HEv.out.cell e2⟩
            obtain ⟨bp, op, rfl, hcp⟩ := hcp
            have HEP := Lib.hid ep
            clear ep hz0 hu hcz'
            go_wp2_with fail
            refine (behind_any n c _ l HR.out HN.out p (by omega) wr (HF.out.ext HEv.out)).mono ?_
            rintro e w5 ⟨mb, rfl, hmb, hs5, h5⟩
            obtain ⟨D, hown, _, hhas, _, hall⟩ := hs5
            have HH := Lib.hid hhas
            have HAll := Lib.hid hall
            have hne : mU ≠ mb := by omega
            have hz5 := h5.size
            have hne5 : w5.heap.size ≠ mU := by omega
            have HS5 : Hid (SetAt w5 mU (withRow l (underOf l ((commonL l i j).take t)) (r.take s))) := Lib.hid (hs2.out.ext h5)
            have HB5 : Hid (But mU wA w5) := Lib.hid (hb2.out.trans (But.of_ext h5))
            have HO5 := Lib.hid hown
            clear hhas hall h5 hown hs2 hcp
            go_wp2_with (
              at_range
              refine wpList_range_own _ rfl _ 38 rfl 3 4 keyed3 Try.underlying38 _ mb 64 D rfl HO5.out ?_
              intro w6 hrg6 hg6 hs6
              have HI6 : Hid (InMap w6 wA mU mb w5.heap.size D (withRow l (underOf l ((commonL l i j).take t)) (r.take s)) (anc l p)) := Lib.hid ⟨Maps.has D, Maps.size D, hrg6, fun kl hk => by
                obtain ⟨q, h1, h2, _⟩ := HAll.out kl hk
                rw [h2, HH.out q] at hk
                exact ⟨q, h1, h2, hk⟩, (grown_set2 hg6 (by simp) HS5.out).congr fun q => by rw [HH.out q]; simp, HB5.out.trans ⟨hg6.os, hg6.tape, hg6.output, hg6.size, fun q h1 _ => hg6.block q h1 (by simp)⟩⟩
              clear hrg6 hg6 hs6)
            go_frame
            have HVP : Hid (∀ q : Nat, anc l p q = true → q < 64) := Lib.hid fun q hq => by have := anc_le' HR.out hq; omega
            go_loopw [13] (fun _ wr => Hid (InMap wr wA mU mb w5.heap.size D (withRow l (underOf l ((commonL l i j).take t)) (r.take s)) (anc l p))) (fun _ wr => wr.rangeLeft mb w5.heap.size)
            case atStart => exact HI6
            case round =>
              obtain ⟨left, cnt', hrg, hlf, hsL, hbL⟩ := hrel.out
              have HLF := Lib.hid hlf
              have HSL := Lib.hid hsL
              have HBL := Lib.hid hbL
              have HRG := Lib.hid hrg
              clear hlf hsL hbL hrel
              go_wp2_with (first
                | (
                    at_next
                    refine wpList_next_ranges _ rfl _ rfl 3 keyed3 (plainElem Try.prog 4) (Value.int .i64) Value.bool (fun key kl hk => by obtain ⟨z, hz, _⟩ := Maps.keyOf_int_inv Try.underlying3 hk; exact ⟨z, hz⟩) (fun v y hv => plain4_inv hv) mb _ 64 D left cnt' rfl hrg ?n1 ?n2
                    case' n1 =>
                      intro hc0 hl0
                      have HL0 := Lib.hid hl0
                      clear hc0 hl0
                    case' n2 =>
                      intro z bb kl yv w7 cnt7 hkey hlk hval hat hrg7 hlt7 hg7 hs7 hen
                      obtain ⟨qn, hq64, rfl, hqV⟩ := HLF.out kl hlk
                      obtain ⟨z', hz', hze, _⟩ := Maps.keyOf_int_inv Try.underlying3 hkey
                      simp only [Value.int.injEq, true_and, Lit.int.injEq] at hz' hze
                      obtain rfl : z = qn := by omega
                      have HQV := Lib.hid hqV
                      have HSL7 := Lib.hid (grown_set2 hg7 (by simp; omega) HSL.out)
                      have HBL7 : Hid (But mU wA w7) := Lib.hid (HBL.out.trans_new hg7 (by omega))
                      have hbx7 := HBL7.out.cell HBx.out (by show mU + 1 ≠ mU; omega)
                      have HRG7 := Lib.hid hrg7
                      have HLT7 : Hid (cnt7 < cnt') := Lib.hid hlt7
                      clear hkey hlk hval hat hrg7 hlt7 hg7 hs7 hrg hz' hze hqV)
                | (
                    at_mapUpdate
                    refine wpList_put_set _ rfl _ _ rfl mU _ rfl HSL7.out qn hq64 rfl ?_
                    intro w8 hs8 hb8
                    have hrg8 := HRG7.out.kept hb8.grown (by simp; omega) (by simp; omega)
                    have HI8 : Hid (InMap w8 wA mU mb w5.heap.size D (withRow l (underOf l ((commonL l i j).take t)) (r.take s)) (anc l p)) := Lib.hid ⟨_, cnt7, hrg8, fun kl hk => by
                      simp only [Bool.and_eq_true] at hk
                      exact HLF.out kl hk.1, hs8.congr fun x => by
                        have hsame : (Lit.int .i64 (x : Int)).sameKey (.int .i64 (qn : Int)) = decide (x = qn) := by
                          by_cases hxq : x = qn
                          · subst hxq; simp [Lit.sameKey]
                          · rw [Maps.sameKey_ne (by simp; omega)]; simp [hxq]
                        rw [hsame]
                        by_cases hxq : x = qn
                        · subst hxq; simp [HQV.out]
                        · simp [hxq], HBL7.out.trans hb8⟩
                    have HM8 : Hid (w8.rangeLeft mb w5.heap.size < wr.rangeLeft mb w5.heap.size) := Lib.hid (by rw [hrg8.left_eq, HRG.out.left_eq]; exact HLT7.out)
                    clear hs8 hb8 hrg8))
              · go_frame
                go_roundw
                case rel => exact HI8
                case measure => exact HM8.out
              · have HS7 : Hid (SetAt wr mU (withRow l (underOf l ((commonL l i j).take t)) (r.take (s + 1)))) := Lib.hid (HSL.out.congr fun q => by
                  rw [List.take_add_one, HEP.out]
                  simp only [Option.toList_some]
                  rw [withRow_more, HL0.out]; simp)
                clear hrg
                go_wp2_with fail
                go_roundw
                case rel => exact ⟨s + 1, by omega, by go_num, HS7, HBL⟩
                case measure => simp [intOf]; omega
          · obtain rfl : s = m2 := by omega
            have HS3 : Hid (SetAt wr mU (underOf l ((commonL l i j).take (t + 1)))) := Lib.hid (hs2.out.congr fun q => by
              rw [List.take_add_one, HX.out]
              simp only [Option.toList_some]
              rw [underOf_more l _ k r HER.out, HM2.out, List.take_length])
            clear hs2
            go_wp2_with fail
            go_roundw
            case rel => exact ⟨t + 1, by omega, by go_num, HS3, hb2⟩
            case measure => simp [intOf]; omega
      · obtain rfl : t = m := by omega
        have HS3 : Hid (SetAt wr mU (underS l i j)) := Lib.hid (hs.out.congr fun q => by rw [HM.out, List.take_length, HC.out]; exact underOf_common HN.out q)
        have hbx := hb.out.cell HBx.out (by show mU + 1 ≠ mU; omega)
        have hO2 : Own w.heap.size wr (.slice ao t cp) (rowOf n (commonS l i j)) := by
          have := HO.out.ext HEw1.out
          rw [← HM.out, HC.out] at this
          exact this
        have hblk : ∀ q, (Value.slice ao t cp).ownBlock = some q → w.heap.size ≤ q ∧ q < mU := fun q hq => by rw [HU.out]; rw [HM.out] at hq; exact HO.out.lt q hq
        have hrow : ∀ q, mU ≤ q → (Value.slice ao t cp).ownBlock ≠ some q := fun q h1 h2 => by have := (hblk q h2).2; omega
        have HD := Lib.hid (delete_own 38 #[.pointer (some ⟨mU + 1, 0, none⟩)] enters38 (underS l i j) (commonS l i j) n w.heap.size h64 _ wr hO2 (fun W hW k hk =>
          in_38 k hk (mU + 1) mU (underS l i j) W (grown_cell2 hW (hrow _ (by show mU ≤ mU + 1; omega)) hbx) (grown_set2 hW (hrow _ (Nat.le_refl _)) HS3.out)))
        have HBK := Lib.hid hblk
        clear hs hb hO2 hblk hrow hbx
        go_wp2_with fail
        refine HD.out.mono ?_
        rintro e w5 ⟨v', rfl, ho5, hg5⟩
        obtain ⟨ao', m', cp', hv'⟩ := own_form ho5
        have HP : Hid (RowPost w (basesL l i j) (.returned v') w5) := Lib.hid ⟨v', rfl, by rw [HBs.out]; exact ho5, HEw.out.grown hg5 (fun q hq => (HBK.out q hq).1)⟩
        clear ho5 hg5
        subst hv'
        go_wp2_with fail
        go_ret
        exact HP.out
end Go.Proofs.Ytfajligmdjpekaa
