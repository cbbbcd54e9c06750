/- Part 33 of what TransFills asks: for every input it returns true, and its input reads as it did. No condition. -/
import Derived.Test.YtddddgbboipfeaaGreatDoorPt15
import Derived.Test.YtddddgbboipfeaaGreatDoorPt30
import Derived.Test.YtddddgbboipfeaaGreatDoorPt32
import Derived.StillTail
import Derived.RegionTactic
import Derived.WalkKit
import Derived.WalkSpells
import Derived.WalkLawsBesides
import Derived.Lib.Hide
import Derived.BigQuiet
import Derived.Deep.RegionHeld3
import Derived.Deep.CutRange
import Derived.Deep.DeepCutAuto
import Derived.OpenShut
import Derived.Maps.OwnOps
import Derived.Maps.RangeWalk
namespace Go.Proofs.YtddddgbboipfeaaGreatDoor
open Go.Sv
open Go.RowKit Go.Lib Go.Maps
def Ext (w w' : World) : Prop := Below w.heap.size w w'
theorem ext_refl (w : World) : Ext w w := Below.refl _ _
theorem Ext.trans {a b c : World} (h : Ext a b) (k : Ext b c) : Ext a c := Below.trans h (Below.mono k h.size)
theorem ext_alloc (w : World) (o : Obj) : Ext w (w.alloc o) := (Below.refl _ _).alloc (Nat.le_refl _) _
theorem Ext.cell {w w' : World} (h : Ext w w') {p : Addr} {v : Value} (hc : w.cell? p = some v) : w'.cell? p = some v :=
  (Below.cell h (World.block_lt_of_cell? w p hc)).trans hc
theorem ext_grown {w w' : World} (h : w.grownBy w' none) : Ext w w' := (Below.refl _ _).grown h (Nat.le_refl _) (fun k hk => by cases hk)
theorem Ext.heap {w w' : World} (h : Ext w w') {b : Nat} {o : Obj} (hb : w.heap[b]? = some o) : w'.heap[b]? = some o :=
  (h.block b (Array.getElem?_eq_some_iff.1 hb).1).trans hb
theorem box_at {w : World} {b : Nat} {cs : Array Value} {ty : TypeId} (h : w.heap[b]? = some (.cells cs ty (0, 0))) : ∀ W, Ext w W → ∀ i, W.cell? ⟨b, i, none⟩ = cs[i]? := fun W hW i => cell_of_row W b i cs ty (0, 0) (hW.heap h)
theorem box1 {G : World → Prop} {w : World} {c1 : Array Value} {t1 : TypeId} (h : ∀ W, Ext w W → W.heap.size = w.heap.size + 1 → W.heap[w.heap.size]? = some (.cells c1 t1 (0, 0)) → G W) : G (w.alloc (.cells c1 t1)) :=
  h _ (ext_alloc _ _) (heap_alloc_size _ _) (heap_alloc_new w _)
/-- Block b is a map that holds the numbers of L, each with true. -/
def NumSet (w : World) (b : Nat) (L : List Int) : Prop :=
  ∃ D : DataW Unit, w.ownsMap Tryz.prog 3 (plainElem Tryz.prog 4) b (L.length) D ∧ (∀ n : Int, Maps.has D (.int .i64 n) = decide (n ∈ L)) ∧
    (∀ n : Int, D.atKey (.int .i64 n) (.lit (.bool false)) = .lit (.bool (decide (n ∈ L)))) ∧ ∀ kl, Maps.has D kl = true → ∃ n ∈ L, kl = .int .i64 n
theorem keyedInt : Keyed Tryz.prog 3 := int_keyed Tryz.underlying3
theorem key_int {n : Int} (h : I64 n) : keyOf Tryz.prog 3 (.int .i64 n) = some (.int .i64 n) := keyOf_int_mk Tryz.underlying3 h
theorem NumSet.lt {w : World} {b : Nat} {L : List Int} (h : NumSet w b L) : b < w.heap.size := by
  obtain ⟨D, h1, _⟩ := h
  exact h1.lt
theorem NumSet.ext {w w' : World} {b : Nat} {L : List Int} (h : NumSet w b L) (hE : Ext w w') : NumSet w' b L := by
  obtain ⟨D, ⟨es, k, hb, h1⟩, h2⟩ := h
  exact ⟨D, ⟨es, k, hE.heap hb, h1⟩, h2⟩
theorem numSet_new (w : World) : NumSet (w.alloc (.map #[] 0)) w.heap.size [] := by
  refine ⟨.map [], World.ownsMap_made w Tryz.prog 3 _, fun j => rfl, fun j => ?_, fun kl hk => by simp [Maps.has] at hk⟩
  simp [DataW.atKey]
theorem ext_turned {a w w' : World} {c : Nat} (hE : Ext a w) (h : w.grownBy w' (some c)) (hc : a.heap.size ≤ c) : Ext a w' :=
  ⟨h.os.trans hE.os, h.tape.trans hE.tape, h.output.trans hE.output, Nat.le_trans hE.size h.size, fun k hk => (h.block k (Nat.lt_of_lt_of_le hk hE.size) (by simp; omega)).trans (hE.block k hk)⟩
/-- 'm[k]'. -/
theorem NumSet.look {w : World} {b : Nat} {L : List Int} (h : NumSet w b L) {n : Int} (hn : I64 n) :
    (Instr.lookup 274 (.map (some b)) (.int .i64 n) false).run Tryz.prog w = .ok (.bool (decide (n ∈ L))) w := by
  obtain ⟨D, hown, _, hat, _⟩ := h
  obtain ⟨v, ps, hrun, hv⟩ := hown.lookup keyedInt Tryz.underlying274 (Tryz.zeroValue4 w) (plainElem_bool Tryz.underlying4 false) (key_int hn)
  rw [hat n] at hv
  rw [hrun]
  cases v <;> simp [plainElem, Tryz.underlying4] at hv
  rw [hv.1]
/-- 'm[k] = true'. -/
theorem wpList_put_num (w : World) {ops : Array Oper} {rest : List Oper} {o : Oper} {a : Act} {Q : Exit → Act → World → Prop}
    (hg : o.guard = none) (m x : Operand) (hop : o.op = Op.mapUpdate 274 m x (.const (.bool true))) (b : Nat) (L : List Int) (hm : a.eval m = .map (some b)) (hset : NumSet w b L) (n : Int) (hn : I64 n) (hnew : n ∉ L) (hlen : L.length ≤ 3000000) (hx : a.eval x = .int .i64 n)
    (hK : ∀ w', NumSet w' b (L ++ [n]) → w.grownBy w' (some b) → wpList Tryz.prog ops Q rest (a.put o.dst undef) w') : wpList Tryz.prog ops Q (o :: rest) a w := by
  obtain ⟨D, hown, hhas, hat, hall⟩ := hset
  have hD := hown.isMap
  have hkl : WideAt.IsKeyLit (.int .i64 n) := keyedInt.key (key_int hn)
  refine wpList_mapUpdate_own w hg m x _ 274 hop 3 4 keyedInt Tryz.underlying274 (plainElem Tryz.prog 4) b L.length D hm hown (by unfold maxLen; omega) (.int .i64 n) (.bool true) (.int .i64 n) hx rfl (key_int hn) (.lit (.bool true)) [] (plainElem_bool Tryz.underlying4 true) ?_
  intro w' hown' hgrow
  have hne : ∀ i : Int, i ≠ n → (Lit.int .i64 i) ≠ .int .i64 n := fun i hij h => hij (by simpa using h)
  have hme : ∀ i : Int, i ≠ n → (decide (i ∈ L ++ [n]) = decide (i ∈ L)) := fun i hi => by simp [hi]
  refine hK w' ⟨_, by simpa using hown', fun i => ?_, fun i => ?_, fun kl hk => ?_⟩ hgrow
  · by_cases hij : i = n
    · subst hij; rw [Maps.has_put_same hD hkl]; simp
    · rw [Maps.has_put_other (hne i hij), hhas i, hme i hij]
  · by_cases hij : i = n
    · subst hij; rw [Maps.atKey_put_same hD hkl]; simp
    · rw [Maps.atKey_put_other (hne i hij), hat i, hme i hij]
  · by_cases hkj : kl = .int .i64 n
    · subst hkj; exact ⟨n, by simp, rfl⟩
    · rw [Maps.has_put_other hkj] at hk
      obtain ⟨i, hi, hki⟩ := hall kl hk
      exact ⟨i, by simp [hi], hki⟩
theorem index_0 (x y : Int) (W : World) : (Instr.index 171 (.agg #[.int .i64 x, .int .i64 y]) (.int .i64 0)).run Tryz.prog W = .ok (.int .i64 x) W := by kernel_rfl
theorem index_1 (x y : Int) (W : World) : (Instr.index 171 (.agg #[.int .i64 x, .int .i64 y]) (.int .i64 1)).run Tryz.prog W = .ok (.int .i64 y) W := by kernel_rfl
set_option maxHeartbeats 2000000 in
set_option maxRecDepth 100000 in
theorem lswaps_raw (t : Typ) (l : List (Int × Int)) (nv fv ov : Value) (a : Option Addr) (c : Nat) (w : World) (hl : l.length ≤ 1000000) (hn : ∀ n ∈ swapNums l, I64 n) (hcc : ∀ k x y, (swapNums l)[k * 2]? = some x → (swapNums l)[k * 2 + 1]? = some y → ∃ b o, a = some ⟨b, o, none⟩ ∧ w.cell? ⟨b, o + k * 2, none⟩ = some (.int .i64 x) ∧ w.cell? ⟨b, o + k * 2 + 1, none⟩ = some (.int .i64 y)) : Calls Tryz.prog 285 #[.slice a l.length c, .agg #[.int .i64 t.kind, .int .i64 t.lo, .int .i64 t.hi, nv, fv, ov]] w (fun e w' => e = .returned (.int .i64 (swapsE l t)) ∧ Ext w w') := by
  have HN := Lib.hid (swapNums_len l)
  obtain ⟨m, hm⟩ : ∃ m, m = l.length := ⟨_, rfl⟩
  have HM := Lib.hid hm
  have HV : Hid (swapsE l t = if m = 0 ∨ 32 < m ∨ ¬ (swapNums l).Nodup then 1 else if (swapNums l).any (fun n => decide (n < t.lo) || decide (t.hi < n)) then 8 else 0) := Lib.hid (by rw [hm]; rfl)
  rw [← hm] at hl ⊢
  have hn2 : (swapNums l).length = m * 2 := by rw [HN.out, ← HM.out]
  clear HN HM
  generalize swapNums l = L at *
  generalize swapsE l t = res at *
  have HL := Lib.hid hn2
  have HI := Lib.hid hn
  have HCC : Hid (∀ W, Ext w W → ∀ k x y, L[k * 2]? = some x → L[k * 2 + 1]? = some y → ∃ b o, a = some ⟨b, o, none⟩ ∧ W.cell? ⟨b, o + k * 2, none⟩ = some (.int .i64 x) ∧ W.cell? ⟨b, o + k * 2 + 1, none⟩ = some (.int .i64 y)) := Lib.hid fun W hW k x y hx hy => by
    obtain ⟨b, o, h1, h2, h3⟩ := hcc k x y hx hy
    exact ⟨b, o, h1, hW.cell h2, hW.cell h3⟩
  clear hcc hm hn2 hn
  have hmm := @run_makeMap Tryz.prog
  go_enter Tryz.func285, Tryz.ntmps285
  go_upto_region 1 with (fail)
  refine box1 (G := fun W => Code.wp _ _ _ _ W) fun wB HE hsz h1 => ?_
  have HSZ := Lib.hid hsz
  have k1 := box_at h1
  have HE' := Lib.hid HE
  clear HE h1 hsz
  go_upto_region 2 with (fail)
  obtain ⟨w0, hw0⟩ : ∃ x, wB.alloc (.map #[] 0) = x := ⟨_, rfl⟩
  rw [hw0]
  have HS0 : Hid (NumSet w0 wB.heap.size []) := Lib.hid (by rw [← hw0]; exact numSet_new wB)
  have HE0 : Hid (Ext wB w0) := Lib.hid (by rw [← hw0]; exact ext_alloc _ _)
  clear hw0
  go_wp2_with fail
  go_loopw [14] (fun q wr => ∃ i : Nat, i ≤ m ∧ q = .int .i64 i ∧ Hid (NumSet wr wB.heap.size (L.take (i * 2))) ∧ Hid ((L.take (i * 2)).Nodup) ∧ Hid (Ext wB wr)) (fun q _ => m - (intOf q).toNat)
  case atStart => exact ⟨0, Nat.zero_le _, rfl, Lib.hid (by rw [Nat.zero_mul]; exact HS0.out), Lib.hid (by simp), HE0⟩
  case round =>
    obtain ⟨i, hi, rfl, HS, HD, HE⟩ := hrel
    clear HS0
    by_cases hlt : i < m
    · obtain ⟨x, hx⟩ : ∃ x, L[i * 2]? = some x := ⟨_, List.getElem?_eq_getElem (by rw [HL.out]; omega)⟩
      obtain ⟨y, hy⟩ : ∃ y, L[i * 2 + 1]? = some y := ⟨_, List.getElem?_eq_getElem (by rw [HL.out]; omega)⟩
      obtain ⟨b, o, rfl, hc0, hc1⟩ := HCC.out wr (HE'.out.trans HE.out) i x y hx hy
      have HX := Lib.hid hx
      have HY := Lib.hid hy
      clear hx hy
      go_wp2_with fail
      obtain ⟨wC, hwC⟩ : ∃ W, wr.alloc (.cells #[.int .i64 x, .int .i64 y] 171) = W := ⟨_, rfl⟩
      rw [hwC]
      have HE1 : Hid (Ext wB wC) := Lib.hid (by rw [← hwC]; exact HE.out.trans (ext_alloc _ _))
      have HS1 : Hid (NumSet wC wB.heap.size (L.take (i * 2))) := Lib.hid (by rw [← hwC]; exact HS.out.ext (ext_alloc _ _))
      have HLT := Lib.hid hlt
      clear hwC hc0 hc1 HE HS hlt
      go_loopw [19] (fun q wr => ∃ j : Nat, j ≤ 2 ∧ q = .int .i64 j ∧ Hid (NumSet wr wB.heap.size (L.take (i * 2 + j))) ∧ Hid ((L.take (i * 2 + j)).Nodup) ∧ Hid (Ext wB wr)) (fun q _ => 2 - (intOf q).toNat)
      case atStart => exact ⟨0, Nat.zero_le _, rfl, HS1, HD, HE1⟩
      case round =>
        clear HS1 HE1 HD
        obtain ⟨j, hj, rfl, HS, HD, HE⟩ := hrel
        by_cases hlt : j < 2
        · obtain ⟨z, hz⟩ : ∃ z, L[i * 2 + j]? = some z := ⟨_, List.getElem?_eq_getElem (by rw [HL.out]; have := HLT.out; omega)⟩
          have hidx : ∀ W, (Instr.index 171 (.agg #[.int .i64 x, .int .i64 y]) (.int .i64 (j : Int))).run Tryz.prog W = .ok (.int .i64 z) W := by
            rcases (by omega : j = 0 ∨ j = 1) with rfl | rfl
            · have := HX.out.symm.trans hz; cases this; exact fun W => index_0 _ _ W
            · have := HY.out.symm.trans hz; cases this; exact fun W => index_1 _ _ W
          have hwz := HI.out z (List.mem_of_getElem? hz)
          have hlook := HS.out.look hwz
          have HZ := Lib.hid hz
          clear hz
          cases hin : decide (z ∈ L.take (i * 2 + j)) with
          | true =>
            rw [hin] at hlook
            have hr : res = 1 := by rw [HV.out]; exact if_pos (.inr (.inr (not_nodup HZ.out (by simpa using hin))))
            subst hr
            clear HV hin
            go_wp2_with fail
            go_ret
            exact ⟨rfl, HE'.out.trans HE.out⟩
          | false =>
            rw [hin] at hlook
            have HNI : Hid (z ∉ L.take (i * 2 + j)) := Lib.hid (by simpa using hin)
            clear hin
            go_wp2_with (
              at_mapUpdate
              refine wpList_put_num _ rfl _ _ rfl wB.heap.size (L.take (i * 2 + j)) rfl HS.out z hwz HNI.out (by rw [List.length_take]; have := HLT.out; omega) rfl ?_
              intro w2 hs2 hg2
              have HS2 : Hid (NumSet w2 wB.heap.size (L.take (i * 2 + (j + 1)))) := Lib.hid (by rw [← Nat.add_assoc, List.take_add_one, HZ.out]; exact hs2)
              have HE2 := Lib.hid (ext_turned HE.out hg2 (Nat.le_refl _))
              have HD2 : Hid ((L.take (i * 2 + (j + 1))).Nodup) := Lib.hid (by rw [← Nat.add_assoc, List.take_add_one, HZ.out]; exact nodup_snoc HD.out HNI.out)
              clear hs2 hg2 hlook hidx)
            go_roundw
            case rel => exact ⟨j + 1, by omega, by go_num, HS2, HD2, HE2⟩
            case measure => simp [intOf]; omega
        · obtain rfl : j = 2 := by omega
          have HLT2 := HLT.out
          go_wp2_with fail
          go_roundw
          case rel => exact ⟨i + 1, by omega, by go_num, Lib.hid (by rw [show (i + 1) * 2 = i * 2 + 2 by omega]; exact HS.out), Lib.hid (by rw [show (i + 1) * 2 = i * 2 + 2 by omega]; exact HD.out), HE⟩
          case measure => simp [intOf]; omega
    · have him : i = m := by omega
      subst him
      obtain ⟨wM, rfl⟩ : ∃ x, x = wr := ⟨_, rfl⟩
      have hLL : L.take (i * 2) = L := by rw [← HL.out, List.take_length]
      rw [hLL] at HS HD
      clear hLL
      by_cases h1 : i = 0
      · have hr : res = 1 := by rw [HV.out]; exact if_pos (.inl h1)
        subst hr h1
        clear HV
        go_wp2_with fail
        go_ret
        exact ⟨rfl, HE'.out.trans HE.out⟩
      have d1 : ((i : Int) == 0) = false := by simp; omega
      by_cases h2 : 32 < i
      · have d2 : decide ((32 : Int) < (i : Int)) = true := by simp; omega
        have hr : res = 1 := by rw [HV.out]; exact if_pos (.inr (.inl h2))
        subst hr
        clear HV
        go_wp2_with fail
        go_ret
        exact ⟨rfl, HE'.out.trans HE.out⟩
      have d2 : decide ((32 : Int) < (i : Int)) = false := by simp; omega
      replace HV : Hid (res = if (L.any fun n => decide (n < t.lo) || decide (t.hi < n)) = true then 8 else 0) := Lib.hid (HV.out.trans (if_neg (by
        rintro (h | h | h)
        · exact h1 h
        · exact h2 h
        · exact h HD.out)))
      obtain ⟨D, hown, hhas, _, hall⟩ := HS.out
      have HH := Lib.hid hhas
      have HA := Lib.hid hall
      clear hhas hall HS
      go_wp2_with (first
        | (at_range; refine wpList_range_own _ rfl _ 274 rfl 3 4 keyedInt Tryz.underlying274 _ wB.heap.size _ D rfl hown ?_; intro w2 hrg0 hg0 hs0)
        | fail)
      go_frame
      go_loopw [10] (fun _ wr => ∃ (left : Lit → Bool) (cnt : Nat), wr.ranges Tryz.prog 3 (plainElem Tryz.prog 4) wB.heap.size wM.heap.size L.length D left cnt ∧ Hid (∀ x ∈ L, left (.int .i64 x) = false → t.lo ≤ x ∧ x ≤ t.hi) ∧ Hid (∀ kl, left kl = true → Maps.has D kl = true) ∧ Hid (Ext wB wr)) (fun _ wr => wr.rangeLeft wB.heap.size wM.heap.size)
      case atStart => exact ⟨_, _, hrg0, Lib.hid (fun x hx h => by rw [HH.out x] at h; simp [hx] at h), Lib.hid (fun kl h => h), Lib.hid (HE.out.trans (ext_grown hg0))⟩
      case round =>
        clear hrg0 hg0 hs0
        obtain ⟨left, cnt, hrg, HB, HK, HE2⟩ := hrel
        go_wp2_with (first
          | (at_next; refine wpList_next_ranges _ rfl _ rfl 3 keyedInt (plainElem Tryz.prog 4) (Value.int .i64) (fun v : Value => v) (fun key kl hk => by obtain ⟨x, hx, _⟩ := Maps.keyOf_int_inv Tryz.underlying3 hk; exact ⟨x, hx⟩) (fun v _ _ => ⟨v, rfl⟩) wB.heap.size wM.heap.size _ _ _ _ rfl hrg ?_ ?_)
          | fail)
        · intro _ hl0
          have hr : res = 0 := by
            rw [HV.out]
            refine if_neg fun h => ?_
            obtain ⟨n, hn, h3⟩ := List.any_eq_true.1 h
            have := HB.out n hn (hl0 _)
            simp only [Bool.or_eq_true, decide_eq_true_eq] at h3
            omega
          subst hr
          clear HV
          go_wp2_with fail
          go_ret
          exact ⟨rfl, HE'.out.trans HE2.out⟩
        · intro x cc kl y1 y2 w3 cnt3 hkey hlk hv hat hrg3 hlt3 hg3 hs3 hen
          obtain ⟨x', ex, rfl, _⟩ := Maps.keyOf_int_inv Tryz.underlying3 hkey
          cases ex
          have hxL : x ∈ L := by
            obtain ⟨n, hn, e⟩ := HA.out _ (HK.out _ hlk)
            cases e; exact hn
          have HXL := Lib.hid hxL
          have HE3 := Lib.hid (ext_turned HE2.out hg3 HE.out.size)
          have l1 : w3.cell? ⟨w.heap.size, 1, none⟩ = some (.int .i64 t.lo) := k1 w3 HE3.out 1
          have l2 : w3.cell? ⟨w.heap.size, 2, none⟩ = some (.int .i64 t.hi) := k1 w3 HE3.out 2
          have HR8 : Hid (x < t.lo ∨ t.hi < x → res = 8) := Lib.hid fun h => by
            rw [HV.out]
            exact if_pos (List.any_eq_true.2 ⟨x, HXL.out, by simpa using h⟩)
          clear HV hxL hkey hlk hv hat
          by_cases hlo : x < t.lo
          · have d3 : decide (x < t.lo) = true := by simpa using hlo
            have hr := HR8.out (.inl hlo)
            subst hr
            clear HR8
            go_wp2_with fail
            go_ret
            exact ⟨rfl, HE'.out.trans HE3.out⟩
          have d3 : decide (x < t.lo) = false := by simpa using hlo
          by_cases hhi : t.hi < x
          · have d4 : decide (t.hi < x) = true := by simpa using hhi
            have hr := HR8.out (.inr hhi)
            subst hr
            clear HR8
            go_wp2_with fail
            go_ret
            exact ⟨rfl, HE'.out.trans HE3.out⟩
          have d4 : decide (t.hi < x) = false := by simpa using hhi
          go_wp2_with fail
          go_roundw
          case rel =>
            refine ⟨_, cnt3, hrg3, Lib.hid fun z hz h => ?_, Lib.hid fun kl h => HK.out kl (by simp only [Bool.and_eq_true] at h; exact h.1), HE3⟩
            by_cases hzx : z = x
            · subst hzx; omega
            · refine HB.out z hz ?_
              simpa [Lit.sameKey, hzx] using h
          case measure => rw [hrg3.left_eq, hrg.left_eq]; exact hlt3
end Go.Proofs.YtddddgbboipfeaaGreatDoor
namespace Go.Sv
open Go
open Go.RowKit
theorem lie_at {w : World} {b o j : Nat} {us : List Value} {u : Value} (h : Lie w b o us) (hu : us[j]? = some u) : Lie w b (o + j) [u] := fun i v hi => by
  cases i with
  | zero => cases hi; exact h j u hu
  | succ i => simp at hi
section
variable {P : Program} [Lays P] {ops : Array Oper} {n : Nat} {d : Option Tmp} {ty : TypeId} {pos : String} {af : Array Edge} {x y : Operand}
theorem OpT.idxArr {t e len : Nat} {lk : LK} {fl : List (Nat × Nat)} {z : List ZK} {l : List D} {i : Int} {ki : IntKind} {c : D} (j : Nat) (hij : i = (j : Int)) (hj : j < len) (hc : l[j]? = some c) (ht : P.underlying t = some (.array len e)) (hl : lay P e = some ⟨lk, 1, fl, z⟩ := by rfl) :
    OpT P ops (mkO d (.indexAddr t x y) ty pos af) n [(x, dT (adr l)), (y, dT (lit (.int ki i)))] [] [] (dT (adr [c])) [] n := .runD rfl fun β V w A _ h => by
  obtain ⟨⟨b, o, us, e1, h2, h3⟩, h4⟩ := in2 h
  have e2 : A.eval y = .int ki i := h4
  subst hij
  obtain ⟨u, h5, h6⟩ := All2.get h3 hc
  refine ⟨.pointer (some ⟨b, o + j, none⟩), ?_, b, o + j, [u], rfl, lie_at h2 h5, h6, trivial⟩
  have hadd : (⟨b, o, none⟩ : Addr).add j = ⟨b, o + j, none⟩ := Addr.add_mid b o j
  simp [execOp, e1, e2, Instr.indexAt, asIntOf, Instr.sureAddr, Sem.run_bind, run_underlying ht w, lay_size hl w, hj, hadd]
theorem OpT.sliceArr {t e len : Nat} {lk : LK} {fl : List (Nat × Nat)} {z : List ZK} {l : List D} (hlen : l.length = len) (hm : len ≤ 1000) (ht : P.underlying t = some (.array len e)) (hl : lay P e = some ⟨lk, 1, fl, z⟩ := by rfl) :
    OpT P ops (mkO d (.slice t x none none none) ty pos af) n [(x, dT (adr l))] [] [] (dT (sl 1 (l.map fun d => [d]))) [] n := .runD rfl fun β V w A _ h => by
  obtain ⟨b, o, us, e1, h2, h3⟩ := in1 h
  refine ⟨.slice (some ⟨b, o, none⟩) len len, ?_, some ⟨b, o, none⟩, len, by rw [List.length_map, hlen], by rw [List.length_map, hlen]; exact Nat.le_refl _, by unfold maxLen; omega, fun j d hd => ?_⟩
  · have hadd : (⟨b, o, none⟩ : Addr).add 0 = ⟨b, o, none⟩ := Addr.add_mid b o 0
    simp [execOp, e1, hadd, Instr.sliceAt, Instr.sureAddr, Instr.sliceBounds, Sem.run_bind, run_underlying ht w, lay_size hl w]
  · obtain ⟨x, hx, rfl⟩ := List.getElem?_map .. ▸ hd |> Option.map_eq_some_iff.1
    obtain ⟨u, h4, h5⟩ := All2.get h3 hx
    exact ⟨rfl, b, o, [u], rfl, by rw [Nat.mul_one]; exact lie_at h2 h4, h5, trivial⟩
end
section
variable {P : Program} {ops : Array Oper} {n : Nat} {d : Option Tmp} {ty : TypeId} {pos : String} {af : Array Edge} {x : Operand}
theorem OpT.quo2 {a : Nat} {t t' : TypeId} (hr : a ≤ 9223372036854775807) : OpT P ops (mkO d (.binOp .quo t x (.const (.int .i64 2)) t') ty pos af) n [(x, iT (a : Int))] [] [] (iT ((a / 2 : Nat) : Int)) [] n := .runD rfl fun β V w A _ h => by
  have e1 : A.eval x = .int .i64 a := in1 h
  have e2 : A.eval (.const (.int .i64 2)) = .int .i64 2 := rfl
  have hw : IntKind.i64.wrap ((a : Int) / 2) = (a : Int) / 2 := IntWalk.i64_in _ (by omega)
  have ht : Int.tdiv (a : Int) 2 = ((a / 2 : Nat) : Int) := rfl
  exact ⟨.int .i64 ((a / 2 : Nat) : Int), by simp [execOp, e1, e2, eqGuard, binOp, Op.intDiv, ht, hw], rfl⟩
theorem OpT.rem2 {a : Nat} {t t' : TypeId} : OpT P ops (mkO d (.binOp .rem t x (.const (.int .i64 2)) t') ty pos af) n [(x, iT (a : Int))] [] [] (iT ((a % 2 : Nat) : Int)) [] n := .runD rfl fun β V w A _ h => by
  have e1 : A.eval x = .int .i64 a := in1 h
  have e2 : A.eval (.const (.int .i64 2)) = .int .i64 2 := rfl
  have ht : Int.tmod (a : Int) 2 = ((a % 2 : Nat) : Int) := rfl
  exact ⟨.int .i64 ((a % 2 : Nat) : Int), by simp [execOp, e1, e2, eqGuard, binOp, Op.intDiv, ht], rfl⟩
end
end Go.Sv
namespace Go.Sv
open Go
open Go.RowKit
inductive Lend : List T → HL → List T → Prop
  | nil : Lend [] [] []
  | same {t : T} {l m : List T} {H : HL} (hk : t.keys = []) (h : Lend l H m) : Lend (t :: l) H (t :: m)
  | row {κ e k : Nat} {ls : List (List D)} {l m : List T} {H : HL} (h : Lend l H m) : Lend (.one (.key κ) :: l) ((κ, .row e k ls) :: H) (dT (sl k ls) :: m)
theorem Lend.is {β : Env} {H : HL} {S : List Nat} {w : World} {n : Nat} (hO : Owns β n S H w) {l m : List T} {H' : HL} (h : Lend l H' m) : (∀ e ∈ H', e ∈ H) → ∀ {vs : List Value}, All2 (fun t v => T.is β (View β H S w) t v) l vs → All2 (fun t v => T.is β (View β [] S w) t v) m vs := by
  have hV : Sub (View β H S w) (View β [] S w) := hide_sub (Kept.refl [] w) fun q _ hq => ⟨by simp, fun hm => hq (List.mem_append_right _ hm)⟩
  induction h with
  | nil => intro _ vs h; cases vs with
    | nil => trivial
    | cons => exact h.elim
  | same hk _ ih => intro hH vs; cases vs with
    | nil => exact fun h => h
    | cons v vs => exact fun h => ⟨T.keep (fun κ hκ => by simp [hk] at hκ) hV h.1, ih hH h.2⟩
  | row _ ih => intro hH vs; cases vs with
    | nil => exact fun h => h
    | cons v vs =>
      intro h
      refine ⟨?_, ih (fun e he => hH e (List.mem_cons_of_mem _ he)) h.2⟩
      have hm := hH _ (List.mem_cons_self ..)
      obtain ⟨_, _, h3⟩ := hO.is _ hm
      rw [show v = β _ from h.1.1]
      refine row_sl hV h3 fun g hg => ?_
      have hn := hO.out g (mem_blks.2 ⟨_, hm, hg⟩)
      show (hide ([] ++ S) w).heap[g]? = _
      rw [hide_at, List.nil_append]
      cases w.heap[g]? with
      | none => rfl
      | some x => simp [hn]
theorem Con.lend {P : Program} {f : FuncId} {args args' : List T} {H0 : HL} {out : T} {n0 : Nat} (h : ∀ n, Con P f args' [] n out [] n) (ha : Lend args H0 args') : Con P f args H0 n0 out [] n0 :=
  ⟨(h n0).1, Nat.le_refl _, fun β S w vs hv hO => by
    have hV : Sub (View β H0 S w) (View β [] S w) := hide_sub (Kept.refl [] w) fun q _ hq => ⟨by simp, fun hm => hq (List.mem_append_right _ hm)⟩
    refine ((h n0).2.2 β S w vs (ha.is hO.toOwns (fun _ h => h) hv) ⟨⟨nofun, nofun, nofun, hO.lt⟩, hO.gl.mono hV⟩).mono ?_
    rintro e w' ⟨v, β', h1, h2, h3, h4, h5, h6, h7⟩
    exact ⟨v, β', h1, ⟨h2.os, h2.tape, h2.output, h2.size, fun k hk _ => h2.block k hk (by simp [blks])⟩, h3, h4, h5, h6, fun b hb => by cases hb⟩⟩
end Go.Sv
namespace Go.Sv
open Go
open Go.RowKit
section
variable {P : Program} {ops : Array Oper} {n : Nat} {d : Option Tmp} {ty : TypeId} {pos : String} {af : Array Edge} {x y : Operand}
theorem OpT.addW {a b : Int} {t t' : TypeId} : OpT P ops (mkO d (.binOp .add t x y t') ty pos af) n [(x, iT a), (y, iT b)] [] [] (iT (IntKind.i64.wrap (a + b))) [] n := .runD rfl fun β V w A _ h => by
  obtain ⟨h1, h2⟩ := in2 h
  have e1 : A.eval x = .int .i64 a := h1
  have e2 : A.eval y = .int .i64 b := h2
  exact ⟨.int .i64 (IntKind.i64.wrap (a + b)), by simp [execOp, e1, e2, eqGuard, binOp, Op.intArith], rfl⟩
end
end Go.Sv
