/- Part 43 of what StageOrder and StagePlans ask: for every input each returns true, and its input reads as it did. No condition. -/
import Derived.Test.YtelkpflpgpdkdaaGreatDoorPt27
import Derived.Test.YtelkpflpgpdkdaaGreatDoorPt30
import Derived.Test.YtelkpflpgpdkdaaGreatDoorPt31
import Derived.Test.YtelkpflpgpdkdaaGreatDoorPt33
import Derived.Test.YtelkpflpgpdkdaaGreatDoorPt37
import Derived.Test.YtelkpflpgpdkdaaGreatDoorPt38
import Derived.Test.YtelkpflpgpdkdaaGreatDoorPt40
import Derived.Test.YtelkpflpgpdkdaaGreatDoorPt42
import Derived.StillTail
import Derived.RegionTactic
import Derived.WalkKit
import Derived.WalkSpells
import Derived.WalkLawsBesides
import Derived.Lib.Hide
import Derived.BigQuiet
import Derived.Deep.RegionHeld3
import Derived.Deep.CutRange
import Derived.Deep.DeepCutAuto
import Derived.OpenShut
import Derived.Maps.OwnOps
import Derived.Maps.RangeWalk
namespace Go.Proofs.YtelkpflpgpdkdaaGreatDoor
open Go.Sv
set_option maxRecDepth 10000
open Go.RowKit
theorem nil_com (x : Snp) (w : World) (us : List Value) (h : Cells w (nilD :: snapF x) us) : Cells w (comF ⟨[], x⟩) us := by
  match us, h with
  | _ :: _, h => exact ⟨nil_sl 1 _ _ h.1, h.2⟩
def agN (st : Int) (a b : Str) : List D := [i64 st, str a, str b, i64 0, i64 0, i64 0, bl false, i64 0, i64 0, str ⟨#[]⟩, nilD, nilD]
theorem nil_ag (st : Int) (a b : Str) (w : World) (us : List Value) (h : Cells w (agN st a b) us) : Cells w (agentF ⟨st, a, b, 0, 0, 0, false, zeroDoc⟩) us := by
  match us, h with
  | [_, _, _, _, _, _, _, _, _, _, _, _], h => exact ⟨h.1, h.2.1, h.2.2.1, h.2.2.2.1, h.2.2.2.2.1, h.2.2.2.2.2.1, h.2.2.2.2.2.2.1, h.2.2.2.2.2.2.2.1, h.2.2.2.2.2.2.2.2.1, h.2.2.2.2.2.2.2.2.2.1, nil_sl 1 _ _ h.2.2.2.2.2.2.2.2.2.2.1, nil_sl 5 _ _ h.2.2.2.2.2.2.2.2.2.2.2.1, trivial⟩
theorem zeroDoc_fit : zeroDoc.fit := stS_zero.1.1
def msgI (m : MsgP) : List Int := [m.to, m.epoch, m.seq, m.commit]
def msgIs (a b : MsgP) : Bool := decide (a.to = b.to) && (decide (a.epoch = b.epoch) && (decide (a.seq = b.seq) && decide (a.commit = b.commit)))
theorem msgGuard : Tryz.prog.eqGuardType Tryz.prog.depth 42 = false := by kernel_rfl
theorem msgFields : (Tryz.prog.fieldsOf 42).toList.map (fun f => (f.name, f.type, f.offset)) = [("To", 3, 0), ("Epoch", 3, 1), ("Seq", 3, 2), ("Commit", 3, 3)] := by kernel_rfl
theorem msgStood : Tryz.prog.stoodInHeld 42 = false := by kernel_rfl
theorem msgUnder : Tryz.prog.underlying 42 = some (.struct (Tryz.prog.fieldsOf 42)) := by kernel_rfl
theorem msg_eql (x y : MsgP) (w : World) : (binOp .eql 42 (.agg ((msgI x).map (Value.int .i64)).toArray) (.agg ((msgI y).map (Value.int .i64)).toArray)).run Tryz.prog w = .ok (.bool (msgIs x y)) w := by
  have h : (Op.equalIn 10000 42 (.agg ((msgI x).map (Value.int .i64)).toArray) (.agg ((msgI y).map (Value.int .i64)).toArray)).run Tryz.prog w = .ok (msgIs x y) w := by
    obtain ⟨x0, x1, x2, x3⟩ := x
    obtain ⟨y0, y1, y2, y3⟩ := y
    rw [run_equalIn_struct w 9999 _ _ _ msgUnder msgStood]
    have hf := msgFields
    generalize (Tryz.prog.fieldsOf 42).toList = fs at hf
    rcases fs with _ | ⟨f0, _ | ⟨f1, _ | ⟨f2, _ | ⟨f3, _ | ⟨f4, fs⟩⟩⟩⟩⟩ <;> simp at hf
    obtain ⟨⟨a1, a2, a3⟩, ⟨b1, b2, b3⟩, ⟨c1, c2, c3⟩, ⟨d1, d2, d3⟩⟩ := hf
    simp only [Op.eqFields, a1, a2, a3, b1, b2, b3, c1, c2, c3, d1, d2, d3]
    have hi : Tryz.prog.underlying 3 = some (.int .i64) := by kernel_rfl
    simp [go_sem, msgI, msgIs]
    by_cases h0 : x0 = y0 <;> by_cases h1 : x1 = y1 <;> by_cases h2 : x2 = y2 <;> by_cases h3 : x3 = y3 <;> simp [h0, h1, h2, h3]
  rw [run_eql_struct, h]; rfl
set_option maxHeartbeats 4000000 in
theorem stSmallC (hR : RawH) : ∀ n, Con Tryz.prog 5 [] [] n (bT true) [] n := by
  refine fnI Tryz.func5 Tryz.ntmps5 (h := fun S w0 β0 X => ?_)
  have c1 := snewC 2
  have c2 := sreleaseC (newE 2) 5 (by rw [newE, List.length_replicate]; have := newN_le 2; omega) (Nat.zero_le _)
  rw [pl_1] at c2
  have c3 := spromoteC pl1 0 1 1 (by decide) (by decide)
  rw [pl_2] at c3
  have c4 := spromoteC pl1 0 0 1 (by decide) (by decide)
  rw [pl_3] at c4
  have c5 := sreleaseC ql1 6 (by decide) (by decide)
  rw [pl_4] at c5
  have c6 := srollC ql2 5 (by decide) (by decide)
  rw [pl_5] at c6
  have c7 := srollC ql2 9 (by decide) (by decide)
  rw [pl_6] at c7
  have c8 := fun n => (spollC xl 3 agP (by decide) n).argL (args := [agD (planF xl), iT 3, agD (agN 1 ⟨#[]⟩ ⟨#[]⟩)]) ⟨.refl _, .refl _, .ag (nil_ag 1 ⟨#[]⟩ ⟨#[]⟩), trivial⟩
  rw [pl_9] at c8
  have c9 := fun n => (sdeclC hR zeroSnap sS tyS snpG_z fit_S n).argL (args := [agD zSnap, sT sS, agD [i64 1, i64 0, i64 0, nilD, nilD, nilD]]) ⟨.ag nil_snap, .refl _, .ag (nil_typ 1), trivial⟩
  rw [decl_s] at c9
  have c10 := fun n => (docRecC [] [] rfl (Nat.zero_le _) nofun nofun n).argL (args := [dT nilD, dT nilD]) ⟨fun _ _ _ h => nil_sl 1 _ _ h, fun _ _ _ h => nil_sl 5 _ _ h, trivial⟩
  rw [show recOf (fputs (([] : List Str).zip ([] : List Doc)) []) = docE from rfl] at c10
  have c11 := swriteC hR snpS sF sS docE snpG_s docE_fitS
  rw [write_f] at c11
  have c12 := fun n => (sacceptC hR ag0 msg1 [com1] zeroDoc_fit (fun c hc => by rw [List.mem_singleton.1 hc]; exact snpG_f) n).argL (args := [agD (agN 0 sF sS), agD (msgF msg1), dT (sl 4 [nilD :: snapF snpF])]) ⟨.ag (nil_ag 0 sF sS), .refl _, fun _ _ _ h => sl_less1 (l := nilD :: snapF snpF) (l' := comF com1) rfl (nil_com snpF) _ _ h, trivial⟩
  rw [acc_0] at c12
  have c13 := fun n => (sacceptC hR ag1 msg1 [com1] docE_fitS (fun c hc => by rw [List.mem_singleton.1 hc]; exact snpG_f) n).argL (args := [agD (agentF ag1), agD (msgF msg1), dT (sl 4 [nilD :: snapF snpF])]) ⟨.refl _, .refl _, fun _ _ _ h => sl_less1 (l := nilD :: snapF snpF) (l' := comF com1) rfl (nil_com snpF) _ _ h, trivial⟩
  rw [acc_1] at c13
  have c14 := rIntsC [6, 5] [6, 5] (by decide)
  have c15 := rIntsC [5, 5] [5, 5] (by decide)
  have c16 := swasC xl 0 1 5
  rw [pl_8] at c16
  have c17 := sRightPC xl (by decide)
  rw [pl_7] at c17
  have s3 : Stop 3 := ⟨⟩
  have s6 : Stop 6 := ⟨⟩
  have s14 : Stop 14 := ⟨⟩
  refine GO ?_
  refine Ch.c (c1) (r := ?_)
  refine GO ?_
  refine Ch.ch [] c2 (r := ?_)
  refine GO ?_
  refine W.frz 1 (h := ?_)
  refine W.frz 2 (h := ?_)
  clear s3
  refine GO ?_
  refine Ch.c (c3) (r := ?_)
  refine GO ?_
  refine Ch.c (c4) (r := ?_)
  refine GO ?_
  refine Ch.ch [] c5 (r := ?_)
  refine GO ?_
  refine W.frz 5 (h := ?_)
  refine W.frz 6 (h := ?_)
  clear s6
  refine GO ?_
  refine Ch.c (c6) (r := ?_)
  refine GO ?_
  refine Ch.c (c7) (r := ?_)
  refine GO ?_
  refine Ch.c (c8) (r := ?_)
  refine GO ?_
  refine Ch.c (c9) (r := ?_)
  refine GO ?_
  refine Ch.c (c10) (r := ?_)
  refine GO ?_
  refine Ch.c (c11) (r := ?_)
  refine GO ?_
  refine Ch.p (OpT.slice1' (hs := asAg (l := nilD :: snapF snpF) rfl)) ⟨rfl, trivial⟩ ?_
  refine GO ?_
  refine Ch.c (c12) (r := ?_)
  refine GO ?_
  refine Ch.p (OpT.slice1' (hs := asAg (l := nilD :: snapF snpF) rfl)) ⟨rfl, trivial⟩ ?_
  refine GO ?_
  refine Ch.c (c13) (r := ?_)
  refine GO ?_
  clear s14
  dsimp only [List.append]
  refine GO ?_
  refine Ch.g (h := fun _ => OpT.sliceN (k := 1) (xs := [_, _]) (ss := [_, _]) (lls := [[i64 6], [i64 5]]) ⟨.one _, .one _, trivial⟩ rfl (by simp)) (r := ?_)
  refine GO ?_
  refine Ch.gc (hc := fun _ => c14) (r := ?_)
  refine GO ?_
  refine Ch.g (h := fun _ => OpT.sliceN (k := 1) (xs := [_, _]) (ss := [_, _]) (lls := [[i64 5], [i64 5]]) ⟨.one _, .one _, trivial⟩ rfl (by simp)) (r := ?_)
  refine GO ?_
  refine Ch.gc (hc := fun _ => c15) (r := ?_)
  refine GO ?_
  refine Ch.g (h := fun _ => OpT.build (xs := [(0, _), (1, _), (2, _), (3, _)]) (ss := [_, _, _, _]) rfl rfl rfl rfl) (r := ?_)
  refine GO ?_
  refine Ch.g (h := fun _ => OpT.eqAg (A := msgI msgP) (B := msgI msgP) msgGuard (msg_eql msgP msgP)) (r := ?_)
  refine GO ?_
  refine Ch.gc (hc := fun _ => c16) (r := ?_)
  refine GO ?_
  refine Ch.gc (hc := fun _ => c17) (r := ?_)
  refine GO ?_
  exact finB (he := by rfl)
end Go.Proofs.YtelkpflpgpdkdaaGreatDoor
namespace Go.Proofs.YtelkpflpgpdkdaaGreatDoor
open Go.Sv
set_option maxRecDepth 10000
open Go.RowKit
abbrev Trip := Int × Int × Int
def tripF (t : Trip) : List D := [i64 t.1, i64 t.2.1, i64 t.2.2]
def and3 (a : Int) : Int := IntKind.i64.wrap ((BitVec.ofInt 64 a &&& BitVec.ofInt 64 3).toNat : Int)
theorem and3_in (a : Int) : and3 a = 0 ∨ and3 a = 1 ∨ and3 a = 2 ∨ and3 a = 3 := by
  have h : (BitVec.ofInt 64 a &&& BitVec.ofInt 64 3).toNat ≤ 3 := by
    rw [BitVec.toNat_and, show (BitVec.ofInt 64 3).toNat = 3 by decide]
    exact Nat.and_le_right
  unfold and3
  generalize (BitVec.ofInt 64 a &&& BitVec.ofInt 64 3).toNat = m at *
  rw [IntWalk.i64_in _ (by omega)]
  omega
theorem and3_run {P : Program} {t : TypeId} (a : Int) (w : World) : (binOp .and t (.int .i64 a) (.int .i64 3)).run P w = .ok (.int .i64 (and3 a)) w := rfl
set_option maxHeartbeats 4000000 in
theorem stageOrderC (hR : RawH) (k : Int) (l : List Trip) : ∀ n, Con Tryz.prog 3 [iT k, dT (sl 3 (l.map tripF))] [] n (bT true) [] n := by
  refine fnI Tryz.func3 Tryz.ntmps3 (h := fun S w0 β0 X => ?_)
  have c1 := stSmallC hR
  have c2 := snewC k
  have hinv := new_inv k
  generalize newE k = p0 at *
  refine GO ?_
  refine Ch.c (c1) (r := ?_)
  refine GO ?_
  refine W.cond rfl (fun h => ?_) (fun h => ?_)
  · refine GO ?_
    exact finB (he := by rfl)
  have h60 : l.length ≤ 60 := by simp at h; omega
  refine GO ?_
  refine Ch.c (c2) (r := ?_)
  refine GO ?_
  refine W.lpG (fun a : Nat × PlanP => a.1 ≤ l.length ∧ PInv a.2) (fun a => [(7, iT (a.1 : Int))]) [(1, _), (5, _), (6, _)] (fun a => [(0, .box 27 ((planF a.2).map C.d))]) [] (fun a => l.length - a.1) (0, p0) (⟨Nat.zero_le _, hinv⟩) (round := fun a hI => ?_)
  obtain ⟨i, p⟩ := a
  obtain ⟨hi, hp⟩ := hI
  simp only at hi hp ⊢
  by_cases hlt : i < l.length
  · have ht := List.getElem?_eq_getElem hlt
    generalize l[i] = t at ht
    obtain ⟨x, y, z⟩ := t
    have hb3 := and3_in x
    have hrun := fun {P : Program} {t : TypeId} (w : World) => and3_run (P := P) (t := t) x w
    have hco := call_ok hp (and3 x) y z hb3
    obtain ⟨g1, g2, g3, g4, g5, g6, g7, _⟩ := planR_parts hp.right
    have hmost : mostN = 1099511627776 := rfl
    generalize and3 x = v at *
    refine GO ?_
    refine Ch.p (OpT.idxArr 0 rfl (by decide) rfl Tryz.underlying30) ⟨rfl, rfl, trivial⟩ ?_
    refine GO ?_
    refine Ch.p (OpT.binI (hrun)) ⟨rfl, rfl, trivial⟩ ?_
    refine Ch.endP ?_
    refine W.thenN ?_
    refine W.mid (2) [(9, iT (callE p v y z).2)] [(1, _), (5, _), (6, _), (7, _), (8, _)] [(1, .box 27 ((planF (callE p v y z).1).map C.d))] [(0, _)] (h1 := ?_) (h2 := ?_)
    · rcases hb3 with rfl | rfl | rfl | rfl
      · rw [show callE p 0 y z = relE p z from if_pos rfl]
        have hc := sreleaseC p z (by omega) (by omega)
        generalize relE p z = q at *
        refine GO ?_
        refine Ch.p (OpT.idxArr 2 rfl (by decide) rfl Tryz.underlying30) ⟨rfl, rfl, trivial⟩ ?_
        refine GO ?_
        refine Ch.ch [] hc (r := ?_)
        refine GO ?_
        refine W.frz 2 (h := ?_)
        refine W.frz 3 (h := ?_)
        exact W.meet
      · rw [show callE p 1 y z = proE p y 1 1 from rfl]
        refine GO ?_
        refine Ch.p (OpT.idxArr 1 rfl (by decide) rfl Tryz.underlying30) ⟨rfl, rfl, trivial⟩ ?_
        refine GO ?_
        refine Ch.c (spromoteC p y 1 1 (by omega) (by omega)) (r := ?_)
        refine GO ?_
        exact W.meet
      · rw [show callE p 2 y z = proE p y 1 1 from rfl]
        refine GO ?_
        refine Ch.p (OpT.idxArr 1 rfl (by decide) rfl Tryz.underlying30) ⟨rfl, rfl, trivial⟩ ?_
        refine GO ?_
        refine Ch.c (spromoteC p y 1 1 (by omega) (by omega)) (r := ?_)
        refine GO ?_
        exact W.meet
      · rw [show callE p 3 y z = rollE p z from rfl]
        refine GO ?_
        refine Ch.p (OpT.idxArr 2 rfl (by decide) rfl Tryz.underlying30) ⟨rfl, rfl, trivial⟩ ?_
        refine GO ?_
        refine Ch.c (srollC p z (by omega) (by omega)) (r := ?_)
        refine GO ?_
        exact W.meet
    generalize callE p v y z = q at *
    obtain ⟨q, e⟩ := q
    obtain ⟨k1, k2, k3, k4, k5⟩ := hco
    simp only at k1 k2 k3 k4 k5
    obtain ⟨r1, r2, r3, r4, r5, r6, r7, _⟩ := planR_parts k5.right
    have hrq := sRightPC q (by omega)
    rw [k5.right] at hrq
    have hsm := rsameC p q (by omega) (by omega)
    have hse : e ≠ 0 → samePlan p q = true := fun h => by rw [k1 h, samePlan]; simp
    generalize samePlan p q = sm at *
    refine GO ?_
    refine Ch.gc (hc := fun _ => hsm) (r := ?_)
    refine GO ?_
    refine Ch.g (h := fun _ => OpT.idxArr 0 rfl (by decide) rfl Tryz.underlying30) (r := ?_)
    refine GO ?_
    refine Ch.g (h := fun _ => OpT.binI hrun) (r := ?_)
    refine GO ?_
    refine Ch.g (h := fun _ => OpT.idxArr 0 rfl (by decide) rfl Tryz.underlying30) (r := ?_)
    refine GO ?_
    refine Ch.g (h := fun _ => OpT.binI hrun) (r := ?_)
    refine GO ?_
    refine Ch.gc (hc := fun _ => hrq) (r := ?_)
    refine GO ?_
    refine W.cond rfl (fun hbad => ?_) (fun hbad => ?_)
    · exfalso
      simp only at hbad
      by_cases he : e = 0
      · rw [k2 he] at hbad
        by_cases hv : v = 3
        · rw [k3 he hv] at hbad
          simp [he, hv] at hbad
        · rw [k4 he hv] at hbad
          simp [he, hv] at hbad
      · rw [hse he] at hbad
        simp [he] at hbad
    · refine GO ?_
      exact W.ag (i + 1, q) ⟨hlt, k5⟩ (by simp only; omega)
  obtain rfl : i = l.length := by omega
  clear hlt hi c1 c2
  obtain ⟨hright, hchn, hserv⟩ := hp
  obtain ⟨g1, g2, g3, g4, g5, g6, g7, g8, g9⟩ := planR_parts hright
  have hmost : mostN = 1099511627776 := rfl
  refine GO ?_
  refine W.lpG ((· ≤ p.log.length)) (fun i => [(10, iT (i : Int))]) [(5, _), (6, _)] (fun _ => []) [(0, _)] (p.log.length - ·) 0 (Nat.zero_le _) (round := fun i hi => ?_)
  by_cases hlt : i < p.log.length
  · have hs := List.getElem?_eq_getElem hlt
    generalize p.log[i] = s at hs
    have hsb := bad_of.1 (g9 s (List.mem_of_getElem? hs))
    have hch := hchn i s hs
    refine GO ?_
    refine W.lpG (fun a : Nat × Bool => a.1 ≤ i ∧ a.2 = (decide (s.stage = 0) || (p.log.take a.1).any (fun x => stepIs x ⟨s.epoch, s.stage - 1, s.commit⟩))) (fun a => [(12, bT a.2), (13, iT (a.1 : Int))]) [(5, _), (6, _), (10, _), (11, _)] (fun _ => []) [(0, _), (1, _)] (fun a => i - a.1) (0, decide (s.stage = 0)) (⟨Nat.zero_le _, by simp⟩) (round := fun a hI2 => ?_)
    obtain ⟨j, w⟩ := a
    obtain ⟨hj, hw⟩ := hI2
    simp only at hj hw ⊢
    by_cases hjl : j < i
    · have hjl2 : j < p.log.length := by omega
      have hx := List.getElem?_eq_getElem hjl2
      generalize p.log[j] = x at hx
      refine GO ?_
      refine Ch.g (h := fun _ => OpT.build (xs := [(0, _), (1, _), (2, _)]) (ss := [_, _, _]) rfl rfl rfl rfl) (r := ?_)
      refine GO ?_
      refine Ch.g (h := fun _ => OpT.eqAg (A := stepI x) (B := stepI ⟨s.epoch, s.stage - 1, s.commit⟩) stepGuard (step_eql _ _)) (r := ?_)
      refine GO ?_
      exact W.ag (j + 1, w || stepIs x ⟨s.epoch, s.stage - 1, s.commit⟩) ⟨hjl, by simp only; rw [List.take_add_one, hx, List.any_append, hw]; simp [Bool.or_assoc]⟩ (by simp only; omega)
    obtain rfl : j = i := by omega
    have hw1 : w = true := by
      rw [hw]
      rcases hch with h0 | ⟨q, hq, e⟩
      · rw [h0]; simp
      · rw [Bool.or_eq_true]
        exact .inr (List.any_eq_true.2 ⟨_, List.mem_of_getElem? (by rw [List.getElem?_take_of_lt hq]; exact e), (stepIs_eq _ _).2 rfl⟩)
    subst hw1
    refine GO ?_
    exact W.ag (j + 1) (hlt) (by omega)
  obtain rfl : i = p.log.length := by omega
  refine GO ?_
  refine W.lpG ((· ≤ p.stages.length)) (fun i => [(14, iT (i : Int))]) [(5, _), (6, _)] (fun _ => []) [(0, _)] (p.stages.length - ·) 0 (Nat.zero_le _) (round := fun i hi => ?_)
  by_cases hlt : i < p.stages.length
  · have hv := List.getElem?_eq_getElem hlt
    generalize p.stages[i] = v at hv
    have hse := hserv i v hv
    have hwa := swasC p p.epoch i v
    have hwe : 0 ≤ v → wasE p p.epoch i v = true := fun h => List.any_eq_true.2 ⟨_, hse h, (stepIs_eq _ _).2 rfl⟩
    generalize wasE p p.epoch i v = wz at *
    refine GO ?_
    refine Ch.gc (hc := fun _ => hwa) (r := ?_)
    refine GO ?_
    refine W.cond rfl (fun h => ?_) (fun h => ?_)
    · exact absurd h (by grind)
    refine GO ?_
    exact W.ag (i + 1) (hlt) (by omega)
  obtain rfl : i = p.stages.length := by omega
  refine GO ?_
  exact finB (he := by rfl)
end Go.Proofs.YtelkpflpgpdkdaaGreatDoor
namespace Go.Proofs.YtelkpflpgpdkdaaGreatDoor
open Go.Sv
open Go.RowKit Go.Lib Go.Maps
def Ext (w w' : World) : Prop := Below w.heap.size w w'
theorem Ext.trans {a b c : World} (h : Ext a b) (k : Ext b c) : Ext a c := Below.trans h (Below.mono k h.size)
theorem ext_alloc (w : World) (o : Obj) : Ext w (w.alloc o) := (Below.refl _ _).alloc (Nat.le_refl _) _
theorem Ext.cell {w w' : World} (h : Ext w w') {p : Addr} {v : Value} (hc : w.cell? p = some v) : w'.cell? p = some v :=
  (Below.cell h (World.block_lt_of_cell? w p hc)).trans hc
theorem ext_grown {w w' : World} (h : w.grownBy w' none) : Ext w w' := (Below.refl _ _).grown h (Nat.le_refl _) (fun k hk => by cases hk)
theorem Ext.heap {w w' : World} (h : Ext w w') {b : Nat} {o : Obj} (hb : w.heap[b]? = some o) : w'.heap[b]? = some o :=
  (h.block b (Array.getElem?_eq_some_iff.1 hb).1).trans hb
theorem box_at {w : World} {b : Nat} {cs : Array Value} {ty : TypeId} (h : w.heap[b]? = some (.cells cs ty (0, 0))) : ∀ W, Ext w W → ∀ i, W.cell? ⟨b, i, none⟩ = cs[i]? := fun W hW i => cell_of_row W b i cs ty (0, 0) (hW.heap h)
theorem box1 {G : World → Prop} {w : World} {c1 : Array Value} {t1 : TypeId} (h : ∀ W, Ext w W → W.heap.size = w.heap.size + 1 → W.heap[w.heap.size]? = some (.cells c1 t1 (0, 0)) → G W) : G (w.alloc (.cells c1 t1)) :=
  h _ (ext_alloc _ _) (heap_alloc_size _ _) (heap_alloc_new w _)
/-- Block b is a map that holds the numbers of L, each with true. -/
def NumSet (w : World) (b : Nat) (L : List Int) : Prop :=
  ∃ D : DataW Unit, w.ownsMap Tryz.prog 3 (plainElem Tryz.prog 4) b (L.length) D ∧ (∀ n : Int, Maps.has D (.int .i64 n) = decide (n ∈ L)) ∧
    (∀ n : Int, D.atKey (.int .i64 n) (.lit (.bool false)) = .lit (.bool (decide (n ∈ L)))) ∧ ∀ kl, Maps.has D kl = true → ∃ n ∈ L, kl = .int .i64 n
theorem keyedInt : Keyed Tryz.prog 3 := int_keyed Tryz.underlying3
theorem key_int {n : Int} (h : I64 n) : keyOf Tryz.prog 3 (.int .i64 n) = some (.int .i64 n) := keyOf_int_mk Tryz.underlying3 h
theorem NumSet.lt {w : World} {b : Nat} {L : List Int} (h : NumSet w b L) : b < w.heap.size := by
  obtain ⟨D, h1, _⟩ := h
  exact h1.lt
theorem NumSet.ext {w w' : World} {b : Nat} {L : List Int} (h : NumSet w b L) (hE : Ext w w') : NumSet w' b L := by
  obtain ⟨D, ⟨es, k, hb, h1⟩, h2⟩ := h
  exact ⟨D, ⟨es, k, hE.heap hb, h1⟩, h2⟩
theorem numSet_new (w : World) : NumSet (w.alloc (.map #[] 0)) w.heap.size [] := by
  refine ⟨.map [], World.ownsMap_made w Tryz.prog 3 _, fun j => rfl, fun j => ?_, fun kl hk => by simp [Maps.has] at hk⟩
  simp [DataW.atKey]
theorem ext_turned {a w w' : World} {c : Nat} (hE : Ext a w) (h : w.grownBy w' (some c)) (hc : a.heap.size ≤ c) : Ext a w' :=
  ⟨h.os.trans hE.os, h.tape.trans hE.tape, h.output.trans hE.output, Nat.le_trans hE.size h.size, fun k hk => (h.block k (Nat.lt_of_lt_of_le hk hE.size) (by simp; omega)).trans (hE.block k hk)⟩
/-- 'm[k]'. -/
theorem NumSet.look {w : World} {b : Nat} {L : List Int} (h : NumSet w b L) {n : Int} (hn : I64 n) :
    (Instr.lookup 318 (.map (some b)) (.int .i64 n) false).run Tryz.prog w = .ok (.bool (decide (n ∈ L))) w := by
  obtain ⟨D, hown, _, hat, _⟩ := h
  obtain ⟨v, ps, hrun, hv⟩ := hown.lookup keyedInt Tryz.underlying318 (Tryz.zeroValue4 w) (plainElem_bool Tryz.underlying4 false) (key_int hn)
  rw [hat n] at hv
  rw [hrun]
  cases v <;> simp [plainElem, Tryz.underlying4] at hv
  rw [hv.1]
/-- 'm[k] = true'. -/
theorem wpList_put_num (w : World) {ops : Array Oper} {rest : List Oper} {o : Oper} {a : Act} {Q : Exit → Act → World → Prop}
    (hg : o.guard = none) (m x : Operand) (hop : o.op = Op.mapUpdate 318 m x (.const (.bool true))) (b : Nat) (L : List Int) (hm : a.eval m = .map (some b)) (hset : NumSet w b L) (n : Int) (hn : I64 n) (hnew : n ∉ L) (hlen : L.length ≤ 3000000) (hx : a.eval x = .int .i64 n)
    (hK : ∀ w', NumSet w' b (L ++ [n]) → w.grownBy w' (some b) → wpList Tryz.prog ops Q rest (a.put o.dst undef) w') : wpList Tryz.prog ops Q (o :: rest) a w := by
  obtain ⟨D, hown, hhas, hat, hall⟩ := hset
  have hD := hown.isMap
  have hkl : WideAt.IsKeyLit (.int .i64 n) := keyedInt.key (key_int hn)
  refine wpList_mapUpdate_own w hg m x _ 318 hop 3 4 keyedInt Tryz.underlying318 (plainElem Tryz.prog 4) b L.length D hm hown (by unfold maxLen; omega) (.int .i64 n) (.bool true) (.int .i64 n) hx rfl (key_int hn) (.lit (.bool true)) [] (plainElem_bool Tryz.underlying4 true) ?_
  intro w' hown' hgrow
  have hne : ∀ i : Int, i ≠ n → (Lit.int .i64 i) ≠ .int .i64 n := fun i hij h => hij (by simpa using h)
  have hme : ∀ i : Int, i ≠ n → (decide (i ∈ L ++ [n]) = decide (i ∈ L)) := fun i hi => by simp [hi]
  refine hK w' ⟨_, by simpa using hown', fun i => ?_, fun i => ?_, fun kl hk => ?_⟩ hgrow
  · by_cases hij : i = n
    · subst hij; rw [Maps.has_put_same hD hkl]; simp
    · rw [Maps.has_put_other (hne i hij), hhas i, hme i hij]
  · by_cases hij : i = n
    · subst hij; rw [Maps.atKey_put_same hD hkl]; simp
    · rw [Maps.atKey_put_other (hne i hij), hat i, hme i hij]
  · by_cases hkj : kl = .int .i64 n
    · subst hkj; exact ⟨n, by simp, rfl⟩
    · rw [Maps.has_put_other hkj] at hk
      obtain ⟨i, hi, hki⟩ := hall kl hk
      exact ⟨i, by simp [hi], hki⟩
theorem index_0 (x y : Int) (W : World) : (Instr.index 212 (.agg #[.int .i64 x, .int .i64 y]) (.int .i64 0)).run Tryz.prog W = .ok (.int .i64 x) W := by kernel_rfl
theorem index_1 (x y : Int) (W : World) : (Instr.index 212 (.agg #[.int .i64 x, .int .i64 y]) (.int .i64 1)).run Tryz.prog W = .ok (.int .i64 y) W := by kernel_rfl
set_option maxHeartbeats 2000000 in
set_option maxRecDepth 100000 in
theorem lswaps_raw (t : Typ) (l : List (Int × Int)) (nv fv ov : Value) (a : Option Addr) (c : Nat) (w : World) (hl : l.length ≤ 1000000) (hn : ∀ n ∈ swapNums l, I64 n) (hcc : ∀ k x y, (swapNums l)[k * 2]? = some x → (swapNums l)[k * 2 + 1]? = some y → ∃ b o, a = some ⟨b, o, none⟩ ∧ w.cell? ⟨b, o + k * 2, none⟩ = some (.int .i64 x) ∧ w.cell? ⟨b, o + k * 2 + 1, none⟩ = some (.int .i64 y)) : Calls Tryz.prog 257 #[.slice a l.length c, .agg #[.int .i64 t.kind, .int .i64 t.lo, .int .i64 t.hi, nv, fv, ov]] w (fun e w' => e = .returned (.int .i64 (swapsE l t)) ∧ Ext w w') := by
  have HN := Lib.hid (swapNums_len l)
  obtain ⟨m, hm⟩ : ∃ m, m = l.length := ⟨_, rfl⟩
  have HM := Lib.hid hm
  have HV : Hid (swapsE l t = if m = 0 ∨ 32 < m ∨ ¬ (swapNums l).Nodup then 1 else if (swapNums l).any (fun n => decide (n < t.lo) || decide (t.hi < n)) then 8 else 0) := Lib.hid (by rw [hm]; rfl)
  rw [← hm] at hl ⊢
  have hn2 : (swapNums l).length = m * 2 := by rw [HN.out, ← HM.out]
  clear HN HM
  generalize swapNums l = L at *
  generalize swapsE l t = res at *
  have HL := Lib.hid hn2
  have HI := Lib.hid hn
  have HCC : Hid (∀ W, Ext w W → ∀ k x y, L[k * 2]? = some x → L[k * 2 + 1]? = some y → ∃ b o, a = some ⟨b, o, none⟩ ∧ W.cell? ⟨b, o + k * 2, none⟩ = some (.int .i64 x) ∧ W.cell? ⟨b, o + k * 2 + 1, none⟩ = some (.int .i64 y)) := Lib.hid fun W hW k x y hx hy => by
    obtain ⟨b, o, h1, h2, h3⟩ := hcc k x y hx hy
    exact ⟨b, o, h1, hW.cell h2, hW.cell h3⟩
  clear hcc hm hn2 hn
  have hmm := @run_makeMap Tryz.prog
  go_enter Tryz.func257, Tryz.ntmps257
  go_upto_region 1 with (fail)
  refine box1 (G := fun W => Code.wp _ _ _ _ W) fun wB HE hsz h1 => ?_
  have HSZ := Lib.hid hsz
  have k1 := box_at h1
  have HE' := Lib.hid HE
  clear HE h1 hsz
  go_upto_region 2 with (fail)
  obtain ⟨w0, hw0⟩ : ∃ x, wB.alloc (.map #[] 0) = x := ⟨_, rfl⟩
  rw [hw0]
  have HS0 : Hid (NumSet w0 wB.heap.size []) := Lib.hid (by rw [← hw0]; exact numSet_new wB)
  have HE0 : Hid (Ext wB w0) := Lib.hid (by rw [← hw0]; exact ext_alloc _ _)
  clear hw0
  go_wp2_with fail
  go_loopw [14] (fun q wr => ∃ i : Nat, i ≤ m ∧ q = .int .i64 i ∧ Hid (NumSet wr wB.heap.size (L.take (i * 2))) ∧ Hid ((L.take (i * 2)).Nodup) ∧ Hid (Ext wB wr)) (fun q _ => m - (intOf q).toNat)
  case atStart => exact ⟨0, Nat.zero_le _, rfl, Lib.hid (by rw [Nat.zero_mul]; exact HS0.out), Lib.hid (by simp), HE0⟩
  case round =>
    obtain ⟨i, hi, rfl, HS, HD, HE⟩ := hrel
    clear HS0
    by_cases hlt : i < m
    · obtain ⟨x, hx⟩ : ∃ x, L[i * 2]? = some x := ⟨_, List.getElem?_eq_getElem (by rw [HL.out]; omega)⟩
      obtain ⟨y, hy⟩ : ∃ y, L[i * 2 + 1]? = some y := ⟨_, List.getElem?_eq_getElem (by rw [HL.out]; omega)⟩
      obtain ⟨b, o, rfl, hc0, hc1⟩ := HCC.out wr (HE'.out.trans HE.out) i x y hx hy
      have HX := Lib.hid hx
      have HY := Lib.hid hy
      clear hx hy
      go_wp2_with fail
      obtain ⟨wC, hwC⟩ : ∃ W, wr.alloc (.cells #[.int .i64 x, .int .i64 y] 212) = W := ⟨_, rfl⟩
      rw [hwC]
      have HE1 : Hid (Ext wB wC) := Lib.hid (by rw [← hwC]; exact HE.out.trans (ext_alloc _ _))
      have HS1 : Hid (NumSet wC wB.heap.size (L.take (i * 2))) := Lib.hid (by rw [← hwC]; exact HS.out.ext (ext_alloc _ _))
      have HLT := Lib.hid hlt
      clear hwC hc0 hc1 HE HS hlt
      go_loopw [19] (fun q wr => ∃ j : Nat, j ≤ 2 ∧ q = .int .i64 j ∧ Hid (NumSet wr wB.heap.size (L.take (i * 2 + j))) ∧ Hid ((L.take (i * 2 + j)).Nodup) ∧ Hid (Ext wB wr)) (fun q _ => 2 - (intOf q).toNat)
      case atStart => exact ⟨0, Nat.zero_le _, rfl, HS1, HD, HE1⟩
      case round =>
        clear HS1 HE1 HD
        obtain ⟨j, hj, rfl, HS, HD, HE⟩ := hrel
        by_cases hlt : j < 2
        · obtain ⟨z, hz⟩ : ∃ z, L[i * 2 + j]? = some z := ⟨_, List.getElem?_eq_getElem (by rw [HL.out]; have := HLT.out; omega)⟩
          have hidx : ∀ W, (Instr.index 212 (.agg #[.int .i64 x, .int .i64 y]) (.int .i64 (j : Int))).run Tryz.prog W = .ok (.int .i64 z) W := by
            rcases (by omega : j = 0 ∨ j = 1) with rfl | rfl
            · have := HX.out.symm.trans hz; cases this; exact fun W => index_0 _ _ W
            · have := HY.out.symm.trans hz; cases this; exact fun W => index_1 _ _ W
          have hwz := HI.out z (List.mem_of_getElem? hz)
          have hlook := HS.out.look hwz
          have HZ := Lib.hid hz
          clear hz
          cases hin : decide (z ∈ L.take (i * 2 + j)) with
          | true =>
            rw [hin] at hlook
            have hr : res = 1 := by rw [HV.out]; exact if_pos (.inr (.inr (not_nodup HZ.out (by simpa using hin))))
            subst hr
            clear HV hin
            go_wp2_with fail
            go_ret
            exact ⟨rfl, HE'.out.trans HE.out⟩
          | false =>
            rw [hin] at hlook
            have HNI : Hid (z ∉ L.take (i * 2 + j)) := Lib.hid (by simpa using hin)
            clear hin
            go_wp2_with (
              at_mapUpdate
              refine wpList_put_num _ rfl _ _ rfl wB.heap.size (L.take (i * 2 + j)) rfl HS.out z hwz HNI.out (by rw [List.length_take]; have := HLT.out; omega) rfl ?_
              intro w2 hs2 hg2
              have HS2 : Hid (NumSet w2 wB.heap.size (L.take (i * 2 + (j + 1)))) := Lib.hid (by rw [← Nat.add_assoc, List.take_add_one, HZ.out]; exact hs2)
              have HE2 := Lib.hid (ext_turned HE.out hg2 (Nat.le_refl _))
              have HD2 : Hid ((L.take (i * 2 + (j + 1))).Nodup) := Lib.hid (by rw [← Nat.add_assoc, List.take_add_one, HZ.out]; exact nodup_snoc HD.out HNI.out)
              clear hs2 hg2 hlook hidx)
            go_roundw
            case rel => exact ⟨j + 1, by omega, by go_num, HS2, HD2, HE2⟩
            case measure => simp [intOf]; omega
        · obtain rfl : j = 2 := by omega
          have HLT2 := HLT.out
          go_wp2_with fail
          go_roundw
          case rel => exact ⟨i + 1, by omega, by go_num, Lib.hid (by rw [show (i + 1) * 2 = i * 2 + 2 by omega]; exact HS.out), Lib.hid (by rw [show (i + 1) * 2 = i * 2 + 2 by omega]; exact HD.out), HE⟩
          case measure => simp [intOf]; omega
    · have him : i = m := by omega
      subst him
      obtain ⟨wM, rfl⟩ : ∃ x, x = wr := ⟨_, rfl⟩
      have hLL : L.take (i * 2) = L := by rw [← HL.out, List.take_length]
      rw [hLL] at HS HD
      clear hLL
      by_cases h1 : i = 0
      · have hr : res = 1 := by rw [HV.out]; exact if_pos (.inl h1)
        subst hr h1
        clear HV
        go_wp2_with fail
        go_ret
        exact ⟨rfl, HE'.out.trans HE.out⟩
      have d1 : ((i : Int) == 0) = false := by simp; omega
      by_cases h2 : 32 < i
      · have d2 : decide ((32 : Int) < (i : Int)) = true := by simp; omega
        have hr : res = 1 := by rw [HV.out]; exact if_pos (.inr (.inl h2))
        subst hr
        clear HV
        go_wp2_with fail
        go_ret
        exact ⟨rfl, HE'.out.trans HE.out⟩
      have d2 : decide ((32 : Int) < (i : Int)) = false := by simp; omega
      replace HV : Hid (res = if (L.any fun n => decide (n < t.lo) || decide (t.hi < n)) = true then 8 else 0) := Lib.hid (HV.out.trans (if_neg (by
        rintro (h | h | h)
        · exact h1 h
        · exact h2 h
        · exact h HD.out)))
      obtain ⟨D, hown, hhas, _, hall⟩ := HS.out
      have HH := Lib.hid hhas
      have HA := Lib.hid hall
      clear hhas hall HS
      go_wp2_with (first
        | (at_range; refine wpList_range_own _ rfl _ 318 rfl 3 4 keyedInt Tryz.underlying318 _ wB.heap.size _ D rfl hown ?_; intro w2 hrg0 hg0 hs0)
        | fail)
      go_frame
      go_loopw [10] (fun _ wr => ∃ (left : Lit → Bool) (cnt : Nat), wr.ranges Tryz.prog 3 (plainElem Tryz.prog 4) wB.heap.size wM.heap.size L.length D left cnt ∧ Hid (∀ x ∈ L, left (.int .i64 x) = false → t.lo ≤ x ∧ x ≤ t.hi) ∧ Hid (∀ kl, left kl = true → Maps.has D kl = true) ∧ Hid (Ext wB wr)) (fun _ wr => wr.rangeLeft wB.heap.size wM.heap.size)
      case atStart => exact ⟨_, _, hrg0, Lib.hid (fun x hx h => by rw [HH.out x] at h; simp [hx] at h), Lib.hid (fun kl h => h), Lib.hid (HE.out.trans (ext_grown hg0))⟩
      case round =>
        clear hrg0 hg0 hs0
        obtain ⟨left, cnt, hrg, HB, HK, HE2⟩ := hrel
        go_wp2_with (first
          | (at_next; refine wpList_next_ranges _ rfl _ rfl 3 keyedInt (plainElem Tryz.prog 4) (Value.int .i64) (fun v : Value => v) (fun key kl hk => by obtain ⟨x, hx, _⟩ := Maps.keyOf_int_inv Tryz.underlying3 hk; exact ⟨x, hx⟩) (fun v _ _ => ⟨v, rfl⟩) wB.heap.size wM.heap.size _ _ _ _ rfl hrg ?_ ?_)
          | fail)
        · intro _ hl0
          have hr : res = 0 := by
            rw [HV.out]
            refine if_neg fun h => ?_
            obtain ⟨n, hn, h3⟩ := List.any_eq_true.1 h
            have := HB.out n hn (hl0 _)
            simp only [Bool.or_eq_true, decide_eq_true_eq] at h3
            omega
          subst hr
          clear HV
          go_wp2_with fail
          go_ret
          exact ⟨rfl, HE'.out.trans HE2.out⟩
        · intro x cc kl y1 y2 w3 cnt3 hkey hlk hv hat hrg3 hlt3 hg3 hs3 hen
          obtain ⟨x', ex, rfl, _⟩ := Maps.keyOf_int_inv Tryz.underlying3 hkey
          cases ex
          have hxL : x ∈ L := by
            obtain ⟨n, hn, e⟩ := HA.out _ (HK.out _ hlk)
            cases e; exact hn
          have HXL := Lib.hid hxL
          have HE3 := Lib.hid (ext_turned HE2.out hg3 HE.out.size)
          have l1 : w3.cell? ⟨w.heap.size, 1, none⟩ = some (.int .i64 t.lo) := k1 w3 HE3.out 1
          have l2 : w3.cell? ⟨w.heap.size, 2, none⟩ = some (.int .i64 t.hi) := k1 w3 HE3.out 2
          have HR8 : Hid (x < t.lo ∨ t.hi < x → res = 8) := Lib.hid fun h => by
            rw [HV.out]
            exact if_pos (List.any_eq_true.2 ⟨x, HXL.out, by simpa using h⟩)
          clear HV hxL hkey hlk hv hat
          by_cases hlo : x < t.lo
          · have d3 : decide (x < t.lo) = true := by simpa using hlo
            have hr := HR8.out (.inl hlo)
            subst hr
            clear HR8
            go_wp2_with fail
            go_ret
            exact ⟨rfl, HE'.out.trans HE3.out⟩
          have d3 : decide (x < t.lo) = false := by simpa using hlo
          by_cases hhi : t.hi < x
          · have d4 : decide (t.hi < x) = true := by simpa using hhi
            have hr := HR8.out (.inr hhi)
            subst hr
            clear HR8
            go_wp2_with fail
            go_ret
            exact ⟨rfl, HE'.out.trans HE3.out⟩
          have d4 : decide (t.hi < x) = false := by simpa using hhi
          go_wp2_with fail
          go_roundw
          case rel =>
            refine ⟨_, cnt3, hrg3, Lib.hid fun z hz h => ?_, Lib.hid fun kl h => HK.out kl (by simp only [Bool.and_eq_true] at h; exact h.1), HE3⟩
            by_cases hzx : z = x
            · subst hzx; omega
            · refine HB.out z hz ?_
              simpa [Lit.sameKey, hzx] using h
          case measure => rw [hrg3.left_eq, hrg.left_eq]; exact hlt3
end Go.Proofs.YtelkpflpgpdkdaaGreatDoor


