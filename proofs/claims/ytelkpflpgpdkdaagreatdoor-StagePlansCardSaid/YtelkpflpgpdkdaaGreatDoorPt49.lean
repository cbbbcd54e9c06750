/- Part 49 of what StageOrder and StagePlans ask: for every input each returns true, and its input reads as it did. No condition. -/
import Derived.Test.YtelkpflpgpdkdaaGreatDoorPt38
import Derived.Test.YtelkpflpgpdkdaaGreatDoorPt42
import Derived.Test.YtelkpflpgpdkdaaGreatDoorPt43
import Derived.Test.YtelkpflpgpdkdaaGreatDoorPt45
import Derived.Test.YtelkpflpgpdkdaaGreatDoorPt48
namespace Go.Proofs.YtelkpflpgpdkdaaGreatDoor
open Go Go.Sv Go.RowKit Go.ChangeShapes Go.WideShapes Go.ChangeAt
theorem SoQover : Rows.StageOrderSaid :=
  OpenClaim.holds_of_wide 3 Tryz.f3 rfl rfl rfl rfl rfl rfl rfl ⟨rfl, rfl, rfl, rfl, rfl⟩ rfl rfl rfl rfl rfl (by kernel_rfl) Tryz.func3 SoQjf
    (of_decide_eq_true (by kernel_rfl)) (by unfold Func.isWrapper; rw [if_neg (of_decide_eq_false (by kernel_rfl))]; exact ⟨rfl, rfl⟩)
    (fun os started H enc _ => SoQLifted os started H enc)
theorem stageOrderProved : Rows.StageOrderCardSaid :=
  Claim7.holds_tied_plain_at .later [] [.data, .data, .data] true (true, "f8e45dcdca0f8d28e01e47bde2c6edfe48f67cfed5d21cc202f21a1aa7860c78") false
    SoQover (fun _ h => by cases h) (by kernel_rfl) (fun _ h => by cases h) stageOrder_row_tie rfl ⟨rfl, rfl⟩ (by kernel_rfl) rfl
    (fun f fn hf hfn => by
      obtain rfl : f = 3 := Option.some.inj ((show Tryz.prog.funcNamed "cabochon/cabochonlaw22.StageOrder" = some 3 by kernel_rfl).symm.trans hf) |>.symm
      obtain rfl : fn = Tryz.f3 := (Option.some.inj (Tryz.func3.symm.trans hfn)).symm
      exact ⟨by kernel_rfl, fun j t ht => by
        rw [Tryz.params3] at ht
        have hm : t ∈ [3, 22] := by simpa using Array.mem_of_getElem? ht
        have hall : ([3, 22].all fun u => !Tryz.prog.wantsStandIn u) = true := by kernel_rfl
        exact (show Tryz.prog.wantsStandIn t = false by simpa using List.all_eq_true.1 hall t hm)⟩)
    (by kernel_rfl)
end Go.Proofs.YtelkpflpgpdkdaaGreatDoor
namespace Go.Proofs.YtelkpflpgpdkdaaGreatDoor
open Go.Sv
set_option maxRecDepth 10000
open Go.RowKit
set_option maxHeartbeats 1000000 in
theorem rRightPC (p : PlanP) (hl : p.stages.length ≤ 1000000) (hl2 : p.log.length ≤ 1000000) : ∀ n, Con Tryz.prog 19 [agD (planF p)] [] n (bT (planRight p)) [] n := by
  refine fnI Tryz.func19 Tryz.ntmps19 (h := fun S w0 β0 X => ?_)
  have hmost : mostN = 1099511627776 := rfl
  have hR := (rfl : planRight p = planRight p)
  conv at hR => rhs; rw [planRight, betwE, betwE]
  refine GO ?_
  refine W.cond rfl (fun h => ?_) (fun h => ?_)
  · refine GO ?_
    exact finB (he := by rw [hR]; grind)
  have h0 : 1 ≤ p.stages.length ∧ p.stages.length ≤ 4 ∧ p.log.length ≤ 256 ∧ 0 ≤ p.epoch ∧ p.epoch ≤ mostN ∧ 0 ≤ p.seq ∧ p.seq ≤ mostN := by grind
  refine GO ?_
  refine W.lpG (fun k => k ≤ p.stages.length ∧ ∀ x ∈ p.stages.take k, -1 ≤ x) (fun k => [(3, iT (k : Int))]) [(1, _)] (fun _ => []) [(0, _)] (p.stages.length - ·) 0 (⟨Nat.zero_le _, nofun⟩) (round := fun k hk => ?_)
  by_cases hlt : k < p.stages.length
  · have hx := List.getElem?_eq_getElem hlt
    generalize p.stages[k] = x at hx
    refine GO ?_
    refine W.cond rfl (fun h1 => ?_) (fun h1 => ?_)
    · have h1 : x < -1 := by simpa using h1
      refine GO ?_
      exact finB (he := by
        rw [hR, show p.stages.all (fun x => decide (-1 ≤ x)) = false from Bool.eq_false_iff.2 fun hc => by
          have := List.all_eq_true.1 hc x (List.mem_of_getElem? hx)
          simp at this; omega]
        simp)
    · have h1 : -1 ≤ x := by simp at h1; omega
      refine GO ?_
      exact W.ag (k + 1) ⟨hlt, fun y hy => by
        rw [List.take_add_one, hx] at hy
        rcases List.mem_append.1 hy with hy | hy
        · exact hk.2 y hy
        · simp at hy; rw [hy]; exact h1⟩ (by omega)
  obtain rfl : k = p.stages.length := by omega
  have hst := hk.2
  rw [List.take_length] at hst
  refine GO ?_
  refine W.lpG (fun k => k ≤ p.log.length ∧ ∀ x ∈ p.log.take k, stepBad p x = false) (fun k => [(4, iT (k : Int))]) [(1, _)] (fun _ => []) [(0, _)] (p.log.length - ·) 0 (⟨Nat.zero_le _, nofun⟩) (round := fun k hk => ?_)
  by_cases hlt : k < p.log.length
  · have hx := List.getElem?_eq_getElem hlt
    generalize p.log[k] = x at hx
    have hbx := (rfl : stepBad p x = stepBad p x)
    conv at hbx => rhs; rw [stepBad, betwE, betwE]
    refine GO ?_
    refine W.cond rfl (fun h1 => ?_) (fun h1 => ?_)
    · have h1 : stepBad p x = true := by rw [hbx]; grind
      refine GO ?_
      exact finB (he := by
        rw [hR, show p.log.any (stepBad p) = true from List.any_eq_true.2 ⟨x, List.mem_of_getElem? hx, h1⟩]
        simp)
    · have h1 : stepBad p x = false := by rw [hbx]; grind
      refine GO ?_
      exact W.ag (k + 1) ⟨hlt, fun y hy => by
        rw [List.take_add_one, hx] at hy
        rcases List.mem_append.1 hy with hy | hy
        · exact hk.2 y hy
        · simp at hy; rw [hy]; exact h1⟩ (by omega)
  obtain rfl : k = p.log.length := by omega
  have hlg := hk.2
  rw [List.take_length] at hlg
  refine GO ?_
  exact finB (he := by
    rw [hR, show p.stages.all (fun x => decide (-1 ≤ x)) = true from List.all_eq_true.2 fun x hx => by simpa using hst x hx, show p.log.any (stepBad p) = false from List.any_eq_false.2 fun x hx => by rw [hlg x hx]; simp]
    grind)
set_option maxHeartbeats 1000000 in
theorem rputC (p : PlanP) (k : Nat) (c : Int) (hk : k < p.stages.length) (hl : p.stages.length ≤ 1000000) (hl2 : p.log.length ≤ 1000000) : ∀ n, Con Tryz.prog 40 [agD (planF p), iT (k : Int), iT c] [] n (agD (planF (putE p k c))) [] n := by
  refine fnI Tryz.func40 Tryz.ntmps40 (h := fun S w0 β0 X => ?_)
  have hkl : k < (p.stages.map fun s => [i64 s]).length := by rw [List.length_map]; exact hk
  have hsl : (p.stages.map fun s => [i64 s]).length ≤ 1000000 := by rw [List.length_map]; exact hl
  have hll : (p.log.map stepF).length ≤ 1000000 := by rw [List.length_map]; exact hl2
  refine GO ?_
  refine Ch.apA (ls2 := p.stages.map fun s => [i64 s]) (hb := by simp; omega) (r := ?_)
  rw [List.nil_append]
  refine GO ?_
  refine Ch.r (OpT.indexW hkl) ⟨rfl, rfl, trivial⟩ rfl ?_
  refine Ch.storeW (v := [i64 c]) (hj := hkl) (r := ?_)
  refine GO ?_
  refine Ch.apA (ls2 := p.log.map stepF) (hb := by simp; omega) (r := ?_)
  rw [List.nil_append]
  refine GO ?_
  refine Ch.p (OpT.slice1' (hs := asAg (l := [i64 p.epoch, i64 (k : Int), i64 c]) rfl)) ⟨rfl, trivial⟩ ?_
  refine GO ?_
  rw [show (p.stages.map fun s => [i64 s]).set k [i64 c] = (p.stages.set k c).map fun s => [i64 s] by rw [List.map_set]]
  rw [show p.log.map stepF ++ [[i64 p.epoch, i64 (k : Int), i64 c]] = (p.log ++ [(⟨p.epoch, k, c⟩ : StepP)]).map stepF by rw [List.map_append]; rfl]
  refine W.frz 3 (h := ?_)
  refine W.frz 6 (h := ?_)
  exact fin1
end Go.Proofs.YtelkpflpgpdkdaaGreatDoor
namespace Go.Proofs.YtelkpflpgpdkdaaGreatDoor
open Go.Sv
set_option maxRecDepth 10000
open Go.RowKit
set_option maxHeartbeats 1000000 in
theorem rWasC (p : PlanP) (e k c : Int) (hl2 : p.log.length ≤ 1000000) : ∀ n, Con Tryz.prog 22 [agD (planF p), iT e, iT k, iT c] [] n (bT (wasE p e k c)) [] n := by
  refine fnI Tryz.func22 Tryz.ntmps22 (h := fun S w0 β0 X => ?_)
  refine GO ?_
  refine W.lpG (fun j => j ≤ p.log.length ∧ ∀ y ∈ p.log.take j, stepIs ⟨e, k, c⟩ y = false) (fun j => [(9, iT (j : Int))]) [(1, _), (2, _), (3, _), (4, _)] (fun _ => []) [(0, _)] (p.log.length - ·) 0 (⟨Nat.zero_le _, nofun⟩) (round := fun j hj => ?_)
  by_cases hlt : j < p.log.length
  · have hx := List.getElem?_eq_getElem hlt
    generalize p.log[j] = x at hx
    have hbx := (rfl : stepIs ⟨e, k, c⟩ x = stepIs ⟨e, k, c⟩ x)
    conv at hbx => rhs; rw [stepIs]
    simp only at hbx
    refine GO ?_
    refine W.cond rfl (fun h1 => ?_) (fun h1 => ?_)
    · have h1 : stepIs ⟨e, k, c⟩ x = true := by rw [hbx]; grind
      refine GO ?_
      exact finB (he := by rw [wasE, List.any_eq_true.2 ⟨x, List.mem_of_getElem? hx, h1⟩])
    · have h1 : stepIs ⟨e, k, c⟩ x = false := by rw [hbx]; grind
      refine GO ?_
      exact W.ag (j + 1) (⟨hlt, take_all_succ hx h1 hj.2⟩) (by omega)
  obtain rfl : j = p.log.length := by omega
  have hlg := hj.2
  rw [List.take_length] at hlg
  refine GO ?_
  exact finB (he := by rw [wasE, List.any_eq_false.2 fun x hx => by rw [hlg x hx]; simp])
set_option maxHeartbeats 1000000 in
theorem rReleaseC (p : PlanP) (c : Int) (hl : p.stages.length ≤ 1000000) (hl2 : p.log.length ≤ 1000000) : ∀ n, Con Tryz.prog 14 [agD (planF p), iT c] [] n (planU (relE p c)) [] n := by
  refine fnI Tryz.func14 Tryz.ntmps14 (h := fun S w0 β0 X => ?_)
  have hmost : mostN = 1099511627776 := rfl
  have hq := (rfl : relE p c = relE p c)
  conv at hq => rhs; rw [relE, stepE]
  have hrp := @planR_parts p
  have hrr := rRightPC p hl hl2
  generalize planRight p = b at *
  refine GO ?_
  refine Ch.c (hrr) (r := ?_)
  refine GO ?_
  refine W.cond rfl (fun h => ?_) (fun h => ?_)
  · rw [if_pos (by simpa using h)] at hq
    rw [hq]
    refine GO ?_
    exact fin2
  rw [if_neg (by simpa using h)] at hq
  obtain ⟨q1, q2, q3, q4, q5, q6, q7, _⟩ := hrp (by grind)
  refine GO ?_
  refine W.cond rfl (fun h1 => ?_) (fun h1 => ?_)
  · have h1 : roomE p 1 = 2 := if_pos (by grind)
    rw [h1, if_pos (by decide)] at hq
    rw [hq]
    refine GO ?_
    exact fin2
  have hs : p.log.length < 256 ∧ p.seq < 1099511627776 := by grind
  have h1 : roomE p 1 = 0 := if_neg (by omega)
  rw [h1, if_neg (by decide)] at hq
  rw [hq]
  have hput := rputC p 0 c (by omega) hl hl2
  rw [putE] at hput
  refine GO ?_
  refine Ch.c (hput) (r := ?_)
  refine GO ?_
  refine Ch.p (OpT.ar (a := p.seq) (b := 1) (c := p.seq + 1) rfl (by omega)) ⟨rfl, rfl, trivial⟩ ?_
  refine GO ?_
  exact fin2
set_option maxHeartbeats 1000000 in
theorem rPromoteC (p : PlanP) (k a m : Int) (hl : p.stages.length ≤ 1000000) (hl2 : p.log.length ≤ 1000000) : ∀ n, Con Tryz.prog 15 [agD (planF p), iT k, iT a, iT m] [] n (planU (proE p k a m)) [] n := by
  refine fnI Tryz.func15 Tryz.ntmps15 (h := fun S w0 β0 X => ?_)
  have hmost : mostN = 1099511627776 := rfl
  have hq := (rfl : proE p k a m = proE p k a m)
  conv at hq => rhs; rw [proE, stepE]
  have hrp := @planR_parts p
  have hrr := rRightPC p hl hl2
  have hbe := (rfl : betwE k ((p.stages.length : Int) - 2) = betwE k ((p.stages.length : Int) - 2))
  conv at hbe => rhs; rw [betwE]
  generalize betwE k ((p.stages.length : Int) - 2) = wi at *
  generalize planRight p = b at *
  refine GO ?_
  refine Ch.c (hrr) (r := ?_)
  refine GO ?_
  refine W.cond rfl (fun h => ?_) (fun h => ?_)
  · rw [if_pos (by grind)] at hq
    rw [hq]
    refine GO ?_
    exact fin2
  rw [if_neg (by grind)] at hq
  have hw2 : 0 ≤ k ∧ k ≤ (p.stages.length : Int) - 2 := by grind
  obtain ⟨q1, q2, q3, q4, q5, q6, q7, _⟩ := hrp (by grind)
  obtain ⟨kn, rfl⟩ := Int.eq_ofNat_of_zero_le hw2.1
  have hkl : kn < p.stages.length := by omega
  have hv := List.getElem?_eq_getElem hkl
  generalize p.stages[kn] = v at hv
  rw [Int.toNat_natCast, show p.stages.getD kn 0 = v by simp [hv]] at hq
  refine GO ?_
  refine W.cond rfl (fun h1 => ?_) (fun h1 => ?_)
  · rw [if_pos (by simpa using h1)] at hq
    rw [hq]
    refine GO ?_
    exact fin2
  rw [if_neg (by simpa using h1)] at hq
  refine GO ?_
  refine W.cond rfl (fun h2 => ?_) (fun h2 => ?_)
  · rw [if_pos (by simpa using h2)] at hq
    rw [hq]
    refine GO ?_
    exact fin2
  rw [if_neg (by simpa using h2)] at hq
  refine GO ?_
  refine W.cond rfl (fun h3 => ?_) (fun h3 => ?_)
  · have h3 : roomE p 1 = 2 := if_pos (by grind)
    rw [h3, if_pos (by decide)] at hq
    rw [hq]
    refine GO ?_
    exact fin2
  have hs : p.log.length < 256 ∧ p.seq < 1099511627776 := by grind
  have h3 : roomE p 1 = 0 := if_neg (by omega)
  rw [h3, if_neg (by decide), show ((kn : Int) + 1).toNat = kn + 1 by omega] at hq
  rw [hq]
  have hput := rputC p (kn + 1) v (by omega) hl hl2
  rw [putE] at hput
  refine GO ?_
  refine Ch.c (hput) (r := ?_)
  refine GO ?_
  refine Ch.p (OpT.ar (a := p.seq) (b := 1) (c := p.seq + 1) rfl (by omega)) ⟨rfl, rfl, trivial⟩ ?_
  refine GO ?_
  exact fin2
set_option maxHeartbeats 1000000 in
theorem rPollC (p : PlanP) (kt : Int) (a : AgentP) (hl : p.stages.length ≤ 1000000) (hl2 : p.log.length ≤ 1000000) : ∀ n, Con Tryz.prog 18 [agD (planF p), iT kt, agD (agentF a)] [] n (msgU (pollE p kt a)) [] n := by
  refine fnI Tryz.func18 Tryz.ntmps18 (h := fun S w0 β0 X => ?_)
  have hq := (rfl : pollE p kt a = pollE p kt a)
  conv at hq => rhs; rw [pollE]
  have hrr := rRightPC p hl hl2
  have hbe := (rfl : betwE a.stage ((p.stages.length : Int) - 1) = betwE a.stage ((p.stages.length : Int) - 1))
  conv at hbe => rhs; rw [betwE]
  generalize betwE a.stage ((p.stages.length : Int) - 1) = wi at *
  generalize planRight p = b at *
  refine GO ?_
  refine Ch.c (hrr) (r := ?_)
  refine GO ?_
  refine W.cond rfl (fun h => ?_) (fun h => ?_)
  · rw [if_pos (by grind)] at hq
    rw [hq]
    refine GO ?_
    exact fin2
  rw [if_neg (by grind)] at hq
  have hw2 : 0 ≤ a.stage ∧ a.stage ≤ (p.stages.length : Int) - 1 := by grind
  obtain ⟨kn, hk⟩ := Int.eq_ofNat_of_zero_le hw2.1
  have hkl : kn < p.stages.length := by omega
  have hv := List.getElem?_eq_getElem hkl
  generalize p.stages[kn] = v at hv
  rw [hk, Int.toNat_natCast, show p.stages.getD kn 0 = v by simp [hv]] at hq
  refine GO ?_
  refine Ch.p (OpT.indexR (j := kn) (v := v) (hij := hk) (hj := hv)) ⟨rfl, rfl, trivial⟩ ?_
  refine GO ?_
  refine W.cond rfl (fun h1 => ?_) (fun h1 => ?_)
  · rw [if_pos (by simpa using h1)] at hq
    rw [hq]
    refine GO ?_
    exact fin2
  rw [if_neg (by simpa using h1)] at hq
  rw [hq]
  refine GO ?_
  exact fin2
set_option maxHeartbeats 2000000 in
theorem rAcksC (p : PlanP) (l : List AgentP) (k : Int) (hll : l.length ≤ 1000000) : ∀ n, Con Tryz.prog 21 [agD (planF p), dT (sl 12 (l.map agentF)), iT k] [] n (iT ((acksE p l k : Nat) : Int)) [] n := by
  refine fnI Tryz.func21 Tryz.ntmps21 (h := fun S w0 β0 X => ?_)
  have hak := fun a => (rfl : ackE p k a = ackE p k a)
  conv at hak => intro a; rhs; rw [ackE, betwE]
  refine GO ?_
  refine W.lpG (fun a : Nat × Nat => a.1 ≤ l.length ∧ a.2 = ((l.take a.1).filter (ackE p k)).length) (fun a => [(7, iT (a.2 : Int)), (8, iT (a.1 : Int))]) [(1, _), (2, _), (3, _), (6, _)] (fun _ => []) [(0, _)] (fun a => l.length - a.1) (0, 0) (⟨Nat.zero_le _, rfl⟩) (round := fun a hI => ?_)
  obtain ⟨j, cnt⟩ := a
  obtain ⟨hj, hc⟩ := hI
  simp only at hj hc ⊢
  have hcl : ((l.take j).filter (ackE p k)).length ≤ j := Nat.le_trans (List.length_filter_le _ _) (by rw [List.length_take]; omega)
  refine GO ?_
  refine W.cond rfl (fun h0 => ?_) (fun h0 => ?_)
  · have h0 : j < l.length ∧ 0 ≤ k ∧ k < p.stages.length := by grind
    have hlt := h0.1
    have hx := List.getElem?_eq_getElem hlt
    generalize l[j] = a at hx
    have hn := filter_take (q := ackE p k) hx
    have hka := hak a
    obtain ⟨kn, rfl⟩ := Int.eq_ofNat_of_zero_le h0.2.1
    have hkl : kn < p.stages.length := by omega
    have hv := List.getElem?_eq_getElem hkl
    generalize p.stages[kn] = v at hv
    rw [Int.toNat_natCast, show p.stages.getD kn 0 = v by simp [hv]] at hka
    refine GO ?_
    refine W.cond rfl (fun h => ?_) (fun h => ?_)
    · have h2 : ackE p kn a = true := by rw [hka]; grind
      rw [if_pos h2] at hn
      refine GO ?_
      exact W.ag (j + 1, cnt + 1) ⟨hlt, by simp only; rw [hn, List.length_append, ← hc]; rfl⟩ (by simp only; omega)
    · have h2 : ackE p kn a = false := by rw [hka]; grind
      rw [if_neg (by rw [h2]; simp), List.append_nil] at hn
      refine GO ?_
      exact W.ag (j + 1, cnt) ⟨hlt, by simp only; rw [hn, ← hc]⟩ (by simp only; omega)
  · have h0 : j = l.length ∨ ¬ (0 ≤ k ∧ k < p.stages.length) := by grind
    refine GO ?_
    exact finI (he := by
      rw [acksE, hc]
      rcases h0 with rfl | h0
      · rw [List.take_length]
      · have hf : ∀ a, ackE p k a = false := fun a => by rw [hak]; grind
        rw [List.filter_eq_nil_iff.2 fun a _ => by rw [hf]; simp, List.filter_eq_nil_iff.2 fun a _ => by rw [hf]; simp])
end Go.Proofs.YtelkpflpgpdkdaaGreatDoor
namespace Go.Proofs.YtelkpflpgpdkdaaGreatDoor
open Go.Sv
set_option maxRecDepth 10000
open Go.RowKit
set_option maxHeartbeats 1000000 in
theorem rNewC (k : Int) : ∀ n, Con Tryz.prog 23 [iT k] [] n (agD (planF (newE k))) [] n := by
  refine fnI Tryz.func23 Tryz.ntmps23 (h := fun S w0 β0 X => ?_)
  obtain ⟨h1, h2⟩ := newN_le k
  have hnn : ((newN k : Nat) : Int) = if (if (4 : Int) < k then 4 else k) > 1 then (if (4 : Int) < k then 4 else k) else 1 := by unfold newN minI; split <;> split <;> omega
  have st : Stop 2 := ⟨⟩
  refine GO ?_
  clear st
  refine W.nilB 1 2 3 1 (h := ?_)
  refine GO ?_
  refine W.lpG ((· ≤ newN k)) (fun i => [(4, iT (i : Int))]) [(0, _), (2, _), (3, _)] (fun i => [(2, .row 3 1 (List.replicate i [i64 (-1)]))]) [(0, _), (1, _)] (newN k - ·) 0 (Nat.zero_le _) (round := fun i hi => ?_)
  have hil : (List.replicate i [i64 (-1)]).length = i := List.length_replicate ..
  by_cases hlt : i < newN k
  · refine GO ?_
    refine Ch.p OpT.min ⟨rfl, rfl, trivial⟩ ?_
    refine GO ?_
    rw [← hnn]
    refine GO ?_
    rw [show List.replicate i [i64 (-1)] ++ [[lit (.int .i64 (-1)) rfl]] = List.replicate (i + 1) [i64 (-1)] from (List.replicate_succ' ..).symm]
    refine W.swap 2 3 (h := ?_)
    exact W.ag (i + 1) (hlt) (by omega)
  · obtain rfl : i = newN k := by omega
    refine GO ?_
    refine Ch.p OpT.min ⟨rfl, rfl, trivial⟩ ?_
    refine GO ?_
    rw [← hnn]
    refine GO ?_
    rw [show List.replicate (newN k) [i64 (-1)] = (List.replicate (newN k) (-1 : Int)).map (fun s => [i64 s]) by rw [List.map_replicate]]
    refine W.frz 2 (h := ?_)
    rw [newE]
    refine W.boxL 0 (planN (List.replicate (newN k) (-1))) (planF ⟨0, 0, List.replicate (newN k) (-1), []⟩) (nil_plan _) (h := ?_)
    exact fin1
end Go.Proofs.YtelkpflpgpdkdaaGreatDoor
namespace Go.Proofs.YtelkpflpgpdkdaaGreatDoor
open Go.Sv
set_option maxRecDepth 10000
open Go.RowKit
set_option maxHeartbeats 2000000 in
theorem rRollC (p : PlanP) (c : Int) (hl : p.stages.length ≤ 1000000) (hl2 : p.log.length ≤ 1000000) : ∀ n, Con Tryz.prog 16 [agD (planF p), iT c] [] n (planU (rollE p c)) [] n := by
  refine fnI Tryz.func16 Tryz.ntmps16 (h := fun S w0 β0 X => ?_)
  have hmost : mostN = 1099511627776 := rfl
  have hq := (rfl : rollE p c = rollE p c)
  conv at hq => rhs; rw [rollE]
  have hrp := @planR_parts p
  have hrr := rRightPC p hl hl2
  have hany := (rfl : (p.log.any fun s => decide (s.commit = c)) = (p.log.any fun s => decide (s.commit = c)))
  generalize planRight p = b at *
  refine GO ?_
  refine Ch.c (hrr) (r := ?_)
  refine GO ?_
  refine W.cond rfl (fun h => ?_) (fun h => ?_)
  · rw [if_pos (by simpa using h)] at hq
    rw [hq]
    refine GO ?_
    exact fin2
  rw [if_neg (by simpa using h)] at hq
  obtain ⟨q1, q2, q3, q4, q5, q6, q7, _⟩ := hrp (by simpa using h)
  refine GO ?_
  refine W.lpG (fun a : Nat × Bool => a.1 ≤ p.log.length ∧ a.2 = (p.log.take a.1).any (fun s => decide (s.commit = c))) (fun a => [(6, bT a.2), (7, iT (a.1 : Int))]) [(1, _), (2, _), (4, _), (5, _)] (fun _ => []) [(0, _), (1, _)] (fun a => p.log.length - a.1) (0, false) (⟨Nat.zero_le _, rfl⟩) (round := fun a hI => ?_)
  obtain ⟨j, w⟩ := a
  obtain ⟨hj, hw⟩ := hI
  simp only at hj hw ⊢
  by_cases hlt : j < p.log.length
  · have hx := List.getElem?_eq_getElem hlt
    generalize p.log[j] = x at hx
    refine GO ?_
    exact W.ag (j + 1, w || decide (x.commit = c)) ⟨hlt, by simp only; rw [List.take_add_one, hx, List.any_append, ← hw]; simp⟩ (by simp only; omega)
  obtain rfl : j = p.log.length := by omega
  rw [List.take_length] at hw
  rw [← hw] at hq
  clear hw hany
  refine GO ?_
  refine W.cond rfl (fun h1 => ?_) (fun h1 => ?_)
  · rw [if_pos (by simpa using h1)] at hq
    rw [hq]
    refine GO ?_
    exact fin2
  rw [if_neg (by simpa using h1)] at hq
  refine GO ?_
  refine W.cond rfl (fun h2 => ?_) (fun h2 => ?_)
  · have h2 : mostN ≤ p.epoch ∨ roomE p p.stages.length ≠ 0 := by
      by_cases h3 : mostN ≤ p.epoch
      · exact .inl h3
      · refine .inr ?_
        unfold roomE
        rw [if_pos (by grind)]; decide
    rw [if_pos h2] at hq
    rw [hq]
    refine GO ?_
    exact fin2
  have hs : p.log.length + p.stages.length ≤ 256 ∧ p.seq < 1099511627776 ∧ p.epoch < 1099511627776 := by grind
  have h2 : ¬ (mostN ≤ p.epoch ∨ roomE p p.stages.length ≠ 0) := by
    rintro (h | h)
    · omega
    · exact h (if_neg (by omega))
  rw [if_neg h2] at hq
  rw [hq]
  have hpl := puts_len c (upP p)
  rw [show (upP p).stages.length = p.stages.length from rfl, show (upP p).log.length = p.log.length from rfl] at hpl
  refine GO ?_
  refine W.lpG ((· ≤ p.stages.length)) (fun k => [(9, iT (k : Int))]) [(1, _), (2, _), (4, _), (5, _), (8, _)] (fun k => [(2, .box 27 ((planF (putsE c k (upP p))).map C.d))]) [(0, _), (1, _)] (p.stages.length - ·) 0 (Nat.zero_le _) (round := fun k hk => ?_)
  by_cases hlt : k < p.stages.length
  · obtain ⟨g1, g2, _, _⟩ := hpl k
    have hput := rputC (putsE c k (upP p)) k c (by omega) (by omega) (by omega)
    rw [show putE (putsE c k (upP p)) k c = putsE c (k + 1) (upP p) from rfl] at hput
    refine GO ?_
    refine Ch.c (hput) (r := ?_)
    refine GO ?_
    exact W.ag (k + 1) (hlt) (by omega)
  obtain rfl : k = p.stages.length := by omega
  refine GO ?_
  exact fin2
theorem Con.borrowF {P : Program} {f : FuncId} {args args' : List T} {H0 : HL} {out : T} {n0 : Nat} (h : ∀ n, Con P f args' [] n out [] n) (ha : ∀ (β : Env) (S : List Nat) (w : World) (vs : List Value), Owns β n0 S H0 w → All2 (fun t v => T.is β (View β H0 S w) t v) args vs → All2 (fun t v => T.is β (View β [] S w) t v) args' vs) (hk0 : out.keys = []) (hx : ∀ β β' w w' v, out.is β w v → out.is β' w' v) : Con P f args H0 n0 out H0 n0 :=
  ⟨(h n0).1, Nat.le_refl _, fun β S w vs hv hO => by
    have hV : Sub (View β H0 S w) (View β [] S w) := hide_sub (Kept.refl [] w) fun q _ hq => ⟨by simp, fun hm => hq (List.mem_append_right _ hm)⟩
    refine ((h n0).2.2 β S w vs (ha β S w _ hO.toOwns hv) ⟨⟨nofun, nofun, nofun, hO.lt⟩, hO.gl.mono hV⟩).mono ?_
    rintro e w' ⟨v, β', h1, h2, h3, h4, h5, h6, h7⟩
    have hk : Kept [] w w' := ⟨h2.os, h2.tape, h2.output, h2.size, fun k hk _ => h2.block k hk (by simp [blks])⟩
    have hV2 : Sub (View β H0 S w) (View β H0 S w') := hide_sub hk fun q _ hq => ⟨by simp, hq⟩
    refine ⟨v, β, h1, ⟨hk.os, hk.tape, hk.output, hk.size, fun k hk' _ => hk.block k hk' (by simp)⟩, fun _ _ => rfl, bel0 hk0, hx _ _ _ _ _ h5, ⟨fun e he => ?_, hO.apart, hO.out, fun b hb => Nat.lt_of_lt_of_le (hO.lt b hb) hk.size⟩, fun b hb => .inl hb⟩
    obtain ⟨k1, k2, k3⟩ := hO.is e he
    exact ⟨k1, k2, Own.keep (fun _ _ => rfl) hV2 (fun b _ x hx => hk.heap (by simp) hx) k3⟩⟩
theorem row_lend {β : Env} {H : HL} {S : List Nat} {w : World} {n κ e k : Nat} {ls : List (List D)} {v : Value} (hO : Owns β n S H w) (hm : (κ, Own.row e k ls) ∈ H) (h : v = β κ) : (sl k ls).is (View β [] S w) v := by
  have hV : Sub (View β H S w) (View β [] S w) := hide_sub (Kept.refl [] w) fun q _ hq => ⟨by simp, fun hm => hq (List.mem_append_right _ hm)⟩
  obtain ⟨_, _, h3⟩ := hO.is _ hm
  rw [h]
  refine row_sl hV h3 fun g hg => ?_
  have hn := hO.out g (mem_blks.2 ⟨_, hm, hg⟩)
  show (hide ([] ++ S) w).heap[g]? = _
  rw [hide_at, List.nil_append]
  cases w.heap[g]? with
  | none => rfl
  | some x => simp [hn]
theorem rsameOC (p q : PlanP) (hl : p.stages.length ≤ 1000000) (hl2 : p.log.length ≤ 1000000) : Con Tryz.prog 10 [planO p, agD (planF q)] (planH p) 2 (bT (samePlan p q)) (planH p) 2 :=
  Con.borrowF (rsameC p q hl hl2) (fun β S w vs hO h => by
    have hV : Sub (View β (planH p) S w) (View β [] S w) := hide_sub (Kept.refl [] w) fun q _ hq => ⟨by simp, fun hm => hq (List.mem_append_right _ hm)⟩
    match vs, h with
    | [v, u], h =>
      obtain ⟨⟨us, e1, h1⟩, h2, _⟩ := h
      refine ⟨⟨us, e1, ?_⟩, T.keep (fun κ hκ => by rw [agD_keys] at hκ) hV h2, trivial⟩
      match us, h1 with
      | [a0, a1, a2, a3], h1 =>
        exact ⟨h1.1, h1.2.1, row_lend hO (List.mem_cons_self ..) h1.2.2.1.1, row_lend hO (List.mem_cons_of_mem _ (List.mem_cons_self ..)) h1.2.2.2.1.1, trivial⟩) rfl fun _ _ _ _ _ h => h
end Go.Proofs.YtelkpflpgpdkdaaGreatDoor
namespace Go.Proofs.YtelkpflpgpdkdaaGreatDoor
open Go.Sv
set_option maxRecDepth 10000
open Go.RowKit
theorem sfewPC (p : PlanP) : ∀ n, Con Tryz.prog 13 [agD (planF p)] [] n (bT (decide (p.stages.length ≤ 8) && decide (p.log.length ≤ 300))) [] n := by
  refine fnI Tryz.func13 Tryz.ntmps13 (h := fun S w0 β0 X => ?_)
  refine GO ?_
  exact finB (he := by grind)
theorem same_refl (p : PlanP) : samePlan p p = true := by simp [samePlan]
theorem msg_refl (m : MsgP) : msgIs m m = true := by simp [msgIs]
set_option maxHeartbeats 8000000 in
theorem stagePlansC (hR : RawH) (p : PlanP) (k c a : Int) (l : List AgentP) : ∀ n, Con Tryz.prog 4 [agD (planF p), iT k, iT c, iT a, dT (sl 12 (l.map agentF))] [] n (bT true) [] n := by
  refine fnI Tryz.func4 Tryz.ntmps4 (h := fun S w0 β0 X => ?_)
  have c1 := stSmallC hR
  have cf := sfewPC p
  have s11 : Stop 11 := ⟨⟩
  have s23 : Stop 23 := ⟨⟩
  refine GO ?_
  refine Ch.c (c1) (r := ?_)
  refine GO ?_
  refine Ch.c (cf) (r := ?_)
  refine GO ?_
  refine W.cond rfl (fun h => ?_) (fun h => ?_)
  · refine GO ?_
    exact finB (he := by rfl)
  have h : p.stages.length ≤ 8 ∧ p.log.length ≤ 300 ∧ l.length ≤ 20 := by grind
  have e1 := sreleaseC p c (by omega) (by omega)
  have e2 := rReleaseC p c (by omega) (by omega)
  have e3 := spromoteC p k a 2 (by omega) (by omega)
  have e4 := rPromoteC p k a 2 (by omega) (by omega)
  have e5 := srollC p c (by omega) (by omega)
  have e6 := rRollC p c (by omega) (by omega)
  have e7 := sRightPC p (by omega)
  have e8 := rRightPC p (by omega) (by omega)
  have e9 := sacksC p l k (by omega) (by omega)
  have e10 := rAcksC p l k (by omega)
  have e11 := swasC p a k c
  have e12 := rWasC p a k c (by omega)
  have e13 := snewC k
  have e14 := rNewC k
  have e15 := rsameC (newE k) (newE k) (by rw [newE, List.length_replicate]; have := newN_le k; omega) (Nat.zero_le _)
  rw [same_refl] at e15
  have hrl : (relE p c).1.stages.length = p.stages.length ∧ (relE p c).1.log.length ≤ 1000 := by
    unfold relE stepE
    split
    · exact ⟨rfl, by simp only; omega⟩
    split
    · exact ⟨rfl, by simp only; omega⟩
    · exact ⟨by simp, by simp; omega⟩
  have e16 := rsameOC (relE p c).1 (relE p c).1 (by omega) (by omega)
  have e16' := rsameC (relE p c).1 (relE p c).1 (by omega) (by omega)
  rw [same_refl] at e16 e16'
  have hpl : (proE p k a 2).1.stages.length ≤ 1000 ∧ (proE p k a 2).1.log.length ≤ 1000 := by
    unfold proE stepE
    repeat' split
    all_goals simp only [List.length_set, List.length_append, List.length_singleton]
    all_goals omega
  have e17 := rsameC (proE p k a 2).1 (proE p k a 2).1 (by omega) (by omega)
  rw [same_refl] at e17
  have hrol : (rollE p c).1.stages.length ≤ 1000 ∧ (rollE p c).1.log.length ≤ 1000 := by
    have := puts_len c (upP p) p.stages.length
    rw [show (upP p).stages.length = p.stages.length from rfl, show (upP p).log.length = p.log.length from rfl] at this
    unfold rollE
    repeat' split
    all_goals simp only
    all_goals omega
  have e18 := rsameC (rollE p c).1 (rollE p c).1 (by omega) (by omega)
  rw [same_refl] at e18
  have hpp := fun (j : Int) (x : AgentP) => spollC p j x (by omega)
  have hpr := fun (j : Int) (x : AgentP) => rPollC p j x (by omega) (by omega)
  generalize planRight p = rp at *
  generalize wasE p a k c = wz at *
  generalize newE k = nk at *
  generalize relE p c = A at *
  generalize proE p k a 2 = B at *
  generalize rollE p c = X at *
  refine GO ?_
  refine Ch.ch [] e1 (r := ?_)
  refine GO ?_
  refine Ch.c (e2) (r := ?_)
  refine GO ?_
  refine Ch.c (e3) (r := ?_)
  refine GO ?_
  refine Ch.c (e4) (r := ?_)
  refine GO ?_
  refine Ch.c (e5) (r := ?_)
  refine GO ?_
  refine Ch.c (e6) (r := ?_)
  refine GO ?_
  clear s11
  refine GO ?_
  refine Ch.ch [1, 2] e16 (r := ?_)
  refine GO ?_
  refine Ch.gc (hc := fun _ => e17) (r := ?_)
  refine GO ?_
  refine Ch.gc (hc := fun _ => e18) (r := ?_)
  refine GO ?_
  refine W.lpG (fun a : Nat × Bool => a.1 ≤ l.length ∧ a.2 = true) (fun a => [(25, bT a.2), (26, iT (a.1 : Int))]) [(1, _), (2, _), (3, _), (4, _), (5, _), (11, _), (13, _), (15, _)] (fun _ => []) [(0, _), (1, _), (2, _), (3, _), (4, _)] (fun a => l.length - a.1) (0, true && decide (A.2 = A.2) && true && decide (B.2 = B.2) && true && decide (X.2 = X.2)) (⟨Nat.zero_le _, by simp⟩) (round := fun b hI => ?_)
  obtain ⟨j, w⟩ := b
  obtain ⟨hj, rfl⟩ := hI
  simp only at hj ⊢
  by_cases hlt : j < l.length
  · have hx := List.getElem?_eq_getElem hlt
    generalize l[j] = x at hx
    have f1 := hpp j x
    have f2 := hpr j x
    generalize pollE p j x = m at *
    refine GO ?_
    refine Ch.c (f1) (r := ?_)
    refine GO ?_
    refine Ch.c (f2) (r := ?_)
    refine GO ?_
    refine Ch.g (h := fun _ => OpT.eqAg (A := msgI m.1) (B := msgI m.1) msgGuard (msg_eql m.1 m.1)) (r := ?_)
    refine GO ?_
    exact W.ag (j + 1, true && msgIs m.1 m.1 && decide (m.2 = m.2)) ⟨hlt, by simp [msg_refl]⟩ (by simp only; omega)
  obtain rfl : j = l.length := by omega
  refine GO ?_
  refine W.lpG ((· ≤ A.1.stages.length)) (fun j => [(31, iT (j : Int))]) [(1, _), (2, _), (3, _), (4, _), (5, _), (11, _), (13, _), (15, _), (25, _)] (fun j => [(1, .row 3 1 ((List.replicate j (-77) ++ A.1.stages.drop j).map fun s => [i64 s]))]) [(0, _), (2, _), (3, _), (4, _)] (A.1.stages.length - ·) 0 (Nat.zero_le _) (round := fun j hj => ?_)
  have hrl2 : ((List.replicate j (-77) ++ A.1.stages.drop j).map fun s => [i64 s]).length = A.1.stages.length := by simp; omega
  by_cases hlt : j < A.1.stages.length
  · have hjl : j < ((List.replicate j (-77) ++ A.1.stages.drop j).map fun s => [i64 s]).length := by omega
    have hset : ((List.replicate j (-77) ++ A.1.stages.drop j).map fun s => [i64 s]).set j [i64 (-77)] = (List.replicate (j + 1) (-77) ++ A.1.stages.drop (j + 1)).map fun s => [i64 s] := by
      rw [show [i64 (-77)] = (fun s : Int => [i64 s]) (-77) from rfl, ← List.map_set, List.set_append_right _ _ (by simp), List.length_replicate, Nat.sub_self, List.drop_eq_getElem_cons hlt, List.set_cons_zero, List.replicate_succ', List.append_assoc]
      rfl
    refine GO ?_
    refine Ch.r (OpT.indexW hjl) ⟨rfl, rfl, trivial⟩ rfl ?_
    refine Ch.storeW (v := [i64 (-77)]) (hj := hjl) (r := ?_)
    rw [hset]
    refine GO ?_
    exact W.ag (j + 1) (hlt) (by omega)
  obtain rfl : j = A.1.stages.length := by omega
  refine GO ?_
  refine Ch.ch [] e1 (r := ?_)
  refine GO ?_
  refine W.frz 9 (h := ?_)
  refine W.frz 10 (h := ?_)
  clear s23
  refine GO ?_
  refine Ch.gc (hc := fun _ => e16') (r := ?_)
  refine GO ?_
  refine Ch.gc (hc := fun _ => e7) (r := ?_)
  refine GO ?_
  refine Ch.gc (hc := fun _ => e8) (r := ?_)
  refine GO ?_
  refine Ch.g (h := fun _ => OpT.eqB Tryz.underlying4) (r := ?_)
  refine GO ?_
  refine Ch.gc (hc := fun _ => e9) (r := ?_)
  refine GO ?_
  refine Ch.gc (hc := fun _ => e10) (r := ?_)
  refine GO ?_
  refine Ch.gc (hc := fun _ => e11) (r := ?_)
  refine GO ?_
  refine Ch.gc (hc := fun _ => e12) (r := ?_)
  refine GO ?_
  refine Ch.g (h := fun _ => OpT.eqB Tryz.underlying4) (r := ?_)
  refine GO ?_
  refine Ch.gc (hc := fun _ => e13) (r := ?_)
  refine GO ?_
  refine Ch.gc (hc := fun _ => e14) (r := ?_)
  refine GO ?_
  refine Ch.gc (hc := fun _ => e15) (r := ?_)
  refine GO ?_
  exact finB (he := by simp)
end Go.Proofs.YtelkpflpgpdkdaaGreatDoor
