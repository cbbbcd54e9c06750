/- Part 31 of what StageOrder and StagePlans ask: for every input each returns true, and its input reads as it did. No condition. -/
import Derived.Test.YtelkpflpgpdkdaaGreatDoorPt23
import Derived.Test.YtelkpflpgpdkdaaGreatDoorPt24
import Derived.Test.YtelkpflpgpdkdaaGreatDoorPt25
import Derived.Test.YtelkpflpgpdkdaaGreatDoorPt26
import Derived.Test.YtelkpflpgpdkdaaGreatDoorPt27
import Derived.Test.YtelkpflpgpdkdaaGreatDoorPt28
import Derived.Test.YtelkpflpgpdkdaaGreatDoorPt30
import Derived.Test.YtelkpflpgpdkdaaGreatDoorProg
import Derived.Shelf.SlGeneric
import Derived.Shelf.LaysM
import Derived.Shelf.Strconv.Itoa3
import Derived.Shelf.SlSortCmp.WholeK
import Derived.Shelf.Small.Strs
import Derived.Shelf.Bits.Mul64
import Derived.Ground.NamesProg
import Derived.Ground.Names2Prog
import Derived.Ground.SlsfProg
namespace Go.Proofs.YtelkpflpgpdkdaaGreatDoor
open Go.Sv
open Go.RowKit
theorem indexStepC {ls : List (List D)} {xs : List StepP} [Row ls StepP xs stepF] (f : FuncId) (cs : List D) (p : StepP → Bool) (hc : ∀ x ∈ xs, ∀ n, Con Tryz.prog f ([agD (stepF x)] ++ cs.map dT) [] n (bT (p x)) [] n) : ∀ n, Con Tryz.prog 60 [dT (sl 3 ls), dT (cloD f cs)] [] n (iT (idxOf p xs)) [] n := by
  refine fnI Tryz.func60 Tryz.ntmps60 (h := fun S w0 β0 X => ?_)
  refine GO ?_
  refine W.len 6 (h := fun hl => ?_)
  refine W.lp (fun k => k ≤ xs.length ∧ ∀ y ∈ xs.take k, p y = false) (fun k => [(8, iT k)]) [(7, _), (0, _), (1, _)] (xs.length - ·) 0 ⟨Nat.zero_le _, nofun⟩ (round := fun k hk => ?_)
  by_cases hlt : k < xs.length
  · have hx := List.getElem?_eq_getElem hlt
    generalize xs[k] = x at hx
    refine GO ?_
    refine Ch.dy (hc x (List.mem_of_getElem? hx)) (r := ?_)
    cases hp : p x
    · refine GO ?_
      exact W.ag (k + 1) ⟨hlt, take_all_succ hx hp hk.2⟩ (by omega)
    · refine GO ?_
      exact fin1 (he := by rw [idxOf_at hx hp hk.2]; rfl)
  · obtain rfl : k = xs.length := by omega
    refine GO ?_
    exact fin1 (he := by rw [idxOf_none fun y hy => hk.2 y (by rwa [List.take_length])]; rfl)
theorem idxOf_nn {α : Type} (p : α → Bool) (l : List α) : decide (0 ≤ idxOf p l) = l.any p := by
  unfold idxOf
  split
  · rename_i h; rw [h]; simp
  · rename_i h; rw [Bool.eq_false_iff.2 h]; simp
theorem containsStepC (xs : List StepP) (f : FuncId) (cs : List D) (p : StepP → Bool) (hc : ∀ x ∈ xs, ∀ n, Con Tryz.prog f ([agD (stepF x)] ++ cs.map dT) [] n (bT (p x)) [] n) : ∀ n, Con Tryz.prog 33 [dT (sl 3 (xs.map stepF)), dT (cloD f cs)] [] n (bT (xs.any p)) [] n := by
  refine fnI Tryz.func33 Tryz.ntmps33 (h := fun S w0 β0 X => ?_)
  refine GO ?_
  refine Ch.c (indexStepC (xs := xs) f cs p hc) (r := ?_)
  refine GO ?_
  exact finB (he := by exact idxOf_nn p xs)
set_option maxRecDepth 10000 in
set_option maxHeartbeats 2000000 in
theorem sRightPC (p : PlanP) (hl : p.stages.length ≤ 1000000) : ∀ n, Con Tryz.prog 11 [agD (planF p)] [] n (bT (planRight p)) [] n := by
  refine fnI Tryz.func11 Tryz.ntmps11 (h := fun S w0 β0 X => ?_)
  have hm : mostN = 1099511627776 := rfl
  have st : Stop 5 := ⟨⟩
  refine GO ?_
  refine Ch.gc (hc := fun _ => swithinC p.epoch mostN) (r := ?_)
  refine GO ?_
  refine Ch.gc (hc := fun _ => swithinC p.seq mostN) (r := ?_)
  refine GO ?_
  refine W.cond rfl (fun h => ?_) (fun h => ?_)
  · refine GO ?_
    exact finB (he := by rw [planRight]; grind)
  have h0 : 1 ≤ p.stages.length ∧ p.stages.length ≤ 4 ∧ p.log.length ≤ 256 ∧ betwE p.epoch mostN = true ∧ betwE p.seq mostN = true := by grind
  refine GO ?_
  refine Ch.c (minC p.stages h0.1 hl) (r := ?_)
  refine GO ?_
  refine W.cond rfl (fun h1 => ?_) (fun h1 => ?_)
  · rw [min_all h0.1] at h1
    refine GO ?_
    exact finB (he := by rw [planRight]; grind)
  · rw [min_all h0.1] at h1
    refine GO ?_
    clear st
    refine W.frzB 0 (planF p) (h := ?_)
    refine GO ?_
    refine Ch.c (containsStepC p.log 38 [adr (planF p)] (stepBad p) fun x _ => sright1C p x hl) (r := ?_)
    refine GO ?_
    exact finB (he := by rw [planRight]; grind)
def stepIs (a b : StepP) : Bool := decide (a.epoch = b.epoch) && (decide (a.stage = b.stage) && decide (a.commit = b.commit))
end Go.Proofs.YtelkpflpgpdkdaaGreatDoor
namespace Go.Proofs.YtelkpflpgpdkdaaGreatDoor
open Go.Sv
open Go.RowKit
def stepI (a : StepP) : List Int := [a.epoch, a.stage, a.commit]
theorem stepGuard : Tryz.prog.eqGuardType Tryz.prog.depth 37 = false := by kernel_rfl
theorem stepFields : (Tryz.prog.fieldsOf 37).toList.map (fun f => (f.name, f.type, f.offset)) = [("Epoch", 3, 0), ("Stage", 3, 1), ("Commit", 3, 2)] := by kernel_rfl
theorem stepStood : Tryz.prog.stoodInHeld 37 = false := by kernel_rfl
theorem stepUnder : Tryz.prog.underlying 37 = some (.struct (Tryz.prog.fieldsOf 37)) := by kernel_rfl
theorem step_eqIn (x y : StepP) (w : World) : (Op.equalIn 10000 37 (.agg ((stepI x).map (Value.int .i64)).toArray) (.agg ((stepI y).map (Value.int .i64)).toArray)).run Tryz.prog w = .ok (stepIs x y) w := by
  obtain ⟨x0, x1, x2⟩ := x
  obtain ⟨y0, y1, y2⟩ := y
  rw [run_equalIn_struct w 9999 _ _ _ stepUnder stepStood]
  have hf := stepFields
  generalize (Tryz.prog.fieldsOf 37).toList = fs at hf
  rcases fs with _ | ⟨f0, _ | ⟨f1, _ | ⟨f2, _ | ⟨f3, fs⟩⟩⟩⟩ <;> simp at hf
  obtain ⟨⟨a1, a2, a3⟩, ⟨b1, b2, b3⟩, ⟨c1, c2, c3⟩⟩ := hf
  simp only [Op.eqFields, a1, a2, a3, b1, b2, b3, c1, c2, c3]
  have hi : Tryz.prog.underlying 3 = some (.int .i64) := by kernel_rfl
  simp [go_sem, stepI, stepIs]
  by_cases h0 : x0 = y0 <;> by_cases h1 : x1 = y1 <;> by_cases h2 : x2 = y2 <;> simp [h0, h1, h2]
theorem step_eql (x y : StepP) (w : World) : (binOp .eql 37 (.agg ((stepI x).map (Value.int .i64)).toArray) (.agg ((stepI y).map (Value.int .i64)).toArray)).run Tryz.prog w = .ok (.bool (stepIs x y)) w := by
  rw [run_eql_struct, step_eqIn]; rfl
theorem step_neq (x y : StepP) (w : World) : (binOp .neq 37 (.agg ((stepI x).map (Value.int .i64)).toArray) (.agg ((stepI y).map (Value.int .i64)).toArray)).run Tryz.prog w = .ok (.bool (!stepIs x y)) w := by
  rw [run_neq_struct, step_eqIn]; rfl
set_option maxRecDepth 10000 in
set_option maxHeartbeats 1000000 in
theorem idxStepC (xs : List StepP) (s : StepP) : ∀ n, Con Tryz.prog 61 [dT (sl 3 (xs.map stepF)), agD (stepF s)] [] n (iT (idxOf (fun x => stepIs s x) xs)) [] n := by
  refine fnI Tryz.func61 Tryz.ntmps61 (h := fun S w0 β0 X => ?_)
  refine GO ?_
  refine W.len 6 (h := fun hl => ?_)
  refine W.lpG (fun k => k ≤ xs.length ∧ ∀ y ∈ xs.take k, stepIs s y = false) (fun k => [(8, iT k)]) [(7, _), (0, _), (3, _)] (fun _ => []) [(0, _)] (xs.length - ·) 0 (⟨Nat.zero_le _, nofun⟩) (round := fun k hk => ?_)
  by_cases hlt : k < xs.length
  · have hx := List.getElem?_eq_getElem hlt
    generalize xs[k] = x at hx
    refine GO ?_
    refine Ch.p (OpT.eqAg (A := stepI s) (B := stepI x) stepGuard (step_eql s x)) ⟨rfl, rfl, trivial⟩ ?_
    refine GO ?_
    cases hp : stepIs s x
    · refine GO ?_
      exact W.ag (k + 1) (⟨hlt, take_all_succ hx hp hk.2⟩) (by omega)
    · refine GO ?_
      exact fin1 (he := by rw [idxOf_at hx hp hk.2]; rfl)
  · obtain rfl : k = xs.length := by omega
    refine GO ?_
    exact fin1 (he := by rw [idxOf_none fun y hy => hk.2 y (by rwa [List.take_length])]; rfl)
set_option maxRecDepth 10000 in
theorem hasStepC (xs : List StepP) (s : StepP) : ∀ n, Con Tryz.prog 39 [dT (sl 3 (xs.map stepF)), agD (stepF s)] [] n (bT (xs.any fun x => stepIs s x)) [] n := by
  refine fnI Tryz.func39 Tryz.ntmps39 (h := fun S w0 β0 X => ?_)
  refine GO ?_
  refine Ch.c (idxStepC xs s) (r := ?_)
  refine GO ?_
  exact finB (he := by exact idxOf_nn _ xs)
/-- As stage.Was says. -/
def wasE (p : PlanP) (e k c : Int) : Bool := p.log.any fun x => stepIs ⟨e, k, c⟩ x
set_option maxRecDepth 10000 in
theorem swasC (p : PlanP) (e k c : Int) : ∀ n, Con Tryz.prog 12 [agD (planF p), iT e, iT k, iT c] [] n (bT (wasE p e k c)) [] n := by
  refine fnI Tryz.func12 Tryz.ntmps12 (h := fun S w0 β0 X => ?_)
  refine GO ?_
  refine Ch.c (hasStepC p.log ⟨e, k, c⟩) (r := ?_)
  refine GO ?_
  exact fin1
end Go.Proofs.YtelkpflpgpdkdaaGreatDoor
namespace Go.Proofs.YtelkpflpgpdkdaaGreatDoor
open Go.Sv
set_option maxRecDepth 10000 in
theorem cloneStepC (ls : List (List D)) (hb : ls.length ≤ 34359738368) : Con Tryz.prog 91 [dT (sl 3 ls)] [] 0 (.one (.key 0)) [(0, .row 37 3 ls)] 1 := by
  refine fnH Tryz.func91 Tryz.ntmps91 (h := fun S w0 β0 X => ?_)
  refine GO ?_
  refine W.condNil rfl (fun h => ?_) ?_
  · subst h
    refine GO ?_
    refine W.nilT 2 37 3 (h := ?_)
    exact finH
  · cases ls with
    | nil =>
      refine GO ?_
      exact finH
    | cons l ls =>
      have hb' := hb
      rw [List.length_cons] at hb'
      refine GO ?_
      refine W.swap 0 1 (h := ?_)
      exact finH
set_option maxRecDepth 10000 in
theorem moreIntC (ls : List (List D)) (hb : ls.length ≤ 1000000) : Con Tryz.prog 58 [dT (sl 1 ls), dT nilD] [] 0 (.one (.key 0)) [(0, .row 3 1 ls)] 1 := by
  refine fnH Tryz.func58 Tryz.ntmps58 (h := fun S w0 β0 X => ?_)
  have st : Stop 1 := ⟨⟩
  refine GO ?_
  refine W.less 1 (sl 1 []) rfl (nil_sl 1) (h := ?_)
  clear st
  refine GO ?_
  refine Ch.ch [] (cloneIntC ls (by omega)) (r := ?_)
  refine GO ?_
  rw [List.append_nil]
  exact finH
set_option maxRecDepth 10000 in
theorem moreStepC (ls : List (List D)) (hb : ls.length ≤ 1000000) : Con Tryz.prog 59 [dT (sl 3 ls), dT nilD] [] 0 (.one (.key 0)) [(0, .row 37 3 ls)] 1 := by
  refine fnH Tryz.func59 Tryz.ntmps59 (h := fun S w0 β0 X => ?_)
  have st : Stop 1 := ⟨⟩
  refine GO ?_
  refine W.less 1 (sl 3 []) rfl (nil_sl 3) (h := ?_)
  clear st
  refine GO ?_
  refine Ch.ch [] (cloneStepC ls (by omega)) (r := ?_)
  refine GO ?_
  rw [List.append_nil]
  exact finH
/-- A plan whose rows are one's own. -/
abbrev planO (p : PlanP) : T := .ag [.d (i64 p.epoch), .d (i64 p.seq), .key 0, .key 1]
abbrev planH (p : PlanP) : HL := [(0, .row 3 1 (p.stages.map fun s => [i64 s])), (1, .row 37 3 (p.log.map stepF))]
set_option maxRecDepth 10000 in
theorem scopiedC (p : PlanP) (hl : p.stages.length ≤ 1000000) (hl2 : p.log.length ≤ 1000000) : Con Tryz.prog 30 [agD (planF p)] [] 0 (planO p) (planH p) 2 := by
  refine fnH Tryz.func30 Tryz.ntmps30 (h := fun S w0 β0 X => ?_)
  refine GO ?_
  refine Ch.ch [] (moreIntC (p.stages.map fun s => [i64 s]) (by rw [List.length_map]; omega)) (r := ?_)
  refine GO ?_
  refine Ch.ch [] (moreStepC (p.log.map stepF) (by rw [List.length_map]; omega)) (r := ?_)
  refine GO ?_
  refine W.swap 0 2 (h := ?_)
  refine W.swap 1 3 (h := ?_)
  exact finH
def putE (p : PlanP) (k : Nat) (c : Int) : PlanP := ⟨p.epoch, p.seq, p.stages.set k c, p.log ++ [⟨p.epoch, k, c⟩]⟩
set_option maxRecDepth 10000 in
set_option maxHeartbeats 1000000 in
theorem sputC (p : PlanP) (k : Nat) (c : Int) (hk : k < p.stages.length) (hl : p.stages.length ≤ 1000000) (hl2 : p.log.length ≤ 1000000) : Con Tryz.prog 36 [agD (planF p), iT (k : Int), iT c] [] 0 (planO (putE p k c)) (planH (putE p k c)) 2 := by
  refine fnH Tryz.func36 Tryz.ntmps36 (h := fun S w0 β0 X => ?_)
  have hkl : k < (p.stages.map fun s => [i64 s]).length := by rw [List.length_map]; exact hk
  have hll : (p.log.map stepF).length ≤ 1000000 := by rw [List.length_map]; exact hl2
  refine GO ?_
  refine Ch.ch [] (scopiedC p hl hl2) (r := ?_)
  refine GO ?_
  refine Ch.r (OpT.indexW hkl) ⟨rfl, rfl, trivial⟩ rfl ?_
  refine Ch.storeW (v := [i64 c]) (hj := hkl) (r := ?_)
  refine GO ?_
  refine Ch.p (OpT.slice1' (hs := asAg (l := [i64 p.epoch, i64 (k : Int), i64 c]) rfl)) ⟨rfl, trivial⟩ ?_
  refine GO ?_
  rw [show (p.stages.map fun s => [i64 s]).set k [i64 c] = (p.stages.set k c).map fun s => [i64 s] by rw [List.map_set]]
  rw [show p.log.map stepF ++ [[i64 p.epoch, i64 (k : Int), i64 c]] = (p.log ++ [(⟨p.epoch, k, c⟩ : StepP)]).map stepF by rw [List.map_append]; rfl]
  refine W.swap 0 2 (h := ?_)
  refine W.swap 1 4 (h := ?_)
  exact finH
set_option maxRecDepth 10000 in
theorem sroomC (p : PlanP) (m : Int) (hl2 : p.log.length ≤ 1000000) (hn : 0 ≤ m ∧ m ≤ 1000000) : ∀ n, Con Tryz.prog 35 [agD (planF p), iT m] [] n (iT (if 256 < (p.log.length : Int) + m ∨ mostN ≤ p.seq then 2 else 0)) [] n := by
  refine fnI Tryz.func35 Tryz.ntmps35 (h := fun S w0 β0 X => ?_)
  have hm : mostN = 1099511627776 := rfl
  refine GO ?_
  refine W.cond rfl (fun h => ?_) (fun h => ?_)
  · refine GO ?_
    exact finI (he := by rw [if_pos (by grind)])
  · refine GO ?_
    exact finI (he := by rw [if_neg (by grind)])
end Go.Proofs.YtelkpflpgpdkdaaGreatDoor
namespace Go.Proofs.YtelkpflpgpdkdaaGreatDoor
open Go.Sv
def roomE (p : PlanP) (n : Int) : Int := if 256 < (p.log.length : Int) + n ∨ mostN ≤ p.seq then 2 else 0
def stepE (p : PlanP) (k : Nat) (c : Int) : PlanP × Int := if roomE p 1 ≠ 0 then (p, roomE p 1) else (⟨p.epoch, p.seq + 1, p.stages.set k c, p.log ++ [⟨p.epoch, k, c⟩]⟩, 0)
def relE (p : PlanP) (c : Int) : PlanP × Int := if planRight p = false ∨ c < 0 then (p, 1) else stepE p 0 c
def proE (p : PlanP) (k acks need : Int) : PlanP × Int := if planRight p = false ∨ betwE k ((p.stages.length : Int) - 2) = false then (p, 1) else if p.stages.getD k.toNat 0 < 0 then (p, 3) else if acks < need then (p, 9) else stepE p (k + 1).toNat (p.stages.getD k.toNat 0)
abbrev planOU (q : PlanP × Int) : T := .tup [.ag [.d (i64 q.1.epoch), .d (i64 q.1.seq), .key 0, .key 1], .one (.d (i64 q.2))]
def planU (q : PlanP × Int) : T := .tup [.ag ((planF q.1).map C.d), .one (.d (i64 q.2))]
theorem planR_parts {p : PlanP} (h : planRight p = true) : 1 ≤ p.stages.length ∧ p.stages.length ≤ 4 ∧ p.log.length ≤ 256 ∧ 0 ≤ p.epoch ∧ p.epoch ≤ mostN ∧ 0 ≤ p.seq ∧ p.seq ≤ mostN ∧ (∀ x ∈ p.stages, -1 ≤ x) ∧ ∀ s ∈ p.log, stepBad p s = false := by
  simp only [planRight, betwE, Bool.and_eq_true, decide_eq_true_eq, List.all_eq_true, Bool.not_eq_true', List.any_eq_false] at h
  obtain ⟨⟨⟨⟨⟨⟨h1, h2⟩, h3⟩, h4, h5⟩, h6, h7⟩, h8⟩, h9⟩ := h
  exact ⟨h1, h2, h3, h4, h5, h6, h7, h8, fun s hs => by simpa using h9 s hs⟩
set_option maxRecDepth 10000 in
set_option maxHeartbeats 1000000 in
theorem sstepC (p : PlanP) (k : Nat) (c : Int) (hr : planRight p = true) (hk : k < p.stages.length) : Con Tryz.prog 31 [agD (planF p), iT (k : Int), iT c] [] 0 (planOU (stepE p k c)) (planH (stepE p k c).1) 2 := by
  refine fnH Tryz.func31 Tryz.ntmps31 (h := fun S w0 β0 X => ?_)
  have hm : mostN = 1099511627776 := rfl
  obtain ⟨h1, h2, h3, h4, h5, h6, h7, _⟩ := planR_parts hr
  have hroom := sroomC p 1 (by omega) (by omega)
  rw [show (if 256 < (p.log.length : Int) + 1 ∨ mostN ≤ p.seq then 2 else 0) = roomE p 1 from rfl] at hroom
  have hq := (rfl : stepE p k c = stepE p k c)
  conv at hq => rhs; rw [stepE]
  have hseq : roomE p 1 = 0 → p.seq < mostN := by unfold roomE; split <;> omega
  generalize roomE p 1 = rm at *
  refine GO ?_
  refine Ch.c (hroom) (r := ?_)
  refine GO ?_
  refine W.cond rfl (fun h => ?_) (fun h => ?_)
  · rw [if_pos (by simpa using h)] at hq
    rw [hq]
    refine GO ?_
    refine Ch.ch [] (scopiedC p (by omega) (by omega)) (r := ?_)
    refine GO ?_
    refine W.swap 0 2 (h := ?_)
    refine W.swap 1 3 (h := ?_)
    exact finH2
  · have h : rm = 0 := by simpa using h
    have hseq := hseq h
    rw [if_neg (by simpa using h)] at hq
    rw [hq]
    refine GO ?_
    refine Ch.ch [] (sputC p k c hk (by omega) (by omega)) (r := ?_)
    rw [putE]
    refine GO ?_
    refine Ch.p (OpT.ar (a := p.seq) (b := 1) (c := p.seq + 1) rfl (by omega)) ⟨rfl, rfl, trivial⟩ ?_
    refine GO ?_
    refine W.swap 0 2 (h := ?_)
    refine W.swap 1 3 (h := ?_)
    exact finH2
set_option maxRecDepth 10000 in
set_option maxHeartbeats 1000000 in
theorem sreleaseC (p : PlanP) (c : Int) (hl : p.stages.length ≤ 1000000) (hl2 : p.log.length ≤ 1000000) : Con Tryz.prog 7 [agD (planF p), iT c] [] 0 (planOU (relE p c)) (planH (relE p c).1) 2 := by
  refine fnH Tryz.func7 Tryz.ntmps7 (h := fun S w0 β0 X => ?_)
  have hq := (rfl : relE p c = relE p c)
  conv at hq => rhs; rw [relE]
  have hrp := @planR_parts p
  have hst := fun h1 h2 => sstepC p 0 c h1 h2
  refine GO ?_
  refine Ch.c (sRightPC p hl) (r := ?_)
  generalize planRight p = b at *
  refine GO ?_
  refine W.cond rfl (fun h => ?_) (fun h => ?_)
  · rw [if_pos (by simpa using h)] at hq
    rw [hq]
    refine GO ?_
    refine Ch.ch [] (scopiedC p hl hl2) (r := ?_)
    refine GO ?_
    refine W.swap 0 2 (h := ?_)
    refine W.swap 1 3 (h := ?_)
    exact finH2
  · rw [if_neg (by simpa using h)] at hq
    rw [hq]
    have hb : b = true := by grind
    obtain ⟨q1, _⟩ := hrp hb
    refine GO ?_
    refine Ch.ch [] (hst hb (by omega)) (r := ?_)
    generalize stepE p 0 c = e at *
    refine GO ?_
    refine W.swap 0 2 (h := ?_)
    refine W.swap 1 3 (h := ?_)
    exact finH2
end Go.Proofs.YtelkpflpgpdkdaaGreatDoor
namespace Go.Proofs.YtelkpflpgpdkdaaGreatDoor
open Go.Sv
set_option maxRecDepth 10000 in
set_option maxHeartbeats 2000000 in
theorem spromoteC (p : PlanP) (k a m : Int) (hl : p.stages.length ≤ 1000000) (hl2 : p.log.length ≤ 1000000) : ∀ n, Con Tryz.prog 8 [agD (planF p), iT k, iT a, iT m] [] n (planU (proE p k a m)) [] n := by
  refine fnI Tryz.func8 Tryz.ntmps8 (h := fun S w0 β0 X => ?_)
  have hq := (rfl : proE p k a m = proE p k a m)
  conv at hq => rhs; rw [proE]
  have hrp := @planR_parts p
  have hst := fun j c h1 h2 => sstepC p j c h1 h2
  have hwi := swithinC k ((p.stages.length : Int) - 2)
  have hbe := (rfl : betwE k ((p.stages.length : Int) - 2) = betwE k ((p.stages.length : Int) - 2))
  conv at hbe => rhs; rw [betwE]
  generalize betwE k ((p.stages.length : Int) - 2) = wi at *
  refine GO ?_
  refine Ch.c (sRightPC p hl) (r := ?_)
  generalize planRight p = b at *
  refine GO ?_
  refine Ch.gc (hc := fun _ => hwi) (r := ?_)
  refine GO ?_
  refine W.cond rfl (fun h => ?_) (fun h => ?_)
  · rw [if_pos (by grind)] at hq
    rw [hq]
    refine GO ?_
    refine Ch.ch [] (scopiedC p hl hl2) (r := ?_)
    refine GO ?_
    refine W.frz 2 (h := ?_)
    refine W.frz 3 (h := ?_)
    exact fin2
  rw [if_neg (by grind)] at hq
  have hb : b = true := by grind
  have hw2 : 0 ≤ k ∧ k ≤ (p.stages.length : Int) - 2 := by grind
  obtain ⟨q1, q2, _⟩ := hrp hb
  obtain ⟨kn, rfl⟩ := Int.eq_ofNat_of_zero_le hw2.1
  have hkl : kn < p.stages.length := by omega
  have hv := List.getElem?_eq_getElem hkl
  generalize p.stages[kn] = v at hv
  rw [Int.toNat_natCast, show p.stages.getD kn 0 = v by simp [hv]] at hq
  refine GO ?_
  refine W.cond rfl (fun h1 => ?_) (fun h1 => ?_)
  · rw [if_pos (by simpa using h1)] at hq
    rw [hq]
    refine GO ?_
    refine Ch.ch [] (scopiedC p hl hl2) (r := ?_)
    refine GO ?_
    refine W.frz 2 (h := ?_)
    refine W.frz 3 (h := ?_)
    exact fin2
  rw [if_neg (by simpa using h1)] at hq
  refine GO ?_
  refine W.cond rfl (fun h2 => ?_) (fun h2 => ?_)
  · rw [if_pos (by simpa using h2)] at hq
    rw [hq]
    refine GO ?_
    refine Ch.ch [] (scopiedC p hl hl2) (r := ?_)
    refine GO ?_
    refine W.frz 2 (h := ?_)
    refine W.frz 3 (h := ?_)
    exact fin2
  rw [if_neg (by simpa using h2)] at hq
  rw [hq]
  have hs := hst (kn + 1) v hb (by omega)
  rw [show ((kn : Int) + 1).toNat = kn + 1 by omega]
  generalize stepE p (kn + 1) v = e at *
  refine GO ?_
  refine Ch.ch [] hs (r := ?_)
  refine GO ?_
  refine W.frz 2 (h := ?_)
  refine W.frz 3 (h := ?_)
  exact fin2
end Go.Proofs.YtelkpflpgpdkdaaGreatDoor
namespace Go.Proofs.YtelkpflpgpdkdaaGreatDoor
open Go.Sv
set_option maxRecDepth 10000 in
theorem sroll1C (s : StepP) (c : Int) : ∀ n, Con Tryz.prog 34 [agD (stepF s), dT (adr [i64 c])] [] n (bT (decide (s.commit = c))) [] n := by
  refine fnI Tryz.func34 Tryz.ntmps34 (h := fun S w0 β0 X => ?_)
  refine GO ?_
  exact fin1
def putsE (c : Int) : Nat → PlanP → PlanP
  | 0, p => p
  | n + 1, p => putE (putsE c n p) n c
theorem puts_len (c : Int) (p : PlanP) : ∀ n, (putsE c n p).stages.length = p.stages.length ∧ (putsE c n p).log.length = p.log.length + n ∧ (putsE c n p).epoch = p.epoch ∧ (putsE c n p).seq = p.seq
  | 0 => ⟨rfl, rfl, rfl, rfl⟩
  | n + 1 => by
    obtain ⟨h1, h2, h3, h4⟩ := puts_len c p n
    refine ⟨by simp [putsE, putE, h1], by simp [putsE, putE, h2]; omega, by simp [putsE, putE, h3], by simp [putsE, putE, h4]⟩
def upP (p : PlanP) : PlanP := ⟨p.epoch + 1, p.seq + 1, p.stages, p.log⟩
def rollE (p : PlanP) (c : Int) : PlanP × Int := if planRight p = false then (p, 1) else if (p.log.any fun s => decide (s.commit = c)) = false then (p, 3) else if mostN ≤ p.epoch ∨ roomE p p.stages.length ≠ 0 then (p, 2) else (putsE c p.stages.length (upP p), 0)
set_option maxRecDepth 10000 in
set_option maxHeartbeats 2000000 in
theorem srollC (p : PlanP) (c : Int) (hl : p.stages.length ≤ 1000000) (hl2 : p.log.length ≤ 1000000) : ∀ n, Con Tryz.prog 9 [agD (planF p), iT c] [] n (planU (rollE p c)) [] n := by
  refine fnI Tryz.func9 Tryz.ntmps9 (h := fun S w0 β0 X => ?_)
  have hm : mostN = 1099511627776 := rfl
  have hq := (rfl : rollE p c = rollE p c)
  conv at hq => rhs; rw [rollE]
  have hrp := @planR_parts p
  have hrm := sroomC p p.stages.length hl2 (by omega)
  rw [show (if 256 < (p.log.length : Int) + p.stages.length ∨ mostN ≤ p.seq then 2 else 0) = roomE p p.stages.length from rfl] at hrm
  have hro : roomE p p.stages.length = 0 → p.seq < mostN := by unfold roomE; split <;> omega
  have hany := containsStepC p.log 34 [adr [i64 c]] (fun s => decide (s.commit = c)) fun x _ => sroll1C x c
  generalize (p.log.any fun s => decide (s.commit = c)) = an at *
  generalize roomE p p.stages.length = rm at *
  have st : Stop 1 := ⟨⟩
  refine GO ?_
  refine W.frzB 1 [i64 c] (h := ?_)
  clear st
  refine GO ?_
  refine Ch.c (hany) (r := ?_)
  refine GO ?_
  refine Ch.c (sRightPC p hl) (r := ?_)
  generalize planRight p = b at *
  refine GO ?_
  refine W.cond rfl (fun h => ?_) (fun h => ?_)
  · rw [if_pos (by simpa using h)] at hq
    rw [hq]
    refine GO ?_
    refine Ch.ch [] (scopiedC p hl hl2) (r := ?_)
    refine GO ?_
    refine W.frz 3 (h := ?_)
    refine W.frz 4 (h := ?_)
    exact fin2
  rw [if_neg (by simpa using h)] at hq
  have hb : b = true := by simpa using h
  obtain ⟨q1, q2, q3, q4, q5, q6, q7, _⟩ := hrp hb
  refine GO ?_
  refine W.cond rfl (fun h1 => ?_) (fun h1 => ?_)
  · rw [if_pos (by simpa using h1)] at hq
    rw [hq]
    refine GO ?_
    refine Ch.ch [] (scopiedC p hl hl2) (r := ?_)
    refine GO ?_
    refine W.frz 3 (h := ?_)
    refine W.frz 4 (h := ?_)
    exact fin2
  rw [if_neg (by simpa using h1)] at hq
  refine GO ?_
  refine Ch.gc (hc := fun _ => hrm) (r := ?_)
  refine GO ?_
  refine W.cond rfl (fun h2 => ?_) (fun h2 => ?_)
  · rw [if_pos (by grind)] at hq
    rw [hq]
    refine GO ?_
    refine Ch.ch [] (scopiedC p hl hl2) (r := ?_)
    refine GO ?_
    refine W.frz 3 (h := ?_)
    refine W.frz 4 (h := ?_)
    exact fin2
  have h2 : p.epoch < mostN ∧ rm = 0 := by grind
  rw [if_neg (by rintro (h | h); omega; exact h h2.2)] at hq
  have hsq := hro h2.2
  rw [hq]
  refine GO ?_
  have hpl := puts_len c (upP p)
  rw [show (upP p).stages.length = p.stages.length from rfl, show (upP p).log.length = p.log.length from rfl] at hpl
  refine W.lpG ((· ≤ p.stages.length)) (fun k => [(48, iT k)]) [(2, _), (3, _), (4, _), (5, _), (47, _)] (fun k => [(0, .box 27 ((planF (putsE c k (upP p))).map C.d))]) [(2, _)] (p.stages.length - ·) 0 (Nat.zero_le _) (round := fun k hk => ?_)
  by_cases hlt : k < p.stages.length
  · obtain ⟨g1, g2, _, _⟩ := hpl k
    have hput := sputC (putsE c k (upP p)) k c (by omega) (by omega) (by omega)
    rw [show putE (putsE c k (upP p)) k c = putsE c (k + 1) (upP p) from rfl] at hput
    refine GO ?_
    refine Ch.ch [] hput (r := ?_)
    refine GO ?_
    refine W.frz 3 (h := ?_)
    refine W.frz 4 (h := ?_)
    exact W.ag (k + 1) (hlt) (by omega)
  · obtain rfl : k = p.stages.length := by omega
    refine GO ?_
    exact fin2
end Go.Proofs.YtelkpflpgpdkdaaGreatDoor




namespace Go.Proofs.YtelkpflpgpdkdaaGreatDoor
open Go.Sv
theorem filter_take {α : Type} {l : List α} {k : Nat} {x : α} {q : α → Bool} (h : l[k]? = some x) : (l.take (k + 1)).filter q = (l.take k).filter q ++ if q x then [x] else [] := by
  rw [List.take_add_one, h, List.filter_append]
  simp only [Option.toList_some, List.filter_cons, List.filter_nil]
theorem drop_take {l : List Res} {k : Nat} (ed : Int) (st : List Int) (ks : List Str) : (resDrop (l.take k) ed st ks).length ≤ k := Nat.le_trans (List.length_filter_le ..) (by rw [List.length_take]; omega)
end Go.Proofs.YtelkpflpgpdkdaaGreatDoor

namespace Go.Proofs
open Go.Shelf
def Tryz.laysM171_ren : Go.Shelf.Ren := ⟨fun | 171 => 239 | 243 => 264 | 246 => 274 | 283 => 284 | 284 => 285 | 285 => 286 | 286 => 287 | 129 => 156 | 317 => 291 | 318 => 292 | 319 => 293 | 320 => 294 | 337 => 296 | 338 => 297 | n => n, fun | 3 => 3 | 9 => 9 | 2 => 2 | 4 => 4 | 171 => 327 | 0 => 0 | 53 => 147 | 37 => 329 | 5 => 5 | 173 => 330 | 212 => 336 | 51 => 144 | 20 => 20 | 213 => 337 | 46 => 111 | 232 => 339 | 233 => 340 | n => n, fun | 17 => 1 | 18 => 2 | 19 => 3 | n => n⟩
theorem Tryz.laysM171 : Go.Proofs.LaysM.n171 Tryz.prog Tryz.laysM171_ren := {
  mixed := by kernel_rfl
  f129 := Tryz.func156.trans (congrArg some (by kernel_rfl))
  f171 := Tryz.func239.trans (congrArg some (by kernel_rfl))
  f243 := Tryz.func264.trans (congrArg some (by kernel_rfl))
  f246 := Tryz.func274.trans (congrArg some (by kernel_rfl))
  f283 := Tryz.func284.trans (congrArg some (by kernel_rfl))
  f284 := Tryz.func285.trans (congrArg some (by kernel_rfl))
  f285 := Tryz.func286.trans (congrArg some (by kernel_rfl))
  f286 := Tryz.func287.trans (congrArg some (by kernel_rfl))
  f317 := Tryz.func291.trans (congrArg some (by kernel_rfl))
  f318 := Tryz.func292.trans (congrArg some (by kernel_rfl))
  f319 := Tryz.func293.trans (congrArg some (by kernel_rfl))
  f320 := Tryz.func294.trans (congrArg some (by kernel_rfl))
  f337 := Tryz.func296.trans (congrArg some (by kernel_rfl))
  f338 := Tryz.func297.trans (congrArg some (by kernel_rfl))
  t0 := Tryz.underlying0
  a0 := Tryz.isAgg0
  z0 := Tryz.sizeOf0
  v0 := Tryz.zeroValue0
  t2 := Tryz.underlying2
  a2 := Tryz.isAgg2
  z2 := Tryz.sizeOf2
  v2 := Tryz.zeroValue2
  t3 := Tryz.underlying3
  a3 := Tryz.isAgg3
  z3 := Tryz.sizeOf3
  v3 := Tryz.zeroValue3
  t4 := Tryz.underlying4
  a4 := Tryz.isAgg4
  z4 := Tryz.sizeOf4
  v4 := Tryz.zeroValue4
  t5 := Tryz.underlying5
  a5 := Tryz.isAgg5
  z5 := Tryz.sizeOf5
  v5 := Tryz.zeroValue5
  t9 := Tryz.underlying9
  a9 := Tryz.isAgg9
  z9 := Tryz.sizeOf9
  v9 := Tryz.zeroValue9
  t20 := Tryz.underlying20
  a20 := Tryz.isAgg20
  z20 := Tryz.sizeOf20
  v20 := Tryz.zeroValue20
  t37 := Tryz.underlying329
  a37 := Tryz.isAgg329
  z37 := Tryz.sizeOf329
  v37 := Tryz.zeroValue329
  t46 := Tryz.underlying111
  a46 := Tryz.isAgg111
  z46 := Tryz.sizeOf111
  v46 := Tryz.zeroValue111
  t51 := Tryz.underlying144
  a51 := Tryz.isAgg144
  z51 := Tryz.sizeOf144
  v51 := Tryz.zeroValue144
  t53 := Tryz.underlying147
  a53 := Tryz.isAgg147
  z53 := Tryz.sizeOf147
  v53 := Tryz.zeroValue147
  t171 := Tryz.underlying327
  a171 := Tryz.isAgg327
  z171 := Tryz.sizeOf327
  v171 := Tryz.zeroValue327
  t173 := Tryz.underlying330
  a173 := Tryz.isAgg330
  z173 := Tryz.sizeOf330
  v173 := Tryz.zeroValue330
  t212 := Tryz.underlying336
  a212 := Tryz.isAgg336
  z212 := Tryz.sizeOf336
  v212 := Tryz.zeroValue336
  t213 := Tryz.underlying337
  a213 := Tryz.isAgg337
  z213 := Tryz.sizeOf337
  t232 := Tryz.underlying339
  a232 := Tryz.isAgg339
  z232 := Tryz.sizeOf339
  v232 := Tryz.zeroValue339
  t233 := Tryz.underlying340
  a233 := Tryz.isAgg340
  z233 := Tryz.sizeOf340
  v233 := Tryz.zeroValue340
  g17 := by kernel_rfl
  g18 := by kernel_rfl
  g19 := by kernel_rfl
  i0 := by kernel_rfl
  i2 := by kernel_rfl
  i3 := by kernel_rfl
  i4 := by kernel_rfl
  i5 := by kernel_rfl
  i9 := by kernel_rfl
  i20 := by kernel_rfl
  i37 := by kernel_rfl
  i46 := by kernel_rfl
  i51 := by kernel_rfl
  i53 := by kernel_rfl
  i171 := by kernel_rfl
  i173 := by kernel_rfl
  i212 := by kernel_rfl
  i232 := by kernel_rfl
  i233 := by kernel_rfl
  m17 := by kernel_rfl
  m18 := by kernel_rfl
  m19 := by kernel_rfl }
def Tryz.sortFld_ren : Go.Shelf.Ren := ⟨fun | 6 => 252 | 15 => 117 | 14 => 271 | 28 => 155 | 29 => 156 | 20 => 276 | 21 => 277 | 22 => 278 | 23 => 279 | 24 => 280 | 25 => 281 | 26 => 282 | 27 => 283 | 46 => 288 | 47 => 184 | 48 => 185 | 49 => 289 | 50 => 290 | 57 => 295 | n => n, fun | 22 => 53 | 24 => 206 | 25 => 302 | 3 => 3 | 39 => 111 | 0 => 0 | 53 => 144 | 55 => 147 | 4 => 4 | 46 => 221 | 45 => 220 | 50 => 132 | 5 => 5 | 9 => 9 | 66 => 250 | 70 => 254 | 76 => 272 | 77 => 273 | n => n, fun | n => n⟩
theorem Tryz.sortFld : Go.Proofs.SlLaysF0.n6 Tryz.prog Tryz.sortFld_ren := {
  mixed := by kernel_rfl
  f6 := ⟨Tryz.f252.name, by decide, Tryz.func252.trans (congrArg some (by kernel_rfl))⟩
  f14 := ⟨Tryz.f271.name, by decide, Tryz.func271.trans (congrArg some (by kernel_rfl))⟩
  f15 := Tryz.func117.trans (congrArg some (by kernel_rfl))
  f20 := ⟨Tryz.f276.name, by decide, Tryz.func276.trans (congrArg some (by kernel_rfl))⟩
  f21 := ⟨Tryz.f277.name, by decide, Tryz.func277.trans (congrArg some (by kernel_rfl))⟩
  f22 := ⟨Tryz.f278.name, by decide, Tryz.func278.trans (congrArg some (by kernel_rfl))⟩
  f23 := ⟨Tryz.f279.name, by decide, Tryz.func279.trans (congrArg some (by kernel_rfl))⟩
  f24 := ⟨Tryz.f280.name, by decide, Tryz.func280.trans (congrArg some (by kernel_rfl))⟩
  f25 := ⟨Tryz.f281.name, by decide, Tryz.func281.trans (congrArg some (by kernel_rfl))⟩
  f26 := ⟨Tryz.f282.name, by decide, Tryz.func282.trans (congrArg some (by kernel_rfl))⟩
  f27 := ⟨Tryz.f283.name, by decide, Tryz.func283.trans (congrArg some (by kernel_rfl))⟩
  f28 := Tryz.func155.trans (congrArg some (by kernel_rfl))
  f29 := Tryz.func156.trans (congrArg some (by kernel_rfl))
  f46 := ⟨Tryz.f288.name, by decide, Tryz.func288.trans (congrArg some (by kernel_rfl))⟩
  f47 := Tryz.func184.trans (congrArg some (by kernel_rfl))
  f48 := Tryz.func185.trans (congrArg some (by kernel_rfl))
  f49 := ⟨Tryz.f289.name, by decide, Tryz.func289.trans (congrArg some (by kernel_rfl))⟩
  f50 := ⟨Tryz.f290.name, by decide, Tryz.func290.trans (congrArg some (by kernel_rfl))⟩
  f57 := ⟨Tryz.f295.name, by decide, Tryz.func295.trans (congrArg some (by kernel_rfl))⟩
  t0 := Tryz.underlying0
  a0 := Tryz.isAgg0
  z0 := Tryz.sizeOf0
  v0 := Tryz.zeroValue0
  t3 := Tryz.underlying3
  a3 := Tryz.isAgg3
  z3 := Tryz.sizeOf3
  v3 := Tryz.zeroValue3
  t4 := Tryz.underlying4
  a4 := Tryz.isAgg4
  z4 := Tryz.sizeOf4
  v4 := Tryz.zeroValue4
  t5 := Tryz.underlying5
  a5 := Tryz.isAgg5
  z5 := Tryz.sizeOf5
  v5 := Tryz.zeroValue5
  t9 := Tryz.underlying9
  a9 := Tryz.isAgg9
  z9 := Tryz.sizeOf9
  v9 := Tryz.zeroValue9
  t22 := Tryz.underlying53
  a22 := Tryz.isAgg53
  z22 := Tryz.sizeOf53
  v22 := Tryz.zeroValue53
  t25 := Tryz.underlying302
  a25 := Tryz.isAgg302
  z25 := Tryz.sizeOf302
  v25 := Tryz.zeroValue302
  t39 := Tryz.underlying111
  a39 := Tryz.isAgg111
  z39 := Tryz.sizeOf111
  v39 := Tryz.zeroValue111
  t45 := Tryz.underlying220
  a45 := Tryz.isAgg220
  z45 := Tryz.sizeOf220
  v45 := Tryz.zeroValue220
  t46 := Tryz.underlying221
  a46 := Tryz.isAgg221
  z46 := Tryz.sizeOf221
  v46 := Tryz.zeroValue221
  t50 := Tryz.underlying132
  a50 := Tryz.isAgg132
  z50 := Tryz.sizeOf132
  v50 := Tryz.zeroValue132
  t53 := Tryz.underlying144
  a53 := Tryz.isAgg144
  z53 := Tryz.sizeOf144
  v53 := Tryz.zeroValue144
  t55 := Tryz.underlying147
  a55 := Tryz.isAgg147
  z55 := Tryz.sizeOf147
  v55 := Tryz.zeroValue147
  t66 := Tryz.underlying250
  a66 := Tryz.isAgg250
  z66 := Tryz.sizeOf250
  v66 := Tryz.zeroValue250
  t70 := Tryz.underlying254
  a70 := Tryz.isAgg254
  z70 := Tryz.sizeOf254
  v70 := Tryz.zeroValue254
  t76 := Tryz.underlying272
  a76 := Tryz.isAgg272
  z76 := Tryz.sizeOf272
  v76 := Tryz.zeroValue272
  t77 := Tryz.underlying273
  a77 := Tryz.isAgg273
  z77 := Tryz.sizeOf273
  v77 := Tryz.zeroValue273 }
def Tryz.lays106_ren : Go.Shelf.Ren := ⟨fun | 106 => 78 | 213 => 112 | 265 => 144 | n => n, fun | 9 => 9 | 3 => 3 | n => n, fun | n => n⟩
theorem Tryz.lays106 : Go.Proofs.Lays.n106 Tryz.prog Tryz.lays106_ren := {
  mixed := by kernel_rfl
  f106 := Tryz.func78.trans (congrArg some (by kernel_rfl))
  f213 := Tryz.func112.trans (congrArg some (by kernel_rfl))
  f265 := Tryz.func144.trans (congrArg some (by kernel_rfl))
  t3 := Tryz.underlying3
  a3 := Tryz.isAgg3
  z3 := Tryz.sizeOf3
  v3 := Tryz.zeroValue3
  t9 := Tryz.underlying9
  a9 := Tryz.isAgg9
  z9 := Tryz.sizeOf9
  v9 := Tryz.zeroValue9 }
def Tryz.lays212_ren : Go.Shelf.Ren := ⟨fun | 212 => 57 | 263 => 88 | 264 => 89 | n => n, fun | 46 => 111 | 51 => 144 | 146 => 145 | 53 => 147 | 148 => 148 | n => n, fun | n => n⟩
theorem Tryz.lays212 : Go.Proofs.Lays.n212 Tryz.prog Tryz.lays212_ren := {
  mixed := by kernel_rfl
  f212 := Tryz.func57.trans (congrArg some (by kernel_rfl))
  f263 := Tryz.func88.trans (congrArg some (by kernel_rfl))
  f264 := Tryz.func89.trans (congrArg some (by kernel_rfl))
  t46 := Tryz.underlying111
  a46 := Tryz.isAgg111
  z46 := Tryz.sizeOf111
  v46 := Tryz.zeroValue111
  t51 := Tryz.underlying144
  a51 := Tryz.isAgg144
  z51 := Tryz.sizeOf144
  v51 := Tryz.zeroValue144
  t53 := Tryz.underlying147
  a53 := Tryz.isAgg147
  z53 := Tryz.sizeOf147
  v53 := Tryz.zeroValue147
  t146 := Tryz.underlying145
  a146 := Tryz.isAgg145
  z146 := Tryz.sizeOf145
  v146 := Tryz.zeroValue145
  t148 := Tryz.underlying148
  a148 := Tryz.isAgg148
  z148 := Tryz.sizeOf148
  v148 := Tryz.zeroValue148 }
end Go.Proofs
