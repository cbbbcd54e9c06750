/- Part 27 of what TransFills asks: for every input it returns true, and its input reads as it did. No condition. -/
import Derived.Test.YtddddgbboipfeaaGreatDoorPt14
import Derived.Test.YtddddgbboipfeaaGreatDoorPt26
namespace Go.Proofs.YtddddgbboipfeaaGreatDoor
open Go.Sv
theorem lensesC_len (l : List Lens) : (lensesC l).length = l.length := by rw [(rowLens l).eq, List.length_map]
theorem lensesC_get {l : List Lens} {k : Nat} {x : Lens} (h : l[k]? = some x) : (lensesC l)[k]? = some (lensF x) := by rw [(rowLens l).eq, List.getElem?_map, h]; rfl
theorem sub_size {l : List Lens} {x : Lens} (hm : x ∈ l) : Lens.size x.subs < Lens.size l := by
  obtain ⟨l1, l2, rfl⟩ := List.append_of_mem hm
  rw [Lens.size_subs (l1 ++ x :: l2), Lens.subsSize_append, Lens.subsSize, List.length_append, List.length_cons]
  omega
set_option maxRecDepth 10000 in
theorem lensCopyC (l : List Lens) (hf : Lens.fit l) : Con Tryz.prog 107 [dT (sl 16 (lensesC l))] [] 0 (.one (.key 0)) [(0, .row 71 16 (lensesC l))] 1 := by
  have hd := hf.len
  have hl := lensesC_len l
  refine fnH Tryz.func107 Tryz.ntmps107 (h := fun S w0 β0 X => ?_)
  refine GO ?_
  refine Ch.ch [] (cloneLensC (lensesC l) (by omega)) (r := ?_)
  refine GO ?_
  refine W.lp (· ≤ l.length) (fun k => [(10, iT k)]) [(9, _), (8, _), (3, _), (2, _)] (l.length - ·) 0 (Nat.zero_le _) (round := fun k hk => ?_)
  by_cases hlt : k < l.length
  · have hlt' : k < (lensesC l).length := by omega
    have hx := List.getElem?_eq_getElem hlt
    generalize l[k] = x at hx
    have hm := List.mem_of_getElem? hx
    obtain ⟨h1, h2, h3, h4⟩ := hf.sub hm
    have st : Stop 6 := ⟨⟩
    refine GO ?_
    refine Ch.r (OpT.indexW hlt') ⟨rfl, rfl, trivial⟩ rfl ?_
    refine Ch.r (OpT.loadW (lensesC_get hx)) ⟨rfl, trivial⟩ rfl ?_
    refine GO ?_
    refine Ch.c (typCopyC x.typ h1) (r := ?_)
    refine GO ?_
    refine Ch.c (docCopyC x.doc h2) (r := ?_)
    refine GO ?_
    refine Ch.ch [] (clonePairC (x.swaps.map swapF) (by rw [List.length_map]; omega)) (r := ?_)
    refine GO ?_
    refine Ch.ch [] (lensCopyC x.subs h4) (r := ?_)
    refine GO ?_
    clear st
    refine W.frz 2 (h := ?_)
    refine W.frz 3 (h := ?_)
    refine GO ?_
    refine Ch.r (OpT.indexW hlt') ⟨rfl, rfl, trivial⟩ rfl ?_
    refine Ch.storeW (hs := .ag (lensF x)) (hj := hlt') (r := ?_)
    rw [set_same (lensesC_get hx)]
    refine GO ?_
    exact W.ag (k + 1) hlt (by omega)
  · obtain rfl : k = l.length := by omega
    refine GO ?_
    exact finH
termination_by Lens.size l
decreasing_by
  exact sub_size hm
set_option maxRecDepth 10000 in
theorem copiedC (x : Res) (hf : x.fit) : ∀ n, Con Tryz.prog 81 [agD (resF x)] [] n (agD (resF x)) [] n := by
  refine fnI Tryz.func81 Tryz.ntmps81 (hk := by rw [List.flatMap_singleton]; exact agD_keys) (hko := agD_keys) (h := fun S w0 β0 X => ?_)
  obtain ⟨h1, h2, h3⟩ := hf
  refine GO ?_
  refine Ch.ch [] (cloneIntC (x.step.map fun s => [i64 s]) (by rw [List.length_map]; omega)) (r := ?_)
  refine GO ?_
  refine Ch.ch [] (cloneStrC (x.at_.map fun s => [str s]) (by rw [List.length_map]; omega)) (r := ?_)
  refine GO ?_
  refine Ch.c (docCopyC x.doc h3) (r := ?_)
  refine GO ?_
  refine W.frz 2 (h := ?_)
  refine W.frz 3 (h := ?_)
  exact fin1 (hk := agD_keys)
end Go.Proofs.YtddddgbboipfeaaGreatDoor
namespace Go.Sv
open Go
theorem W.lpG {cx : Cx} {n : Nat} {F : FL} {H : HL} {Q : Exit → Act → World → Prop} {α : Type} {c : Code} (p : α → Prop) (dF : α → FL) (Fk : FL) (dH : α → HL) (Hk : HL) (μ : α → Nat) (a0 : α) (hp : p a0) (hF : SubF F (dF a0 ++ Fk) := by (repeat (first | exact SubF.nil | refine SubF.cons rfl ?_))) (hH : SubH H (dH a0 ++ Hk) := by (repeat (first | exact SubH.nil | refine SubH.cons rfl ?_))) (h0 : Nat.ble cx.n0 n = true := by rfl)
    (hb : ∀ a, belF n (dF a ++ Fk) := by intro a; (repeat (first | exact belF_nil | refine belF_cons (by first | exact bel0 rfl | exact bel0 agD_keys | exact belR (by rfl)) ?_))) (hb' : ∀ a, belH n (dH a ++ Hk) := by intro a; (repeat (first | exact belH_nil | refine belH_cons (blt_of (by rfl)) (by first | exact bel0 rfl | exact bel0 agD_keys | exact belR (by rfl)) ?_)))
    (round : ∀ a, p a → Wk cx n (dF a ++ Fk) (dH a ++ Hk) (c.wp cx.P (Exit.then (Rnd cx n p dF Fk dH Hk μ a) Q))) : Wk cx n F H ((Code.loop c).wp cx.P Q) := W.loopG p dF Fk dH Hk μ a0 hp hF hH (Nat.le_of_ble_eq_true h0) hb hb' round
end Go.Sv
namespace Go.Proofs.YtddddgbboipfeaaGreatDoor
open Go.Sv
theorem take_map_succ {α β : Type} {l : List α} {k : Nat} {x : α} {f : α → β} (h : l[k]? = some x) : (l.take (k + 1)).map f = (l.take k).map f ++ [f x] := by
  rw [List.take_add_one, h, List.map_append]; rfl
instance rowMap {α : Type} (l : List α) (f : α → List D) : Row (l.map f) α l f := ⟨rfl⟩
set_option maxRecDepth 10000 in
theorem stCopyC (s : State) (hf : StFit s) : ∀ n, Con Tryz.prog 39 [agD (stateF s)] [] n (agD (stateF s)) [] n := by
  obtain ⟨h1, h2, h3⟩ := hf
  refine fnI Tryz.func39 Tryz.ntmps39 (hk := by rw [List.flatMap_singleton]; exact agD_keys) (hko := agD_keys) (h := fun S w0 β0 X => ?_)
  have st : Stop 2 := ⟨⟩
  refine GO ?_
  refine Ch.c (docCopyC s.doc h1) (r := ?_)
  refine GO ?_
  clear st
  refine W.nilB 2 5 50 8 (h := ?_)
  refine GO ?_
  refine W.lpG (· ≤ s.res.length) (fun k => [(13, iT k)]) [(12, _), (11, _), (1, _), (2, _), (3, _)] (fun k => [(3, .row 50 8 ((s.res.take k).map resF))]) [(0, _), (1, _), (2, _)] (s.res.length - ·) 0 (Nat.zero_le _) (round := fun k hk => ?_)
  by_cases hlt : k < s.res.length
  · have hx := List.getElem?_eq_getElem hlt
    generalize s.res[k] = x at hx
    have hlen : (s.res.take k).length = k := by rw [List.length_take]; omega
    refine GO ?_
    refine Ch.c (copiedC x (h3 x (List.mem_of_getElem? hx))) (r := ?_)
    refine GO ?_
    rw [← take_map_succ hx]
    refine W.swap 3 5 (h := ?_)
    exact W.ag (k + 1) hlt (by omega)
  · obtain rfl : k = s.res.length := by omega
    rw [List.take_length]
    refine GO ?_
    refine W.frz 3 (h := ?_)
    exact fin1 (hk := agD_keys)
end Go.Proofs.YtddddgbboipfeaaGreatDoor
namespace Go.Proofs.YtddddgbboipfeaaGreatDoor
open Go.Sv
set_option maxRecDepth 10000 in
theorem cmpIntC (a b : Int) : ∀ n, Con Tryz.prog 65 [iT a, iT b] [] n (iT (cmpI a b)) [] n := by
  have hn : ∀ a n, Con Tryz.prog 101 [iT a] [] n (bT false) [] n := fun a => by
    refine fnI Tryz.func101 Tryz.ntmps101 (h := fun S w0 β0 X => ?_)
    refine GO ?_
    exact finB (he := by simp)
  refine fnI Tryz.func65 Tryz.ntmps65 (h := fun S w0 β0 X => ?_)
  refine GO ?_
  refine Ch.c (hn a) (r := ?_)
  refine GO ?_
  refine Ch.c (hn b) (r := ?_)
  refine GO ?_
  by_cases h1 : a < b
  · refine GO ?_
    exact finI (he := by rw [cmpI, if_pos h1])
  by_cases h2 : b < a
  · refine GO ?_
    exact finI (he := by rw [cmpI, if_neg h1, if_pos h2])
  refine GO ?_
  exact finI (he := by rw [cmpI, if_neg h1, if_neg h2])
set_option maxRecDepth 10000 in
theorem cmpStrC (a b : Str) : ∀ n, Con Tryz.prog 102 [sT a, sT b] [] n (iT (cmpS a b)) [] n := by
  have hn : ∀ a n, Con Tryz.prog 141 [sT a] [] n (bT false) [] n := fun a => by
    refine fnI Tryz.func141 Tryz.ntmps141 (h := fun S w0 β0 X => ?_)
    refine GO ?_
    exact finB (he := by simp)
  refine fnI Tryz.func102 Tryz.ntmps102 (h := fun S w0 β0 X => ?_)
  refine GO ?_
  refine Ch.c (hn a) (r := ?_)
  refine GO ?_
  refine Ch.c (hn b) (r := ?_)
  refine GO ?_
  refine W.cond rfl (fun h1 => ?_) (fun h1 => ?_)
  · refine GO ?_
    exact finI (he := by rw [cmpS, sLt, if_pos h1])
  refine GO ?_
  refine W.cond rfl (fun h2 => ?_) (fun h2 => ?_)
  · refine GO ?_
    exact finI (he := by grind [cmpS, sLt, sLe])
  refine GO ?_
  exact finI (he := by grind [cmpS, sLt, sLe])
set_option maxRecDepth 10000 in
theorem cmpIntsC (l m : List Int) : ∀ n, Con Tryz.prog 66 [dT (intsD l), dT (intsD m)] [] n (iT (cmpL cmpI l m)) [] n := by
  refine fnI Tryz.func66 Tryz.ntmps66 (h := fun S w0 β0 X => ?_)
  refine GO ?_
  refine W.len 9 (h := fun hl => ?_)
  refine W.len 1 (h := fun hm => ?_)
  refine W.lp (fun k => k ≤ l.length ∧ cmpL cmpI (l.drop k) (m.drop k) = cmpL cmpI l m) (fun k => [(11, iT k)]) [(10, _), (9, _), (0, _), (1, _)] (l.length - ·) 0 ⟨Nat.zero_le _, rfl⟩ (round := fun k hk => ?_)
  by_cases hlt : k < l.length
  · have hx := List.getElem?_eq_getElem hlt
    generalize l[k] = x at hx
    by_cases hm2 : m.length ≤ k
    · refine GO ?_
      exact finI (he := by rw [← hk.2, cmpL_long hlt hm2])
    · have hy := List.getElem?_eq_getElem (show k < m.length by omega)
      generalize m[k]'(by omega) = y at hy
      have hc := cmpL_drop (f := cmpI) hx hy
      refine GO ?_
      refine Ch.c (cmpIntC x y) (r := ?_)
      by_cases hz : cmpI x y = 0
      · refine GO ?_
        exact W.ag (k + 1) ⟨hlt, by rw [← hk.2, hc, if_neg (by omega)]⟩ (by omega)
      · refine GO ?_
        exact finI (he := by rw [← hk.2, hc, if_pos hz])
  · obtain rfl : k = l.length := by omega
    have hc := hk.2
    rw [cmpL_end] at hc
    by_cases h1 : l.length < m.length
    · refine GO ?_
      exact finI (he := by rw [← hc, if_pos h1])
    · refine GO ?_
      exact finI (he := by rw [← hc, if_neg h1])
set_option maxRecDepth 10000 in
theorem cmpStrsC (l m : List Str) : ∀ n, Con Tryz.prog 67 [dT (strsD l), dT (strsD m)] [] n (iT (cmpL cmpS l m)) [] n := by
  refine fnI Tryz.func67 Tryz.ntmps67 (h := fun S w0 β0 X => ?_)
  refine GO ?_
  refine W.len 9 (h := fun hl => ?_)
  refine W.len 1 (h := fun hm => ?_)
  refine W.lp (fun k => k ≤ l.length ∧ cmpL cmpS (l.drop k) (m.drop k) = cmpL cmpS l m) (fun k => [(11, iT k)]) [(10, _), (9, _), (0, _), (1, _)] (l.length - ·) 0 ⟨Nat.zero_le _, rfl⟩ (round := fun k hk => ?_)
  by_cases hlt : k < l.length
  · have hx := List.getElem?_eq_getElem hlt
    generalize l[k] = x at hx
    by_cases hm2 : m.length ≤ k
    · refine GO ?_
      exact finI (he := by rw [← hk.2, cmpL_long hlt hm2])
    · have hy := List.getElem?_eq_getElem (show k < m.length by omega)
      generalize m[k]'(by omega) = y at hy
      have hc := cmpL_drop (f := cmpS) hx hy
      refine GO ?_
      refine Ch.c (cmpStrC x y) (r := ?_)
      by_cases hz : cmpS x y = 0
      · refine GO ?_
        exact W.ag (k + 1) ⟨hlt, by rw [← hk.2, hc, if_neg (by omega)]⟩ (by omega)
      · refine GO ?_
        exact finI (he := by rw [← hk.2, hc, if_pos hz])
  · obtain rfl : k = l.length := by omega
    have hc := hk.2
    rw [cmpL_end] at hc
    by_cases h1 : l.length < m.length
    · refine GO ?_
      exact finI (he := by rw [← hc, if_pos h1])
    · refine GO ?_
      exact finI (he := by rw [← hc, if_neg h1])
set_option maxRecDepth 10000 in
theorem orC (l : List Int) : ∀ n, Con Tryz.prog 64 [dT (intsD l)] [] n (iT (firstNZ l)) [] n := by
  refine fnI Tryz.func64 Tryz.ntmps64 (h := fun S w0 β0 X => ?_)
  refine GO ?_
  refine W.len 6 (h := fun hl => ?_)
  refine W.lp (fun k => k ≤ l.length ∧ firstNZ (l.drop k) = firstNZ l) (fun k => [(8, iT k)]) [(7, _), (6, _), (3, _)] (l.length - ·) 0 ⟨Nat.zero_le _, rfl⟩ (round := fun k hk => ?_)
  by_cases hlt : k < l.length
  · have hx := List.getElem?_eq_getElem hlt
    generalize l[k] = x at hx
    have hc := firstNZ_drop hx
    by_cases hz : x = 0
    · refine GO ?_
      exact W.ag (k + 1) ⟨hlt, by rw [← hk.2, hc, if_neg (by omega)]⟩ (by omega)
    · refine GO ?_
      exact finI (he := by rw [← hk.2, hc, if_pos hz])
  · obtain rfl : k = l.length := by omega
    refine GO ?_
    exact finI (he := by rw [← hk.2, List.drop_length]; rfl)
set_option maxRecDepth 10000 in
theorem lessG (e1 e2 : Int) (s1 s2 : List Int) (t1 t2 : List Str) (a1 a2 a3 a4 a5 b1 b2 b3 b4 b5 : D) : ∀ n, Con Tryz.prog 29 [agD [i64 e1, intsD s1, strsD t1, a1, a2, a3, a4, a5], agD [i64 e2, intsD s2, strsD t2, b1, b2, b3, b4, b5]] [] n (iT (firstNZ [cmpI e1 e2, cmpL cmpI s1 s2, cmpL cmpS t1 t2])) [] n := by
  refine fnI Tryz.func29 Tryz.ntmps29 (h := fun S w0 β0 X => ?_)
  refine GO ?_
  refine Ch.c (cmpIntC e1 e2) (r := ?_)
  refine GO ?_
  refine Ch.c (cmpIntsC s1 s2) (r := ?_)
  refine GO ?_
  refine Ch.c (cmpStrsC t1 t2) (r := ?_)
  refine Ch.p (OpT.sliceN (k := 1) (xs := [_, _, _]) (ss := [_, _, _]) (lls := [cmpI e1 e2, cmpL cmpI s1 s2, cmpL cmpS t1 t2].map fun n => [i64 n]) ⟨.one _, .one _, .one _, trivial⟩ rfl (by simp)) ⟨rfl, rfl, rfl, trivial⟩ ?_
  refine Ch.c (orC [cmpI e1 e2, cmpL cmpI s1 s2, cmpL cmpS t1 t2]) (r := ?_)
  refine GO ?_
  exact fin1
theorem lessC (x y : Res) (n : Nat) : Con Tryz.prog 29 [agD (resF x), agD (resF y)] [] n (iT (resLess x y)) [] n := by
  rw [← resLess_first x y]
  exact lessG x.edge y.edge x.step y.step x.at_ y.at_ _ _ _ _ _ _ _ _ _ _ n
end Go.Proofs.YtddddgbboipfeaaGreatDoor
namespace Go.Proofs.YtddddgbboipfeaaGreatDoor
open Go.Sv
set_option maxRecDepth 10000 in
theorem resRightC (l : List Res) (hf : ∀ x ∈ l, x.fit) : ∀ n, Con Tryz.prog 80 [dT (sl 8 (l.map resF))] [] n (bT (resRight l)) [] n := by
  refine fnI Tryz.func80 Tryz.ntmps80 (h := fun S w0 β0 X => ?_)
  refine GO ?_
  refine W.len 5 (h := fun hl => ?_)
  refine W.lp (fun k => k ≤ l.length ∧ resTo l k = true) (fun k => [(7, iT k)]) [(6, _), (5, _), (0, _)] (l.length - ·) 0 ⟨Nat.zero_le _, rfl⟩ (round := fun k hk => ?_)
  by_cases hlt : k < l.length
  · have hx := List.getElem?_eq_getElem hlt
    generalize l[k] = x at hx
    have hp : l[k - 1]? = some (l[k - 1]'(by omega)) := List.getElem?_eq_getElem (by omega)
    generalize l[k - 1]'(by omega) = p at hp
    have hs := resTo_succ l k
    refine GO ?_
    refine Ch.c (docRightC x.doc (hf x (List.mem_of_getElem? hx)).2.2) (r := ?_)
    refine GO ?_
    refine Ch.g (h := fun hg => OpT.indexR (j := k - 1) (hij := by grind) (hj := hp)) (r := ?_)
    refine GO ?_
    refine Ch.gc (hc := fun _ => lessC p x) (r := ?_)
    refine GO ?_
    refine W.cond rfl (fun h => ?_) (fun h => ?_)
    · refine GO ?_
      exact finB (he := by
        rw [resTo_false hlt]
        grind [resStep])
    · refine GO ?_
      exact W.ag (k + 1) ⟨hlt, by grind [resStep]⟩ (by omega)
  · obtain rfl : k = l.length := by omega
    refine GO ?_
    exact finB (he := by rw [resRight, hk.2]; grind)
end Go.Proofs.YtddddgbboipfeaaGreatDoor
namespace Go.Proofs.YtddddgbboipfeaaGreatDoor
open Go.Sv
set_option maxRecDepth 10000 in
theorem indexNamedC {ls : List (List D)} {xs : List Named} [Row ls Named xs namedF] (f : FuncId) (cs : List D) (p : Named → Bool) (hc : ∀ x ∈ xs, ∀ n, Con Tryz.prog f ([agD (namedF x)] ++ cs.map dT) [] n (bT (p x)) [] n) : ∀ n, Con Tryz.prog 111 [dT (sl 7 ls), dT (cloD f cs)] [] n (iT (idxOf p xs)) [] n := by
  refine fnI Tryz.func111 Tryz.ntmps111 (h := fun S w0 β0 X => ?_)
  refine GO ?_
  refine W.len 6 (h := fun hl => ?_)
  refine W.lp (fun k => k ≤ xs.length ∧ ∀ y ∈ xs.take k, p y = false) (fun k => [(8, iT k)]) [(7, _), (0, _), (1, _)] (xs.length - ·) 0 ⟨Nat.zero_le _, nofun⟩ (round := fun k hk => ?_)
  by_cases hlt : k < xs.length
  · have hx := List.getElem?_eq_getElem hlt
    generalize xs[k] = x at hx
    refine GO ?_
    refine Ch.dy (hc x (List.mem_of_getElem? hx)) (r := ?_)
    cases hp : p x
    · refine GO ?_
      exact W.ag (k + 1) ⟨hlt, take_all_succ hx hp hk.2⟩ (by omega)
    · refine GO ?_
      exact fin1 (he := by rw [idxOf_at hx hp hk.2]; rfl)
  · obtain rfl : k = xs.length := by omega
    refine GO ?_
    exact fin1 (he := by rw [idxOf_none fun y hy => hk.2 y (by rwa [List.take_length])]; rfl)
set_option maxRecDepth 10000 in
theorem indexFldC {ls : List (List D)} {xs : List Fld} [Row ls Fld xs fldF] (f : FuncId) (cs : List D) (p : Fld → Bool) (hc : ∀ x ∈ xs, ∀ n, Con Tryz.prog f ([agD (fldF x)] ++ cs.map dT) [] n (bT (p x)) [] n) : ∀ n, Con Tryz.prog 265 [dT (sl 8 ls), dT (cloD f cs)] [] n (iT (idxOf p xs)) [] n := by
  refine fnI Tryz.func265 Tryz.ntmps265 (h := fun S w0 β0 X => ?_)
  refine GO ?_
  refine W.len 6 (h := fun hl => ?_)
  refine W.lp (fun k => k ≤ xs.length ∧ ∀ y ∈ xs.take k, p y = false) (fun k => [(8, iT k)]) [(7, _), (0, _), (1, _)] (xs.length - ·) 0 ⟨Nat.zero_le _, nofun⟩ (round := fun k hk => ?_)
  by_cases hlt : k < xs.length
  · have hx := List.getElem?_eq_getElem hlt
    generalize xs[k] = x at hx
    refine GO ?_
    refine Ch.dy (hc x (List.mem_of_getElem? hx)) (r := ?_)
    cases hp : p x
    · refine GO ?_
      exact W.ag (k + 1) ⟨hlt, take_all_succ hx hp hk.2⟩ (by omega)
    · refine GO ?_
      exact fin1 (he := by rw [idxOf_at hx hp hk.2]; rfl)
  · obtain rfl : k = xs.length := by omega
    refine GO ?_
    exact fin1 (he := by rw [idxOf_none fun y hy => hk.2 y (by rwa [List.take_length])]; rfl)
set_option maxRecDepth 10000 in
theorem indexResC {ls : List (List D)} {xs : List Res} [Row ls Res xs resF] (f : FuncId) (cs : List D) (p : Res → Bool) (hc : ∀ x ∈ xs, ∀ n, Con Tryz.prog f ([agD (resF x)] ++ cs.map dT) [] n (bT (p x)) [] n) : ∀ n, Con Tryz.prog 125 [dT (sl 8 ls), dT (cloD f cs)] [] n (iT (idxOf p xs)) [] n := by
  refine fnI Tryz.func125 Tryz.ntmps125 (h := fun S w0 β0 X => ?_)
  refine GO ?_
  refine W.len 6 (h := fun hl => ?_)
  refine W.lp (fun k => k ≤ xs.length ∧ ∀ y ∈ xs.take k, p y = false) (fun k => [(8, iT k)]) [(7, _), (0, _), (1, _)] (xs.length - ·) 0 ⟨Nat.zero_le _, nofun⟩ (round := fun k hk => ?_)
  by_cases hlt : k < xs.length
  · have hx := List.getElem?_eq_getElem hlt
    generalize xs[k] = x at hx
    refine GO ?_
    refine Ch.dy (hc x (List.mem_of_getElem? hx)) (r := ?_)
    cases hp : p x
    · refine GO ?_
      exact W.ag (k + 1) ⟨hlt, take_all_succ hx hp hk.2⟩ (by omega)
    · refine GO ?_
      exact fin1 (he := by rw [idxOf_at hx hp hk.2]; rfl)
  · obtain rfl : k = xs.length := by omega
    refine GO ?_
    exact fin1 (he := by rw [idxOf_none fun y hy => hk.2 y (by rwa [List.take_length])]; rfl)
end Go.Proofs.YtddddgbboipfeaaGreatDoor
namespace Go.Proofs.YtddddgbboipfeaaGreatDoor
open Go.Sv
set_option maxRecDepth 10000 in
theorem gfindC (r : Registry) (s : Str) : ∀ n, Con Tryz.prog 71 [agD (regF r), sT s] [] n (iT (schemaIdx r s)) [] n := by
  have h1 : ∀ x ∈ r.schemas, ∀ n, Con Tryz.prog 112 ([agD (namedF x)] ++ [adr [str s]].map dT) [] n (bT (x.name.toList == s.toList)) [] n := fun x _ => by
    refine fnI Tryz.func112 Tryz.ntmps112 (h := fun S w0 β0 X => ?_)
    refine GO ?_
    exact fin1
  refine fnI Tryz.func71 Tryz.ntmps71 (h := fun S w0 β0 X => ?_)
  have st : Stop 1 := ⟨⟩
  refine GO ?_
  clear st
  refine W.frzB 1 [str s] (h := ?_)
  refine GO ?_
  refine Ch.c (indexNamedC (xs := r.schemas) _ [adr [str s]] (fun x => x.name.toList == s.toList) h1) (r := ?_)
  refine GO ?_
  exact fin1
set_option maxRecDepth 10000 in
theorem fieldC (t : Typ) (s : Str) : ∀ n, Con Tryz.prog 234 [agD (typF t), sT s] [] n (iT (fieldIdx t s)) [] n := by
  have h1 : ∀ x ∈ t.fields, ∀ n, Con Tryz.prog 266 ([agD (fldF x)] ++ [adr [str s]].map dT) [] n (bT (x.name.toList == s.toList)) [] n := fun x _ => by
    refine fnI Tryz.func266 Tryz.ntmps266 (h := fun S w0 β0 X => ?_)
    refine GO ?_
    exact fin1
  refine fnI Tryz.func234 Tryz.ntmps234 (h := fun S w0 β0 X => ?_)
  have st : Stop 1 := ⟨⟩
  refine GO ?_
  clear st
  refine W.frzB 1 [str s] (h := ?_)
  by_cases k1 : t.kind = 1
  · refine GO ?_
    refine Ch.c (indexFldC (xs := t.fields) _ [adr [str s]] (fun x => x.name.toList == s.toList) h1) (r := ?_)
    refine GO ?_
    exact finI (he := by rw [fieldIdx, if_pos k1])
  · refine GO ?_
    exact finI (he := by rw [fieldIdx, if_neg k1])
end Go.Proofs.YtddddgbboipfeaaGreatDoor
namespace Go.Proofs.YtddddgbboipfeaaGreatDoor
open Go.Sv
/-- What one looks for. -/
def keyF (e : Int) (st : List Int) (at_ : List Str) : List D := [i64 e, intsD st, strsD at_, i64 0, i64 0, str ⟨#[]⟩, lit (.slice none 0 0), lit (.slice none 0 0)]
theorem resLess_key (x : Res) (e : Int) (st : List Int) (at_ : List Str) (d : Doc) : firstNZ [cmpI x.edge e, cmpL cmpI x.step st, cmpL cmpS x.at_ at_] = resLess x ⟨e, st, at_, d⟩ := resLess_first x ⟨e, st, at_, d⟩
set_option maxRecDepth 10000 in
theorem at1C (e : Int) (st : List Int) (at_ : List Str) (x : Res) : ∀ n, Con Tryz.prog 173 ([agD (resF x)] ++ [adr (keyF e st at_)].map dT) [] n (bT (decide (firstNZ [cmpI x.edge e, cmpL cmpI x.step st, cmpL cmpS x.at_ at_] = 0))) [] n := by
  refine fnI Tryz.func173 Tryz.ntmps173 (h := fun S w0 β0 X => ?_)
  refine GO ?_
  refine Ch.c (lessG x.edge e x.step st x.at_ at_ _ _ _ _ _ _ _ _ _ _) (r := ?_)
  refine GO ?_
  exact fin1
set_option maxRecDepth 10000 in
theorem atC (e : Int) (st : List Int) (at_ : List Str) : ∀ n, Con Tryz.prog 126 [iT e, dT (intsD st), dT (strsD at_)] [] n (dT (cloD 173 [adr (keyF e st at_)])) [] n := by
  refine fnI Tryz.func126 Tryz.ntmps126 (h := fun S w0 β0 X => ?_)
  have sp : Stop 2 := ⟨⟩
  refine GO ?_
  clear sp
  refine W.frzB 0 (keyF e st at_) (h := ?_)
  refine GO ?_
  exact fin1
set_option maxRecDepth 10000 in
theorem afindC (l : List Res) (e : Int) (st : List Int) (at_ : List Str) : ∀ n, Con Tryz.prog 88 [dT (sl 8 (l.map resF)), iT e, dT (intsD st), dT (strsD at_)] [] n (iT (idxOf (fun x => decide (firstNZ [cmpI x.edge e, cmpL cmpI x.step st, cmpL cmpS x.at_ at_] = 0)) l)) [] n := by
  refine fnI Tryz.func88 Tryz.ntmps88 (h := fun S w0 β0 X => ?_)
  refine GO ?_
  refine Ch.c (atC e st at_) (r := ?_)
  refine Ch.c (indexResC (xs := l) _ _ _ fun x _ => at1C e st at_ x) (r := ?_)
  refine GO ?_
  exact fin1
end Go.Proofs.YtddddgbboipfeaaGreatDoor
namespace Go.Proofs.YtddddgbboipfeaaGreatDoor
open Go.Sv
set_option maxRecDepth 10000 in
theorem gthereC (r : Registry) (k : Int) : ∀ n, Con Tryz.prog 77 [agD (regF r), iT k] [] n (bT (decide (0 ≤ k) && decide (k < r.schemas.length))) [] n := by
  refine fnI Tryz.func77 Tryz.ntmps77 (h := fun S w0 β0 X => ?_)
  refine GO ?_
  exact fin1
set_option maxRecDepth 10000 in
theorem gendC (r : Registry) (h : Hop) (j : Nat) (x : Join) (hj : h.join = j) (hx : r.joins[j]? = some x) : ∀ n, Con Tryz.prog 118 [agD (regF r), agD (hopF h)] [] n (iT (hopEnd x h.back)) [] n := by
  refine fnI Tryz.func118 Tryz.ntmps118 (h := fun S w0 β0 X => ?_)
  cases hb : h.back
  · refine GO ?_
    refine Ch.p (OpT.indexR (hij := hj) (hj := hx)) ⟨rfl, rfl, trivial⟩ ?_
    refine GO ?_
    exact fin1
  · refine GO ?_
    refine Ch.p (OpT.indexR (hij := hj) (hj := hx)) ⟨rfl, rfl, trivial⟩ ?_
    refine GO ?_
    exact fin1
theorem subs_take_le (l : List Lens) (k : Nat) : Lens.subsSize (l.take k) ≤ Lens.subsSize l := by
  conv => rhs; rw [← List.take_append_drop k l, Lens.subsSize_append]
  omega
set_option maxRecDepth 10000 in
theorem lensSizeC (l : List Lens) (hs : Lens.size l ≤ 1000000000) : ∀ n, Con Tryz.prog 149 [dT (sl 16 (lensesC l))] [] n (iT (Lens.size l)) [] n := by
  have hz := Lens.size_subs l
  refine fnI Tryz.func149 Tryz.ntmps149 (h := fun S w0 β0 X => ?_)
  refine GO ?_
  refine W.lp (· ≤ l.length) (fun k => [(10, iT k), (3, iT (l.length + Lens.subsSize (l.take k) : Nat))]) [(9, _), (8, _), (0, _)] (l.length - ·) 0 (Nat.zero_le _) (round := fun k hk => ?_)
  have hle := subs_take_le l k
  by_cases hlt : k < l.length
  · have hx := List.getElem?_eq_getElem hlt
    generalize l[k] = x at hx
    have hm := sub_size (List.mem_of_getElem? hx)
    have hle2 := subs_take_le l (k + 1)
    have ht := Lens.take_subsSize hx
    refine GO ?_
    refine Ch.c (lensSizeC x.subs (by omega)) (r := ?_)
    refine GO ?_
    rw [show ((l.length + Lens.subsSize (l.take k) : Nat) : Int) + Lens.size x.subs = (l.length + Lens.subsSize (l.take (k + 1)) : Nat) by rw [ht]; omega]
    exact W.ag (k + 1) hlt (by omega)
  · obtain rfl : k = l.length := by omega
    refine GO ?_
    exact finI (he := by rw [List.take_length, hz])
termination_by Lens.size l
set_option maxRecDepth 10000 in
theorem clipNamedC (ls : List (List D)) : ∀ n, Con Tryz.prog 105 [dT (sl 7 ls)] [] n (dT (slF 7 ls)) [] n := by
  refine fnI Tryz.func105 Tryz.ntmps105 (h := fun S w0 β0 X => ?_)
  refine GO ?_
  refine Ch.p OpT.lenL ⟨rfl, trivial⟩ ?_
  refine GO ?_
  refine Ch.p OpT.lenL ⟨rfl, trivial⟩ ?_
  refine GO ?_
  exact fin1
set_option maxRecDepth 10000 in
theorem clipJoinC (ls : List (List D)) : ∀ n, Con Tryz.prog 110 [dT (sl 3 ls)] [] n (dT (slF 3 ls)) [] n := by
  refine fnI Tryz.func110 Tryz.ntmps110 (h := fun S w0 β0 X => ?_)
  refine GO ?_
  refine Ch.p OpT.lenL ⟨rfl, trivial⟩ ?_
  refine GO ?_
  refine Ch.p OpT.lenL ⟨rfl, trivial⟩ ?_
  refine GO ?_
  exact fin1
end Go.Proofs.YtddddgbboipfeaaGreatDoor
namespace Go.Proofs.YtddddgbboipfeaaGreatDoor
open Go.Sv
def regU (p : Registry × Int) : T := .tup [.ag ((regF p.1).map C.d), .one (.d (i64 p.2))]
set_option maxRecDepth 10000 in
theorem gaddSC (r : Registry) (s : Str) (t : Typ) (hf : t.fit) (hr : r.schemas.length ≤ 1000000) : ∀ n, Con Tryz.prog 68 [agD (regF r), sT s, agD (typF t)] [] n (regU (addSE r s t)) [] n := by
  refine fnI Tryz.func68 Tryz.ntmps68 (h := fun S w0 β0 X => ?_)
  refine GO ?_
  refine Ch.c (nameC s) (r := ?_)
  refine GO ?_
  refine Ch.gc (hc := fun _ => rightTC t hf) (r := ?_)
  refine GO ?_
  refine W.cond rfl (fun h1 => ?_) (fun h1 => ?_)
  · refine GO ?_
    refine W.nilB 2 0 89 7 (h := ?_)
    refine W.nilB 2 1 92 3 (h := ?_)
    refine W.frz 3 (h := ?_)
    refine W.frz 4 (h := ?_)
    rw [show addSE r s t = (zeroR, 1) by rw [addSE, if_pos (by grind)]]
    exact fin2
  have a1 : ¬ (nameOk s = false ∨ t.right = false ∨ t.kind ≠ 1) := by grind
  refine GO ?_
  refine Ch.c (gfindC r s) (r := ?_)
  by_cases h2 : 0 ≤ schemaIdx r s
  · refine GO ?_
    refine W.nilB 2 0 89 7 (h := ?_)
    refine W.nilB 2 1 92 3 (h := ?_)
    refine W.frz 3 (h := ?_)
    refine W.frz 4 (h := ?_)
    rw [show addSE r s t = (zeroR, 5) by rw [addSE, if_neg a1, if_pos h2]]
    exact fin2
  by_cases h3 : 12 ≤ r.schemas.length
  · refine GO ?_
    refine W.nilB 2 0 89 7 (h := ?_)
    refine W.nilB 2 1 92 3 (h := ?_)
    refine W.frz 3 (h := ?_)
    refine W.frz 4 (h := ?_)
    rw [show addSE r s t = (zeroR, 2) by rw [addSE, if_neg a1, if_neg h2, if_pos h3]]
    exact fin2
  refine GO ?_
  refine Ch.c (clipNamedC (r.schemas.map namedF)) (r := ?_)
  refine GO ?_
  refine Ch.p (OpT.slice1' (hs := asAg (l := namedF ⟨s, t⟩) rfl)) ⟨rfl, trivial⟩ ?_
  refine GO ?_
  refine W.frz 3 (h := ?_)
  rw [show addSE r s t = (⟨r.schemas ++ [⟨s, t⟩], r.joins⟩, 0) by rw [addSE, if_neg a1, if_neg h2, if_neg h3]]
  rw [show regU (⟨r.schemas ++ [⟨s, t⟩], r.joins⟩, 0) = .tup [.ag [.d (sl 7 (r.schemas.map namedF ++ [namedF ⟨s, t⟩])), .d (sl 3 (r.joins.map joinF))], .one (.d (i64 0))] by simp only [regU, regF, List.map_append, List.map_cons, List.map_nil]]
  exact fin2
end Go.Proofs.YtddddgbboipfeaaGreatDoor
namespace Go.Proofs.YtddddgbboipfeaaGreatDoor
open Go.Sv
set_option maxRecDepth 10000 in
theorem lensDepthC (l : List Lens) (hs : Lens.size l ≤ 1000000000) : ∀ n, Con Tryz.prog 150 [dT (sl 16 (lensesC l))] [] n (iT (Lens.depth l)) [] n := by
  refine fnI Tryz.func150 Tryz.ntmps150 (h := fun S w0 β0 X => ?_)
  refine GO ?_
  refine W.len 6 (h := fun hl => ?_)
  have hd := Lens.depth_le _ l (Nat.le_refl _)
  refine W.lp (· ≤ l.length) (fun k => [(8, iT k), (3, iT ((Lens.depth (l.take k) : Int) - 1))]) [(7, _), (6, _), (0, _)] (l.length - ·) 0 (Nat.zero_le _) (round := fun k hk => ?_)
  have hle := Lens.depth_take l k
  by_cases hlt : k < l.length
  · have hx := List.getElem?_eq_getElem hlt
    generalize l[k] = x at hx
    have hm := sub_size (List.mem_of_getElem? hx)
    have ht := Lens.take_depth hx
    refine GO ?_
    refine Ch.c (lensDepthC x.subs (by omega)) (r := ?_)
    refine GO ?_
    rw [show (if (Lens.depth x.subs : Int) > (Lens.depth (l.take k) : Int) - 1 then (Lens.depth x.subs : Int) else (Lens.depth (l.take k) : Int) - 1) = (Lens.depth (l.take (k + 1)) : Int) - 1 by rw [ht]; split <;> omega]
    exact W.ag (k + 1) hlt (by omega)
  · obtain rfl : k = l.length := by omega
    rw [List.take_length]
    refine GO ?_
    exact finI (he := by omega)
termination_by Lens.size l
set_option maxRecDepth 10000 in
theorem eqStrsC (l m : List Str) : ∀ n, Con Tryz.prog 152 [dT (strsD l), dT (strsD m)] [] n (bT (eqL l m)) [] n := by
  refine fnI Tryz.func152 Tryz.ntmps152 (h := fun S w0 β0 X => ?_)
  by_cases h0 : (l.length : Int) = m.length
  · refine GO ?_
    refine W.len 11 (h := fun hl => ?_)
    refine W.lp (fun k => k ≤ l.length ∧ eqL (l.drop k) (m.drop k) = eqL l m) (fun k => [(13, iT k)]) [(12, _), (0, _), (1, _)] (l.length - ·) 0 ⟨Nat.zero_le _, rfl⟩ (round := fun k hk => ?_)
    by_cases hlt : k < l.length
    · have hx := List.getElem?_eq_getElem hlt
      generalize l[k] = x at hx
      have hy := List.getElem?_eq_getElem (show k < m.length by omega)
      generalize m[k]'(by omega) = y at hy
      have hc := eqL_drop hx hy
      refine GO ?_
      refine W.cond rfl (fun h => ?_) (fun h => ?_)
      · refine GO ?_
        exact finB (he := by rw [← hk.2, hc]; grind)
      · refine GO ?_
        exact W.ag (k + 1) ⟨hlt, by rw [← hk.2, hc]; grind⟩ (by omega)
    · obtain rfl : k = l.length := by omega
      refine GO ?_
      exact finB (he := by rw [← hk.2, List.drop_length, show l.length = m.length by omega, List.drop_length]; rfl)
  · refine GO ?_
    exact finB (he := by
      cases h : eqL l m
      · rfl
      · exact absurd (eqL_len h) (by omega))
end Go.Proofs.YtddddgbboipfeaaGreatDoor
