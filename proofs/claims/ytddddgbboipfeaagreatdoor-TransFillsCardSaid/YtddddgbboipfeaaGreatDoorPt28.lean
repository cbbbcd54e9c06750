/- Part 28 of what TransFills asks: for every input it returns true, and its input reads as it did. No condition. -/
import Derived.Test.YtddddgbboipfeaaGreatDoorPt27
import Derived.Test.YtddddgbboipfeaaGreatDoorProg
import Derived.Laws.Small
import Derived.Shelf.SlGeneric
import Derived.Shelf.LaysM
import Derived.Shelf.Strconv.Itoa3
import Derived.Shelf.SlSortCmp.WholeK
import Derived.Shelf.Small.Strs
import Derived.Ground.NamesProg
import Derived.Ground.Names2Prog
import Derived.Ground.SlsfProg
namespace Go.Proofs.YtddddgbboipfeaaGreatDoor
open Go.Sv
set_option maxRecDepth 10000 in
theorem eqTypsC {ls ms : List (List D)} {l m : List Typ} [Row ls Typ l typF] [Row ms Typ m typF] (f : FuncId) (cs : List D) (p : Typ → Typ → Bool) (hc : ∀ x ∈ l, ∀ y ∈ m, ∀ n, Con Tryz.prog f ([agD (typF x), agD (typF y)] ++ cs.map dT) [] n (bT (p x y)) [] n) : ∀ n, Con Tryz.prog 155 [dT (sl 6 ls), dT (sl 6 ms), dT (cloD f cs)] [] n (bT (eqF p l m)) [] n := by
  refine fnI Tryz.func155 Tryz.ntmps155 (h := fun S w0 β0 X => ?_)
  by_cases h0 : (l.length : Int) = m.length
  · refine GO ?_
    refine W.len 15 (h := fun hl => ?_)
    refine W.lp (fun k => k ≤ l.length ∧ eqF p (l.drop k) (m.drop k) = eqF p l m) (fun k => [(17, iT k)]) [(16, _), (15, _), (1, _), (2, _)] (l.length - ·) 0 ⟨Nat.zero_le _, rfl⟩ (round := fun k hk => ?_)
    by_cases hlt : k < l.length
    · have hx := List.getElem?_eq_getElem hlt
      generalize l[k] = x at hx
      have hy := List.getElem?_eq_getElem (show k < m.length by omega)
      generalize m[k]'(by omega) = y at hy
      have he := eqF_drop (g := p) hx hy
      refine GO ?_
      refine Ch.dy (ts := [_, _]) (hc x (List.mem_of_getElem? hx) y (List.mem_of_getElem? hy)) (r := ?_)
      cases hb : p x y
      · refine GO ?_
        exact finB (he := by rw [← hk.2, he, hb]; rfl)
      · refine GO ?_
        exact W.ag (k + 1) ⟨hlt, by rw [← hk.2, he, hb]; rfl⟩ (by omega)
    · obtain rfl : k = l.length := by omega
      refine GO ?_
      exact finB (he := by rw [← hk.2, List.drop_length, show l.length = m.length by omega, List.drop_length]; rfl)
  · refine GO ?_
    exact finB (he := by
      cases h : eqF p l m
      · rfl
      · exact absurd (eqF_len h) (by omega))
set_option maxRecDepth 10000 in
theorem eqFldsC {ls ms : List (List D)} {l m : List Fld} [Row ls Fld l fldF] [Row ms Fld m fldF] (f : FuncId) (cs : List D) (p : Fld → Fld → Bool) (hc : ∀ x ∈ l, ∀ y ∈ m, ∀ n, Con Tryz.prog f ([agD (fldF x), agD (fldF y)] ++ cs.map dT) [] n (bT (p x y)) [] n) : ∀ n, Con Tryz.prog 153 [dT (sl 8 ls), dT (sl 8 ms), dT (cloD f cs)] [] n (bT (eqF p l m)) [] n := by
  refine fnI Tryz.func153 Tryz.ntmps153 (h := fun S w0 β0 X => ?_)
  by_cases h0 : (l.length : Int) = m.length
  · refine GO ?_
    refine W.len 15 (h := fun hl => ?_)
    refine W.lp (fun k => k ≤ l.length ∧ eqF p (l.drop k) (m.drop k) = eqF p l m) (fun k => [(17, iT k)]) [(16, _), (15, _), (1, _), (2, _)] (l.length - ·) 0 ⟨Nat.zero_le _, rfl⟩ (round := fun k hk => ?_)
    by_cases hlt : k < l.length
    · have hx := List.getElem?_eq_getElem hlt
      generalize l[k] = x at hx
      have hy := List.getElem?_eq_getElem (show k < m.length by omega)
      generalize m[k]'(by omega) = y at hy
      have he := eqF_drop (g := p) hx hy
      refine GO ?_
      refine Ch.dy (ts := [_, _]) (hc x (List.mem_of_getElem? hx) y (List.mem_of_getElem? hy)) (r := ?_)
      cases hb : p x y
      · refine GO ?_
        exact finB (he := by rw [← hk.2, he, hb]; rfl)
      · refine GO ?_
        exact W.ag (k + 1) ⟨hlt, by rw [← hk.2, he, hb]; rfl⟩ (by omega)
    · obtain rfl : k = l.length := by omega
      refine GO ?_
      exact finB (he := by rw [← hk.2, List.drop_length, show l.length = m.length by omega, List.drop_length]; rfl)
  · refine GO ?_
    exact finB (he := by
      cases h : eqF p l m
      · rfl
      · exact absurd (eqF_len h) (by omega))
set_option maxRecDepth 10000 in
theorem eqRessC {ls ms : List (List D)} {l m : List Res} [Row ls Res l resF] [Row ms Res m resF] (f : FuncId) (cs : List D) (p : Res → Res → Bool) (hc : ∀ x ∈ l, ∀ y ∈ m, ∀ n, Con Tryz.prog f ([agD (resF x), agD (resF y)] ++ cs.map dT) [] n (bT (p x y)) [] n) : ∀ n, Con Tryz.prog 30 [dT (sl 8 ls), dT (sl 8 ms), dT (cloD f cs)] [] n (bT (eqF p l m)) [] n := by
  refine fnI Tryz.func30 Tryz.ntmps30 (h := fun S w0 β0 X => ?_)
  by_cases h0 : (l.length : Int) = m.length
  · refine GO ?_
    refine W.len 15 (h := fun hl => ?_)
    refine W.lp (fun k => k ≤ l.length ∧ eqF p (l.drop k) (m.drop k) = eqF p l m) (fun k => [(17, iT k)]) [(16, _), (15, _), (1, _), (2, _)] (l.length - ·) 0 ⟨Nat.zero_le _, rfl⟩ (round := fun k hk => ?_)
    by_cases hlt : k < l.length
    · have hx := List.getElem?_eq_getElem hlt
      generalize l[k] = x at hx
      have hy := List.getElem?_eq_getElem (show k < m.length by omega)
      generalize m[k]'(by omega) = y at hy
      have he := eqF_drop (g := p) hx hy
      refine GO ?_
      refine Ch.dy (ts := [_, _]) (hc x (List.mem_of_getElem? hx) y (List.mem_of_getElem? hy)) (r := ?_)
      cases hb : p x y
      · refine GO ?_
        exact finB (he := by rw [← hk.2, he, hb]; rfl)
      · refine GO ?_
        exact W.ag (k + 1) ⟨hlt, by rw [← hk.2, he, hb]; rfl⟩ (by omega)
    · obtain rfl : k = l.length := by omega
      refine GO ?_
      exact finB (he := by rw [← hk.2, List.drop_length, show l.length = m.length by omega, List.drop_length]; rfl)
  · refine GO ?_
    exact finB (he := by
      cases h : eqF p l m
      · rfl
      · exact absurd (eqF_len h) (by omega))
end Go.Proofs.YtddddgbboipfeaaGreatDoor
namespace Go.Sv
open Go
theorem OpT.eqB {P : Program} {ops : Array Oper} {n : Nat} {d : Option Tmp} {ty t t' : TypeId} {pos : String} {af : Array Edge} {x y : Operand} {a b : Bool} (ht : P.underlying t = some .bool) : OpT P ops (mkO d (.binOp .eql t x y t') ty pos af) n [(x, bT a), (y, bT b)] [] [] (bT (a == b)) [] n := .runD rfl fun β V w A _ h => by
  obtain ⟨h1, h2⟩ := in2 h
  have e1 : A.eval x = .bool a := h1
  have e2 : A.eval y = .bool b := h2
  exact ⟨.bool (a == b), by simp [execOp, e1, e2, eqGuard, binOp, run_equal_bool w t a b ht], rfl⟩
end Go.Sv
namespace Go.Proofs.YtddddgbboipfeaaGreatDoor
open Go.Sv
set_option maxRecDepth 10000 in
theorem sameTC (t u : Typ) : ∀ n, Con Tryz.prog 109 [agD (typF t), agD (typF u)] [] n (bT (t.same u)) [] n := by
  have hF : ∀ f ∈ t.fields, ∀ g ∈ u.fields, ∀ n, Con Tryz.prog 154 ([agD (fldF f), agD (fldF g)] ++ [].map dT) [] n (bT (Typ.sameF f g)) [] n := fun f hf g hg => by
    refine fnI Tryz.func154 Tryz.ntmps154 (h := fun S w0 β0 X => ?_)
    refine GO ?_
    refine Ch.g (h := fun _ => OpT.eqB Tryz.underlying4) (r := ?_)
    refine GO ?_
    refine Ch.gc (hc := fun _ => sameTC f.typ g.typ) (r := ?_)
    refine GO ?_
    exact finB (he := by rw [Typ.sameF_parts])
  have hT : ∀ f ∈ t.of, ∀ g ∈ u.of, ∀ n, Con Tryz.prog 109 ([agD (typF f), agD (typF g)] ++ [].map dT) [] n (bT (Typ.same f g)) [] n := fun f hf g hg => sameTC f g
  refine fnI Tryz.func109 Tryz.ntmps109 (h := fun S w0 β0 X => ?_)
  refine GO ?_
  refine Ch.gc (hc := fun _ => eqStrsC t.names u.names) (r := ?_)
  refine GO ?_
  refine Ch.gc (hc := fun _ => eqFldsC (l := t.fields) (m := u.fields) _ [] Typ.sameF hF) (r := ?_)
  refine GO ?_
  refine Ch.gc (hc := fun _ => eqTypsC (l := t.of) (m := u.of) _ [] Typ.same hT) (r := ?_)
  refine GO ?_
  exact finB (he := by rw [Typ.same_parts]; rfl)
termination_by t.size
decreasing_by
  · exact fld_size hf
  · exact of_size hf
end Go.Proofs.YtddddgbboipfeaaGreatDoor
namespace Go.Proofs.YtddddgbboipfeaaGreatDoor
open Go.Sv
set_option maxRecDepth 10000 in
theorem scalarC (t : Typ) : ∀ n, Con Tryz.prog 282 [agD (typF t)] [] n (bT (scalarB t)) [] n := by
  refine fnI Tryz.func282 Tryz.ntmps282 (h := fun S w0 β0 X => ?_)
  refine GO ?_
  exact fin1
set_option maxRecDepth 10000 in
theorem vrightC (t : Typ) (d : Doc) (ht : t.fit) (hd : d.fit) : ∀ n, Con Tryz.prog 195 [agD (typF t), agD (docF d)] [] n (bT (bothRight t d)) [] n := by
  refine fnI Tryz.func195 Tryz.ntmps195 (h := fun S w0 β0 X => ?_)
  refine GO ?_
  refine Ch.c (rightTC t ht) (r := ?_)
  refine GO ?_
  refine Ch.gc (hc := fun _ => docRightC d hd) (r := ?_)
  refine GO ?_
  exact fin1
set_option maxRecDepth 10000 in
theorem kindsC (t : Typ) (d : Doc) : ∀ n, Con Tryz.prog 267 [agD (typF t), agD (docF d)] [] n (bT (kindsOk t d)) [] n := by
  refine fnI Tryz.func267 Tryz.ntmps267 (h := fun S w0 β0 X => ?_)
  by_cases h : t.kind = 7
  · refine GO ?_
    exact finB (he := by rw [kindsOk, if_pos h]; rfl)
  · refine GO ?_
    exact finB (he := by rw [kindsOk, if_neg h]; rfl)
set_option maxRecDepth 10000 in
theorem withinC (k : Int) (t : Typ) : ∀ n, Con Tryz.prog 268 [iT k, agD (typF t)] [] n (iT (withinE k t)) [] n := by
  refine fnI Tryz.func268 Tryz.ntmps268 (h := fun S w0 β0 X => ?_)
  refine GO ?_
  refine W.cond rfl (fun h => ?_) (fun h => ?_)
  · refine GO ?_
    exact finI (he := by simp at h; rw [withinE, if_pos h])
  · refine GO ?_
    exact finI (he := by simp at h; rw [withinE, if_neg (by omega)])
set_option maxRecDepth 10000 in
theorem indexStrC (l : List Str) (s : Str) : ∀ n, Con Tryz.prog 233 [dT (strsD l), sT s] [] n (iT (idxOf (fun x => s.toList == x.toList) l)) [] n := by
  refine fnI Tryz.func233 Tryz.ntmps233 (h := fun S w0 β0 X => ?_)
  refine GO ?_
  refine W.len 6 (h := fun hl => ?_)
  refine W.lp (fun k => k ≤ l.length ∧ ∀ y ∈ l.take k, (s.toList == y.toList) = false) (fun k => [(8, iT k)]) [(7, _), (0, _), (1, _)] (l.length - ·) 0 ⟨Nat.zero_le _, nofun⟩ (round := fun k hk => ?_)
  by_cases hlt : k < l.length
  · have hx := List.getElem?_eq_getElem hlt
    generalize l[k] = x at hx
    refine GO ?_
    refine W.cond rfl (fun hp => ?_) (fun hp => ?_)
    · refine GO ?_
      exact finI (he := by rw [idxOf_at (p := fun x : Str => s.toList == x.toList) hx hp hk.2])
    · refine GO ?_
      exact W.ag (k + 1) ⟨hlt, take_all_succ (p := fun x : Str => s.toList == x.toList) hx hp hk.2⟩ (by omega)
  · obtain rfl : k = l.length := by omega
    refine GO ?_
    exact finI (he := by rw [idxOf_none fun y hy => hk.2 y (by rwa [List.take_length])])
set_option maxRecDepth 10000 in
theorem containsStrC (l : List Str) (s : Str) : ∀ n, Con Tryz.prog 269 [dT (strsD l), sT s] [] n (bT (l.any fun x => s.toList == x.toList)) [] n := by
  refine fnI Tryz.func269 Tryz.ntmps269 (h := fun S w0 β0 X => ?_)
  refine GO ?_
  refine Ch.c (indexStrC l s) (r := ?_)
  refine GO ?_
  exact finB (he := idxOf_nonneg _ l)
end Go.Proofs.YtddddgbboipfeaaGreatDoor
namespace Go.Proofs.YtddddgbboipfeaaGreatDoor
open Go.Sv
set_option maxRecDepth 10000 in
theorem garoundC (r : Registry) (c : Int) (hr : r.joins.length ≤ 1000000) : ∀ n, Con Tryz.prog 117 [agD (regF r), iT c] [] n (dT (sl 2 ((hopsAt r c).map hopF))) [] n := by
  refine fnI Tryz.func117 Tryz.ntmps117 (h := fun S w0 β0 X => ?_)
  have st : Stop 2 := ⟨⟩
  refine GO ?_
  clear st
  refine W.nilT 5 84 2 (h := ?_)
  refine GO ?_
  refine W.lpG (fun k => k ≤ r.joins.length ∧ (arnd (hopsG c) 0 (r.joins.take k)).length ≤ k) (fun k => [(11, iT k)]) [(10, _), (9, _), (1, _), (2, _), (5, _)] (fun k => [(1, .row 84 2 ((arnd (hopsG c) 0 (r.joins.take k)).map hopF))]) [(0, _)] (r.joins.length - ·) 0 ⟨Nat.zero_le _, Nat.zero_le _⟩ (round := fun k hk => ?_)
  have hle := hk.2
  by_cases hlt : k < r.joins.length
  · have hx := List.getElem?_eq_getElem hlt
    generalize r.joins[k] = x at hx
    have ha := arnd_succ (F := hopsG c) hx
    have hl : ((arnd (hopsG c) 0 (r.joins.take k)).map hopF).length ≤ k := by rw [List.length_map]; exact hle
    by_cases h1 : c = x.from_
    · rw [hopsG, if_pos h1.symm] at ha
      refine GO ?_
      refine Ch.p (OpT.slice1' (hs := asAg (l := hopF ⟨k, false⟩) rfl)) ⟨rfl, trivial⟩ ?_
      refine GO ?_
      rw [show ((arnd (hopsG c) 0 (r.joins.take k)).map hopF) ++ [hopF ⟨k, false⟩] = (arnd (hopsG c) 0 (r.joins.take (k + 1))).map hopF by rw [ha, List.map_append]; rfl]
      refine W.swap 1 3 (h := ?_)
      exact W.ag (k + 1) ⟨hlt, by rw [ha, List.length_append, List.length_singleton]; omega⟩ (by omega)
    · by_cases h2 : c = x.to
      · rw [hopsG, if_neg (fun e => h1 e.symm), if_pos h2.symm] at ha
        refine GO ?_
        refine Ch.p (OpT.slice1' (hs := asAg (l := hopF ⟨k, true⟩) rfl)) ⟨rfl, trivial⟩ ?_
        refine GO ?_
        rw [show ((arnd (hopsG c) 0 (r.joins.take k)).map hopF) ++ [hopF ⟨k, true⟩] = (arnd (hopsG c) 0 (r.joins.take (k + 1))).map hopF by rw [ha, List.map_append]; rfl]
        refine W.swap 1 3 (h := ?_)
        exact W.ag (k + 1) ⟨hlt, by rw [ha, List.length_append, List.length_singleton]; omega⟩ (by omega)
      · rw [hopsG, if_neg (fun e => h1 e.symm), if_neg (fun e => h2 e.symm), List.append_nil] at ha
        refine GO ?_
        rw [← ha]
        exact W.ag (k + 1) ⟨hlt, by rw [ha]; omega⟩ (by omega)
  · obtain rfl : k = r.joins.length := by omega
    rw [List.take_length]
    refine GO ?_
    refine W.frz 1 (h := ?_)
    exact fin1
end Go.Proofs.YtddddgbboipfeaaGreatDoor
namespace Go.Proofs.YtddddgbboipfeaaGreatDoor
open Go.Sv
/-- A field that is none. -/
def fldZ : List D := [str ⟨#[]⟩, bl false, i64 0, i64 0, i64 0, lit (.slice none 0 0), lit (.slice none 0 0), lit (.slice none 0 0)]
def findU : Option Fld → T
  | some f => .tup [.ag ((fldF f).map C.d), .one (.d (bl true))]
  | none => .tup [.ag (fldZ.map C.d), .one (.d (bl false))]
theorem findU_keys : ∀ o, (findU o).keys = []
  | some _ => rfl
  | none => rfl
set_option maxRecDepth 10000 in
theorem lfindC (t : Typ) (s : Str) : ∀ n, Con Tryz.prog 229 [agD (typF t), sT s] [] n (findU (t.find s)) [] n := by
  refine fnI Tryz.func229 Tryz.ntmps229 (hko := findU_keys _) (h := fun S w0 β0 X => ?_)
  refine GO ?_
  refine Ch.c (fieldC t s) (r := ?_)
  rcases find_cases t s with ⟨h1, h2⟩ | ⟨j, x, h1, h2, h3, _⟩
  · rw [h1, h2]
    have hn : ((-1 : Int) < 0) := by omega
    refine GO ?_
    exact fin2
  · rw [h2, h3]
    refine GO ?_
    exact fin2
end Go.Proofs.YtddddgbboipfeaaGreatDoor
namespace Go.Proofs
open Go.Shelf
def Tryz.laysM171_ren : Go.Shelf.Ren := ⟨fun | 171 => 237 | 243 => 270 | 246 => 286 | 283 => 293 | 284 => 294 | 285 => 295 | 286 => 296 | 129 => 166 | 317 => 306 | 318 => 307 | 319 => 308 | 320 => 309 | 337 => 313 | 338 => 314 | n => n, fun | 3 => 3 | 9 => 9 | 2 => 2 | 4 => 4 | 171 => 275 | 0 => 0 | 53 => 187 | 37 => 253 | 5 => 5 | 173 => 277 | 212 => 284 | 51 => 185 | 20 => 20 | 213 => 285 | 46 => 147 | 232 => 289 | 233 => 290 | n => n, fun | 17 => 1 | 18 => 2 | 19 => 3 | n => n⟩
theorem Tryz.laysM171 : Go.Proofs.LaysM.n171 Tryz.prog Tryz.laysM171_ren := {
  mixed := by kernel_rfl
  f129 := Tryz.func166.trans (congrArg some (by kernel_rfl))
  f171 := Tryz.func237.trans (congrArg some (by kernel_rfl))
  f243 := Tryz.func270.trans (congrArg some (by kernel_rfl))
  f246 := Tryz.func286.trans (congrArg some (by kernel_rfl))
  f283 := Tryz.func293.trans (congrArg some (by kernel_rfl))
  f284 := Tryz.func294.trans (congrArg some (by kernel_rfl))
  f285 := Tryz.func295.trans (congrArg some (by kernel_rfl))
  f286 := Tryz.func296.trans (congrArg some (by kernel_rfl))
  f317 := Tryz.func306.trans (congrArg some (by kernel_rfl))
  f318 := Tryz.func307.trans (congrArg some (by kernel_rfl))
  f319 := Tryz.func308.trans (congrArg some (by kernel_rfl))
  f320 := Tryz.func309.trans (congrArg some (by kernel_rfl))
  f337 := Tryz.func313.trans (congrArg some (by kernel_rfl))
  f338 := Tryz.func314.trans (congrArg some (by kernel_rfl))
  t0 := Tryz.underlying0
  a0 := Tryz.isAgg0
  z0 := Tryz.sizeOf0
  v0 := Tryz.zeroValue0
  t2 := Tryz.underlying2
  a2 := Tryz.isAgg2
  z2 := Tryz.sizeOf2
  v2 := Tryz.zeroValue2
  t3 := Tryz.underlying3
  a3 := Tryz.isAgg3
  z3 := Tryz.sizeOf3
  v3 := Tryz.zeroValue3
  t4 := Tryz.underlying4
  a4 := Tryz.isAgg4
  z4 := Tryz.sizeOf4
  v4 := Tryz.zeroValue4
  t5 := Tryz.underlying5
  a5 := Tryz.isAgg5
  z5 := Tryz.sizeOf5
  v5 := Tryz.zeroValue5
  t9 := Tryz.underlying9
  a9 := Tryz.isAgg9
  z9 := Tryz.sizeOf9
  v9 := Tryz.zeroValue9
  t20 := Tryz.underlying20
  a20 := Tryz.isAgg20
  z20 := Tryz.sizeOf20
  v20 := Tryz.zeroValue20
  t37 := Tryz.underlying253
  a37 := Tryz.isAgg253
  z37 := Tryz.sizeOf253
  v37 := Tryz.zeroValue253
  t46 := Tryz.underlying147
  a46 := Tryz.isAgg147
  z46 := Tryz.sizeOf147
  v46 := Tryz.zeroValue147
  t51 := Tryz.underlying185
  a51 := Tryz.isAgg185
  z51 := Tryz.sizeOf185
  v51 := Tryz.zeroValue185
  t53 := Tryz.underlying187
  a53 := Tryz.isAgg187
  z53 := Tryz.sizeOf187
  v53 := Tryz.zeroValue187
  t171 := Tryz.underlying275
  a171 := Tryz.isAgg275
  z171 := Tryz.sizeOf275
  v171 := Tryz.zeroValue275
  t173 := Tryz.underlying277
  a173 := Tryz.isAgg277
  z173 := Tryz.sizeOf277
  v173 := Tryz.zeroValue277
  t212 := Tryz.underlying284
  a212 := Tryz.isAgg284
  z212 := Tryz.sizeOf284
  v212 := Tryz.zeroValue284
  t213 := Tryz.underlying285
  a213 := Tryz.isAgg285
  z213 := Tryz.sizeOf285
  t232 := Tryz.underlying289
  a232 := Tryz.isAgg289
  z232 := Tryz.sizeOf289
  v232 := Tryz.zeroValue289
  t233 := Tryz.underlying290
  a233 := Tryz.isAgg290
  z233 := Tryz.sizeOf290
  v233 := Tryz.zeroValue290
  g17 := by kernel_rfl
  g18 := by kernel_rfl
  g19 := by kernel_rfl
  i0 := by kernel_rfl
  i2 := by kernel_rfl
  i3 := by kernel_rfl
  i4 := by kernel_rfl
  i5 := by kernel_rfl
  i9 := by kernel_rfl
  i20 := by kernel_rfl
  i37 := by kernel_rfl
  i46 := by kernel_rfl
  i51 := by kernel_rfl
  i53 := by kernel_rfl
  i171 := by kernel_rfl
  i173 := by kernel_rfl
  i212 := by kernel_rfl
  i232 := by kernel_rfl
  i233 := by kernel_rfl
  m17 := by kernel_rfl
  m18 := by kernel_rfl
  m19 := by kernel_rfl }
def Tryz.sortFld_ren : Go.Shelf.Ren := ⟨fun | 6 => 279 | 15 => 115 | 14 => 289 | 28 => 165 | 29 => 166 | 20 => 297 | 21 => 298 | 22 => 299 | 23 => 300 | 24 => 301 | 25 => 302 | 26 => 303 | 27 => 304 | 46 => 310 | 47 => 191 | 48 => 192 | 49 => 311 | 50 => 312 | 57 => 315 | n => n, fun | 22 => 59 | 24 => 66 | 25 => 266 | 3 => 3 | 39 => 147 | 0 => 0 | 53 => 185 | 55 => 187 | 4 => 4 | 46 => 177 | 45 => 176 | 50 => 182 | 5 => 5 | 9 => 9 | 66 => 208 | 70 => 212 | 76 => 244 | 77 => 245 | n => n, fun | n => n⟩
theorem Tryz.sortFld : Go.Proofs.SlLaysF0.n6 Tryz.prog Tryz.sortFld_ren := {
  mixed := by kernel_rfl
  f6 := ⟨Tryz.f279.name, by decide, Tryz.func279.trans (congrArg some (by kernel_rfl))⟩
  f14 := ⟨Tryz.f289.name, by decide, Tryz.func289.trans (congrArg some (by kernel_rfl))⟩
  f15 := Tryz.func115.trans (congrArg some (by kernel_rfl))
  f20 := ⟨Tryz.f297.name, by decide, Tryz.func297.trans (congrArg some (by kernel_rfl))⟩
  f21 := ⟨Tryz.f298.name, by decide, Tryz.func298.trans (congrArg some (by kernel_rfl))⟩
  f22 := ⟨Tryz.f299.name, by decide, Tryz.func299.trans (congrArg some (by kernel_rfl))⟩
  f23 := ⟨Tryz.f300.name, by decide, Tryz.func300.trans (congrArg some (by kernel_rfl))⟩
  f24 := ⟨Tryz.f301.name, by decide, Tryz.func301.trans (congrArg some (by kernel_rfl))⟩
  f25 := ⟨Tryz.f302.name, by decide, Tryz.func302.trans (congrArg some (by kernel_rfl))⟩
  f26 := ⟨Tryz.f303.name, by decide, Tryz.func303.trans (congrArg some (by kernel_rfl))⟩
  f27 := ⟨Tryz.f304.name, by decide, Tryz.func304.trans (congrArg some (by kernel_rfl))⟩
  f28 := Tryz.func165.trans (congrArg some (by kernel_rfl))
  f29 := Tryz.func166.trans (congrArg some (by kernel_rfl))
  f46 := ⟨Tryz.f310.name, by decide, Tryz.func310.trans (congrArg some (by kernel_rfl))⟩
  f47 := Tryz.func191.trans (congrArg some (by kernel_rfl))
  f48 := Tryz.func192.trans (congrArg some (by kernel_rfl))
  f49 := ⟨Tryz.f311.name, by decide, Tryz.func311.trans (congrArg some (by kernel_rfl))⟩
  f50 := ⟨Tryz.f312.name, by decide, Tryz.func312.trans (congrArg some (by kernel_rfl))⟩
  f57 := ⟨Tryz.f315.name, by decide, Tryz.func315.trans (congrArg some (by kernel_rfl))⟩
  t0 := Tryz.underlying0
  a0 := Tryz.isAgg0
  z0 := Tryz.sizeOf0
  v0 := Tryz.zeroValue0
  t3 := Tryz.underlying3
  a3 := Tryz.isAgg3
  z3 := Tryz.sizeOf3
  v3 := Tryz.zeroValue3
  t4 := Tryz.underlying4
  a4 := Tryz.isAgg4
  z4 := Tryz.sizeOf4
  v4 := Tryz.zeroValue4
  t5 := Tryz.underlying5
  a5 := Tryz.isAgg5
  z5 := Tryz.sizeOf5
  v5 := Tryz.zeroValue5
  t9 := Tryz.underlying9
  a9 := Tryz.isAgg9
  z9 := Tryz.sizeOf9
  v9 := Tryz.zeroValue9
  t22 := Tryz.underlying59
  a22 := Tryz.isAgg59
  z22 := Tryz.sizeOf59
  v22 := Tryz.zeroValue59
  t25 := Tryz.underlying266
  a25 := Tryz.isAgg266
  z25 := Tryz.sizeOf266
  v25 := Tryz.zeroValue266
  t39 := Tryz.underlying147
  a39 := Tryz.isAgg147
  z39 := Tryz.sizeOf147
  v39 := Tryz.zeroValue147
  t45 := Tryz.underlying176
  a45 := Tryz.isAgg176
  z45 := Tryz.sizeOf176
  v45 := Tryz.zeroValue176
  t46 := Tryz.underlying177
  a46 := Tryz.isAgg177
  z46 := Tryz.sizeOf177
  v46 := Tryz.zeroValue177
  t50 := Tryz.underlying182
  a50 := Tryz.isAgg182
  z50 := Tryz.sizeOf182
  v50 := Tryz.zeroValue182
  t53 := Tryz.underlying185
  a53 := Tryz.isAgg185
  z53 := Tryz.sizeOf185
  v53 := Tryz.zeroValue185
  t55 := Tryz.underlying187
  a55 := Tryz.isAgg187
  z55 := Tryz.sizeOf187
  v55 := Tryz.zeroValue187
  t66 := Tryz.underlying208
  a66 := Tryz.isAgg208
  z66 := Tryz.sizeOf208
  v66 := Tryz.zeroValue208
  t70 := Tryz.underlying212
  a70 := Tryz.isAgg212
  z70 := Tryz.sizeOf212
  v70 := Tryz.zeroValue212
  t76 := Tryz.underlying244
  a76 := Tryz.isAgg244
  z76 := Tryz.sizeOf244
  v76 := Tryz.zeroValue244
  t77 := Tryz.underlying245
  a77 := Tryz.isAgg245
  z77 := Tryz.sizeOf245
  v77 := Tryz.zeroValue245 }
def Tryz.lays106_ren : Go.Shelf.Ren := ⟨fun | 106 => 281 | 213 => 290 | 265 => 305 | n => n, fun | 9 => 9 | 3 => 3 | n => n, fun | n => n⟩
theorem Tryz.lays106 : Go.Proofs.Lays.n106 Tryz.prog Tryz.lays106_ren := {
  mixed := by kernel_rfl
  f106 := Tryz.func281.trans (congrArg some (by kernel_rfl))
  f213 := Tryz.func290.trans (congrArg some (by kernel_rfl))
  f265 := Tryz.func305.trans (congrArg some (by kernel_rfl))
  t3 := Tryz.underlying3
  a3 := Tryz.isAgg3
  z3 := Tryz.sizeOf3
  v3 := Tryz.zeroValue3
  t9 := Tryz.underlying9
  a9 := Tryz.isAgg9
  z9 := Tryz.sizeOf9
  v9 := Tryz.zeroValue9 }
end Go.Proofs
