/- Part 25 of what StageOrder and StagePlans ask: for every input each returns true, and its input reads as it did. No condition. -/
import Derived.Test.YtelkpflpgpdkdaaGreatDoorPt24
import Derived.Laws.Small
namespace Go.Proofs.YtelkpflpgpdkdaaGreatDoor
open Go.Sv
/-- What one looks for. -/
def keyF (e : Int) (st : List Int) (at_ : List Str) : List D := [i64 e, intsD st, strsD at_, i64 0, i64 0, str ⟨#[]⟩, lit (.slice none 0 0), lit (.slice none 0 0)]
set_option maxRecDepth 10000 in
theorem at1C (e : Int) (st : List Int) (at_ : List Str) (x : Res) : ∀ n, Con Tryz.prog 181 ([agD (resF x)] ++ [adr (keyF e st at_)].map dT) [] n (bT (decide (firstNZ [cmpI x.edge e, cmpL cmpI x.step st, cmpL cmpS x.at_ at_] = 0))) [] n := by
  refine fnI Tryz.func181 Tryz.ntmps181 (h := fun S w0 β0 X => ?_)
  refine GO ?_
  refine Ch.c (lessG x.edge e x.step st x.at_ at_ _ _ _ _ _ _ _ _ _ _) (r := ?_)
  refine GO ?_
  exact fin1
set_option maxRecDepth 10000 in
theorem atC (e : Int) (st : List Int) (at_ : List Str) : ∀ n, Con Tryz.prog 143 [iT e, dT (intsD st), dT (strsD at_)] [] n (dT (cloD 181 [adr (keyF e st at_)])) [] n := by
  refine fnI Tryz.func143 Tryz.ntmps143 (h := fun S w0 β0 X => ?_)
  have sp : Stop 2 := ⟨⟩
  refine GO ?_
  clear sp
  refine W.frzB 0 (keyF e st at_) (h := ?_)
  refine GO ?_
  exact fin1
set_option maxRecDepth 10000 in
theorem afindC (l : List Res) (e : Int) (st : List Int) (at_ : List Str) : ∀ n, Con Tryz.prog 111 [dT (sl 8 (l.map resF)), iT e, dT (intsD st), dT (strsD at_)] [] n (iT (idxOf (fun x => decide (firstNZ [cmpI x.edge e, cmpL cmpI x.step st, cmpL cmpS x.at_ at_] = 0)) l)) [] n := by
  refine fnI Tryz.func111 Tryz.ntmps111 (h := fun S w0 β0 X => ?_)
  refine GO ?_
  refine Ch.c (atC e st at_) (r := ?_)
  refine Ch.c (indexResC (xs := l) _ _ _ fun x _ => at1C e st at_ x) (r := ?_)
  refine GO ?_
  exact fin1
end Go.Proofs.YtelkpflpgpdkdaaGreatDoor
namespace Go.Proofs.YtelkpflpgpdkdaaGreatDoor
open Go.Sv
set_option maxRecDepth 10000 in
theorem gthereC (r : Registry) (k : Int) : ∀ n, Con Tryz.prog 118 [agD (regF r), iT k] [] n (bT (decide (0 ≤ k) && decide (k < r.schemas.length))) [] n := by
  refine fnI Tryz.func118 Tryz.ntmps118 (h := fun S w0 β0 X => ?_)
  refine GO ?_
  exact fin1
set_option maxRecDepth 10000 in
theorem gendC (r : Registry) (h : Hop) (j : Nat) (x : Join) (hj : h.join = j) (hx : r.joins[j]? = some x) : ∀ n, Con Tryz.prog 159 [agD (regF r), agD (hopF h)] [] n (iT (hopEnd x h.back)) [] n := by
  refine fnI Tryz.func159 Tryz.ntmps159 (h := fun S w0 β0 X => ?_)
  cases hb : h.back
  · refine GO ?_
    refine Ch.p (OpT.indexR (hij := hj) (hj := hx)) ⟨rfl, rfl, trivial⟩ ?_
    refine GO ?_
    exact fin1
  · refine GO ?_
    refine Ch.p (OpT.indexR (hij := hj) (hj := hx)) ⟨rfl, rfl, trivial⟩ ?_
    refine GO ?_
    exact fin1
theorem subs_take_le (l : List Lens) (k : Nat) : Lens.subsSize (l.take k) ≤ Lens.subsSize l := by
  conv => rhs; rw [← List.take_append_drop k l, Lens.subsSize_append]
  omega
set_option maxRecDepth 10000 in
theorem lensSizeC (l : List Lens) (hs : Lens.size l ≤ 1000000000) : ∀ n, Con Tryz.prog 161 [dT (sl 16 (lensesC l))] [] n (iT (Lens.size l)) [] n := by
  have hz := Lens.size_subs l
  refine fnI Tryz.func161 Tryz.ntmps161 (h := fun S w0 β0 X => ?_)
  refine GO ?_
  refine W.lp (· ≤ l.length) (fun k => [(10, iT k), (3, iT (l.length + Lens.subsSize (l.take k) : Nat))]) [(9, _), (8, _), (0, _)] (l.length - ·) 0 (Nat.zero_le _) (round := fun k hk => ?_)
  have hle := subs_take_le l k
  by_cases hlt : k < l.length
  · have hx := List.getElem?_eq_getElem hlt
    generalize l[k] = x at hx
    have hm := sub_size (List.mem_of_getElem? hx)
    have hle2 := subs_take_le l (k + 1)
    have ht := Lens.take_subsSize hx
    refine GO ?_
    refine Ch.c (lensSizeC x.subs (by omega)) (r := ?_)
    refine GO ?_
    rw [show ((l.length + Lens.subsSize (l.take k) : Nat) : Int) + Lens.size x.subs = (l.length + Lens.subsSize (l.take (k + 1)) : Nat) by rw [ht]; omega]
    exact W.ag (k + 1) hlt (by omega)
  · obtain rfl : k = l.length := by omega
    refine GO ?_
    exact finI (he := by rw [List.take_length, hz])
termination_by Lens.size l
set_option maxRecDepth 10000 in
theorem clipNamedC (ls : List (List D)) : ∀ n, Con Tryz.prog 100 [dT (sl 7 ls)] [] n (dT (slF 7 ls)) [] n := by
  refine fnI Tryz.func100 Tryz.ntmps100 (h := fun S w0 β0 X => ?_)
  refine GO ?_
  refine Ch.p OpT.lenL ⟨rfl, trivial⟩ ?_
  refine GO ?_
  refine Ch.p OpT.lenL ⟨rfl, trivial⟩ ?_
  refine GO ?_
  exact fin1
set_option maxRecDepth 10000 in
theorem clipJoinC (ls : List (List D)) : ∀ n, Con Tryz.prog 122 [dT (sl 3 ls)] [] n (dT (slF 3 ls)) [] n := by
  refine fnI Tryz.func122 Tryz.ntmps122 (h := fun S w0 β0 X => ?_)
  refine GO ?_
  refine Ch.p OpT.lenL ⟨rfl, trivial⟩ ?_
  refine GO ?_
  refine Ch.p OpT.lenL ⟨rfl, trivial⟩ ?_
  refine GO ?_
  exact fin1
end Go.Proofs.YtelkpflpgpdkdaaGreatDoor
namespace Go.Proofs.YtelkpflpgpdkdaaGreatDoor
open Go.Sv
def regU (p : Registry × Int) : T := .tup [.ag ((regF p.1).map C.d), .one (.d (i64 p.2))]
set_option maxRecDepth 10000 in
theorem gaddSC (r : Registry) (s : Str) (t : Typ) (hf : t.fit) (hr : r.schemas.length ≤ 1000000) : ∀ n, Con Tryz.prog 64 [agD (regF r), sT s, agD (typF t)] [] n (regU (addSE r s t)) [] n := by
  refine fnI Tryz.func64 Tryz.ntmps64 (h := fun S w0 β0 X => ?_)
  refine GO ?_
  refine Ch.c (nameC s) (r := ?_)
  refine GO ?_
  refine Ch.gc (hc := fun _ => rightTC t hf) (r := ?_)
  refine GO ?_
  refine W.cond rfl (fun h1 => ?_) (fun h1 => ?_)
  · refine GO ?_
    refine W.nilB 2 0 153 7 (h := ?_)
    refine W.nilB 2 1 156 3 (h := ?_)
    refine W.frz 3 (h := ?_)
    refine W.frz 4 (h := ?_)
    rw [show addSE r s t = (zeroR, 1) by rw [addSE, if_pos (by grind)]]
    exact fin2
  have a1 : ¬ (nameOk s = false ∨ t.right = false ∨ t.kind ≠ 1) := by grind
  refine GO ?_
  refine Ch.c (gfindC r s) (r := ?_)
  by_cases h2 : 0 ≤ schemaIdx r s
  · refine GO ?_
    refine W.nilB 2 0 153 7 (h := ?_)
    refine W.nilB 2 1 156 3 (h := ?_)
    refine W.frz 3 (h := ?_)
    refine W.frz 4 (h := ?_)
    rw [show addSE r s t = (zeroR, 5) by rw [addSE, if_neg a1, if_pos h2]]
    exact fin2
  by_cases h3 : 12 ≤ r.schemas.length
  · refine GO ?_
    refine W.nilB 2 0 153 7 (h := ?_)
    refine W.nilB 2 1 156 3 (h := ?_)
    refine W.frz 3 (h := ?_)
    refine W.frz 4 (h := ?_)
    rw [show addSE r s t = (zeroR, 2) by rw [addSE, if_neg a1, if_neg h2, if_pos h3]]
    exact fin2
  refine GO ?_
  refine Ch.c (clipNamedC (r.schemas.map namedF)) (r := ?_)
  refine GO ?_
  refine Ch.p (OpT.slice1' (hs := asAg (l := namedF ⟨s, t⟩) rfl)) ⟨rfl, trivial⟩ ?_
  refine GO ?_
  refine W.frz 3 (h := ?_)
  rw [show addSE r s t = (⟨r.schemas ++ [⟨s, t⟩], r.joins⟩, 0) by rw [addSE, if_neg a1, if_neg h2, if_neg h3]]
  rw [show regU (⟨r.schemas ++ [⟨s, t⟩], r.joins⟩, 0) = .tup [.ag [.d (sl 7 (r.schemas.map namedF ++ [namedF ⟨s, t⟩])), .d (sl 3 (r.joins.map joinF))], .one (.d (i64 0))] by simp only [regU, regF, List.map_append, List.map_cons, List.map_nil]]
  exact fin2
end Go.Proofs.YtelkpflpgpdkdaaGreatDoor
namespace Go.Proofs.YtelkpflpgpdkdaaGreatDoor
open Go.Sv
set_option maxRecDepth 10000 in
theorem lensDepthC (l : List Lens) (hs : Lens.size l ≤ 1000000000) : ∀ n, Con Tryz.prog 162 [dT (sl 16 (lensesC l))] [] n (iT (Lens.depth l)) [] n := by
  refine fnI Tryz.func162 Tryz.ntmps162 (h := fun S w0 β0 X => ?_)
  refine GO ?_
  refine W.len 6 (h := fun hl => ?_)
  have hd := Lens.depth_le _ l (Nat.le_refl _)
  refine W.lp (· ≤ l.length) (fun k => [(8, iT k), (3, iT ((Lens.depth (l.take k) : Int) - 1))]) [(7, _), (6, _), (0, _)] (l.length - ·) 0 (Nat.zero_le _) (round := fun k hk => ?_)
  have hle := Lens.depth_take l k
  by_cases hlt : k < l.length
  · have hx := List.getElem?_eq_getElem hlt
    generalize l[k] = x at hx
    have hm := sub_size (List.mem_of_getElem? hx)
    have ht := Lens.take_depth hx
    refine GO ?_
    refine Ch.c (lensDepthC x.subs (by omega)) (r := ?_)
    refine GO ?_
    rw [show (if (Lens.depth x.subs : Int) > (Lens.depth (l.take k) : Int) - 1 then (Lens.depth x.subs : Int) else (Lens.depth (l.take k) : Int) - 1) = (Lens.depth (l.take (k + 1)) : Int) - 1 by rw [ht]; split <;> omega]
    exact W.ag (k + 1) hlt (by omega)
  · obtain rfl : k = l.length := by omega
    rw [List.take_length]
    refine GO ?_
    exact finI (he := by omega)
termination_by Lens.size l
set_option maxRecDepth 10000 in
theorem eqStrsC (l m : List Str) : ∀ n, Con Tryz.prog 164 [dT (strsD l), dT (strsD m)] [] n (bT (eqL l m)) [] n := by
  refine fnI Tryz.func164 Tryz.ntmps164 (h := fun S w0 β0 X => ?_)
  by_cases h0 : (l.length : Int) = m.length
  · refine GO ?_
    refine W.len 11 (h := fun hl => ?_)
    refine W.lp (fun k => k ≤ l.length ∧ eqL (l.drop k) (m.drop k) = eqL l m) (fun k => [(13, iT k)]) [(12, _), (0, _), (1, _)] (l.length - ·) 0 ⟨Nat.zero_le _, rfl⟩ (round := fun k hk => ?_)
    by_cases hlt : k < l.length
    · have hx := List.getElem?_eq_getElem hlt
      generalize l[k] = x at hx
      have hy := List.getElem?_eq_getElem (show k < m.length by omega)
      generalize m[k]'(by omega) = y at hy
      have hc := eqL_drop hx hy
      refine GO ?_
      refine W.cond rfl (fun h => ?_) (fun h => ?_)
      · refine GO ?_
        exact finB (he := by rw [← hk.2, hc]; grind)
      · refine GO ?_
        exact W.ag (k + 1) ⟨hlt, by rw [← hk.2, hc]; grind⟩ (by omega)
    · obtain rfl : k = l.length := by omega
      refine GO ?_
      exact finB (he := by rw [← hk.2, List.drop_length, show l.length = m.length by omega, List.drop_length]; rfl)
  · refine GO ?_
    exact finB (he := by
      cases h : eqL l m
      · rfl
      · exact absurd (eqL_len h) (by omega))
end Go.Proofs.YtelkpflpgpdkdaaGreatDoor
namespace Go.Proofs.YtelkpflpgpdkdaaGreatDoor
open Go.Sv
set_option maxRecDepth 10000 in
theorem eqTypsC {ls ms : List (List D)} {l m : List Typ} [Row ls Typ l typF] [Row ms Typ m typF] (f : FuncId) (cs : List D) (p : Typ → Typ → Bool) (hc : ∀ x ∈ l, ∀ y ∈ m, ∀ n, Con Tryz.prog f ([agD (typF x), agD (typF y)] ++ cs.map dT) [] n (bT (p x y)) [] n) : ∀ n, Con Tryz.prog 167 [dT (sl 6 ls), dT (sl 6 ms), dT (cloD f cs)] [] n (bT (eqF p l m)) [] n := by
  refine fnI Tryz.func167 Tryz.ntmps167 (h := fun S w0 β0 X => ?_)
  by_cases h0 : (l.length : Int) = m.length
  · refine GO ?_
    refine W.len 15 (h := fun hl => ?_)
    refine W.lp (fun k => k ≤ l.length ∧ eqF p (l.drop k) (m.drop k) = eqF p l m) (fun k => [(17, iT k)]) [(16, _), (15, _), (1, _), (2, _)] (l.length - ·) 0 ⟨Nat.zero_le _, rfl⟩ (round := fun k hk => ?_)
    by_cases hlt : k < l.length
    · have hx := List.getElem?_eq_getElem hlt
      generalize l[k] = x at hx
      have hy := List.getElem?_eq_getElem (show k < m.length by omega)
      generalize m[k]'(by omega) = y at hy
      have he := eqF_drop (g := p) hx hy
      refine GO ?_
      refine Ch.dy (ts := [_, _]) (hc x (List.mem_of_getElem? hx) y (List.mem_of_getElem? hy)) (r := ?_)
      cases hb : p x y
      · refine GO ?_
        exact finB (he := by rw [← hk.2, he, hb]; rfl)
      · refine GO ?_
        exact W.ag (k + 1) ⟨hlt, by rw [← hk.2, he, hb]; rfl⟩ (by omega)
    · obtain rfl : k = l.length := by omega
      refine GO ?_
      exact finB (he := by rw [← hk.2, List.drop_length, show l.length = m.length by omega, List.drop_length]; rfl)
  · refine GO ?_
    exact finB (he := by
      cases h : eqF p l m
      · rfl
      · exact absurd (eqF_len h) (by omega))
set_option maxRecDepth 10000 in
theorem eqFldsC {ls ms : List (List D)} {l m : List Fld} [Row ls Fld l fldF] [Row ms Fld m fldF] (f : FuncId) (cs : List D) (p : Fld → Fld → Bool) (hc : ∀ x ∈ l, ∀ y ∈ m, ∀ n, Con Tryz.prog f ([agD (fldF x), agD (fldF y)] ++ cs.map dT) [] n (bT (p x y)) [] n) : ∀ n, Con Tryz.prog 165 [dT (sl 8 ls), dT (sl 8 ms), dT (cloD f cs)] [] n (bT (eqF p l m)) [] n := by
  refine fnI Tryz.func165 Tryz.ntmps165 (h := fun S w0 β0 X => ?_)
  by_cases h0 : (l.length : Int) = m.length
  · refine GO ?_
    refine W.len 15 (h := fun hl => ?_)
    refine W.lp (fun k => k ≤ l.length ∧ eqF p (l.drop k) (m.drop k) = eqF p l m) (fun k => [(17, iT k)]) [(16, _), (15, _), (1, _), (2, _)] (l.length - ·) 0 ⟨Nat.zero_le _, rfl⟩ (round := fun k hk => ?_)
    by_cases hlt : k < l.length
    · have hx := List.getElem?_eq_getElem hlt
      generalize l[k] = x at hx
      have hy := List.getElem?_eq_getElem (show k < m.length by omega)
      generalize m[k]'(by omega) = y at hy
      have he := eqF_drop (g := p) hx hy
      refine GO ?_
      refine Ch.dy (ts := [_, _]) (hc x (List.mem_of_getElem? hx) y (List.mem_of_getElem? hy)) (r := ?_)
      cases hb : p x y
      · refine GO ?_
        exact finB (he := by rw [← hk.2, he, hb]; rfl)
      · refine GO ?_
        exact W.ag (k + 1) ⟨hlt, by rw [← hk.2, he, hb]; rfl⟩ (by omega)
    · obtain rfl : k = l.length := by omega
      refine GO ?_
      exact finB (he := by rw [← hk.2, List.drop_length, show l.length = m.length by omega, List.drop_length]; rfl)
  · refine GO ?_
    exact finB (he := by
      cases h : eqF p l m
      · rfl
      · exact absurd (eqF_len h) (by omega))
set_option maxRecDepth 10000 in
theorem eqRessC {ls ms : List (List D)} {l m : List Res} [Row ls Res l resF] [Row ms Res m resF] (f : FuncId) (cs : List D) (p : Res → Res → Bool) (hc : ∀ x ∈ l, ∀ y ∈ m, ∀ n, Con Tryz.prog f ([agD (resF x), agD (resF y)] ++ cs.map dT) [] n (bT (p x y)) [] n) : ∀ n, Con Tryz.prog 98 [dT (sl 8 ls), dT (sl 8 ms), dT (cloD f cs)] [] n (bT (eqF p l m)) [] n := by
  refine fnI Tryz.func98 Tryz.ntmps98 (h := fun S w0 β0 X => ?_)
  by_cases h0 : (l.length : Int) = m.length
  · refine GO ?_
    refine W.len 15 (h := fun hl => ?_)
    refine W.lp (fun k => k ≤ l.length ∧ eqF p (l.drop k) (m.drop k) = eqF p l m) (fun k => [(17, iT k)]) [(16, _), (15, _), (1, _), (2, _)] (l.length - ·) 0 ⟨Nat.zero_le _, rfl⟩ (round := fun k hk => ?_)
    by_cases hlt : k < l.length
    · have hx := List.getElem?_eq_getElem hlt
      generalize l[k] = x at hx
      have hy := List.getElem?_eq_getElem (show k < m.length by omega)
      generalize m[k]'(by omega) = y at hy
      have he := eqF_drop (g := p) hx hy
      refine GO ?_
      refine Ch.dy (ts := [_, _]) (hc x (List.mem_of_getElem? hx) y (List.mem_of_getElem? hy)) (r := ?_)
      cases hb : p x y
      · refine GO ?_
        exact finB (he := by rw [← hk.2, he, hb]; rfl)
      · refine GO ?_
        exact W.ag (k + 1) ⟨hlt, by rw [← hk.2, he, hb]; rfl⟩ (by omega)
    · obtain rfl : k = l.length := by omega
      refine GO ?_
      exact finB (he := by rw [← hk.2, List.drop_length, show l.length = m.length by omega, List.drop_length]; rfl)
  · refine GO ?_
    exact finB (he := by
      cases h : eqF p l m
      · rfl
      · exact absurd (eqF_len h) (by omega))
end Go.Proofs.YtelkpflpgpdkdaaGreatDoor
namespace Go.Sv
open Go
theorem OpT.eqB {P : Program} {ops : Array Oper} {n : Nat} {d : Option Tmp} {ty t t' : TypeId} {pos : String} {af : Array Edge} {x y : Operand} {a b : Bool} (ht : P.underlying t = some .bool) : OpT P ops (mkO d (.binOp .eql t x y t') ty pos af) n [(x, bT a), (y, bT b)] [] [] (bT (a == b)) [] n := .runD rfl fun β V w A _ h => by
  obtain ⟨h1, h2⟩ := in2 h
  have e1 : A.eval x = .bool a := h1
  have e2 : A.eval y = .bool b := h2
  exact ⟨.bool (a == b), by simp [execOp, e1, e2, eqGuard, binOp, run_equal_bool w t a b ht], rfl⟩
end Go.Sv
namespace Go.Proofs.YtelkpflpgpdkdaaGreatDoor
open Go.Sv
set_option maxRecDepth 10000 in
theorem sameTC (t u : Typ) : ∀ n, Con Tryz.prog 121 [agD (typF t), agD (typF u)] [] n (bT (t.same u)) [] n := by
  have hF : ∀ f ∈ t.fields, ∀ g ∈ u.fields, ∀ n, Con Tryz.prog 166 ([agD (fldF f), agD (fldF g)] ++ [].map dT) [] n (bT (Typ.sameF f g)) [] n := fun f hf g hg => by
    refine fnI Tryz.func166 Tryz.ntmps166 (h := fun S w0 β0 X => ?_)
    refine GO ?_
    refine Ch.g (h := fun _ => OpT.eqB Tryz.underlying4) (r := ?_)
    refine GO ?_
    refine Ch.gc (hc := fun _ => sameTC f.typ g.typ) (r := ?_)
    refine GO ?_
    exact finB (he := by rw [Typ.sameF_parts])
  have hT : ∀ f ∈ t.of, ∀ g ∈ u.of, ∀ n, Con Tryz.prog 121 ([agD (typF f), agD (typF g)] ++ [].map dT) [] n (bT (Typ.same f g)) [] n := fun f hf g hg => sameTC f g
  refine fnI Tryz.func121 Tryz.ntmps121 (h := fun S w0 β0 X => ?_)
  refine GO ?_
  refine Ch.gc (hc := fun _ => eqStrsC t.names u.names) (r := ?_)
  refine GO ?_
  refine Ch.gc (hc := fun _ => eqFldsC (l := t.fields) (m := u.fields) _ [] Typ.sameF hF) (r := ?_)
  refine GO ?_
  refine Ch.gc (hc := fun _ => eqTypsC (l := t.of) (m := u.of) _ [] Typ.same hT) (r := ?_)
  refine GO ?_
  exact finB (he := by rw [Typ.same_parts]; rfl)
termination_by t.size
decreasing_by
  · exact fld_size hf
  · exact of_size hf
end Go.Proofs.YtelkpflpgpdkdaaGreatDoor
namespace Go.Proofs.YtelkpflpgpdkdaaGreatDoor
open Go.Sv
set_option maxRecDepth 10000 in
theorem scalarC (t : Typ) : ∀ n, Con Tryz.prog 254 [agD (typF t)] [] n (bT (scalarB t)) [] n := by
  refine fnI Tryz.func254 Tryz.ntmps254 (h := fun S w0 β0 X => ?_)
  refine GO ?_
  exact fin1
set_option maxRecDepth 10000 in
theorem vrightC (t : Typ) (d : Doc) (ht : t.fit) (hd : d.fit) : ∀ n, Con Tryz.prog 207 [agD (typF t), agD (docF d)] [] n (bT (bothRight t d)) [] n := by
  refine fnI Tryz.func207 Tryz.ntmps207 (h := fun S w0 β0 X => ?_)
  refine GO ?_
  refine Ch.c (rightTC t ht) (r := ?_)
  refine GO ?_
  refine Ch.gc (hc := fun _ => docRightC d hd) (r := ?_)
  refine GO ?_
  exact fin1
set_option maxRecDepth 10000 in
theorem kindsC (t : Typ) (d : Doc) : ∀ n, Con Tryz.prog 261 [agD (typF t), agD (docF d)] [] n (bT (kindsOk t d)) [] n := by
  refine fnI Tryz.func261 Tryz.ntmps261 (h := fun S w0 β0 X => ?_)
  by_cases h : t.kind = 7
  · refine GO ?_
    exact finB (he := by rw [kindsOk, if_pos h]; rfl)
  · refine GO ?_
    exact finB (he := by rw [kindsOk, if_neg h]; rfl)
set_option maxRecDepth 10000 in
theorem withinC (k : Int) (t : Typ) : ∀ n, Con Tryz.prog 262 [iT k, agD (typF t)] [] n (iT (withinE k t)) [] n := by
  refine fnI Tryz.func262 Tryz.ntmps262 (h := fun S w0 β0 X => ?_)
  refine GO ?_
  refine W.cond rfl (fun h => ?_) (fun h => ?_)
  · refine GO ?_
    exact finI (he := by simp at h; rw [withinE, if_pos h])
  · refine GO ?_
    exact finI (he := by simp at h; rw [withinE, if_neg (by omega)])
set_option maxRecDepth 10000 in
theorem indexStrC (l : List Str) (s : Str) : ∀ n, Con Tryz.prog 236 [dT (strsD l), sT s] [] n (iT (idxOf (fun x => s.toList == x.toList) l)) [] n := by
  refine fnI Tryz.func236 Tryz.ntmps236 (h := fun S w0 β0 X => ?_)
  refine GO ?_
  refine W.len 6 (h := fun hl => ?_)
  refine W.lp (fun k => k ≤ l.length ∧ ∀ y ∈ l.take k, (s.toList == y.toList) = false) (fun k => [(8, iT k)]) [(7, _), (0, _), (1, _)] (l.length - ·) 0 ⟨Nat.zero_le _, nofun⟩ (round := fun k hk => ?_)
  by_cases hlt : k < l.length
  · have hx := List.getElem?_eq_getElem hlt
    generalize l[k] = x at hx
    refine GO ?_
    refine W.cond rfl (fun hp => ?_) (fun hp => ?_)
    · refine GO ?_
      exact finI (he := by rw [idxOf_at (p := fun x : Str => s.toList == x.toList) hx hp hk.2])
    · refine GO ?_
      exact W.ag (k + 1) ⟨hlt, take_all_succ (p := fun x : Str => s.toList == x.toList) hx hp hk.2⟩ (by omega)
  · obtain rfl : k = l.length := by omega
    refine GO ?_
    exact finI (he := by rw [idxOf_none fun y hy => hk.2 y (by rwa [List.take_length])])
set_option maxRecDepth 10000 in
theorem containsStrC (l : List Str) (s : Str) : ∀ n, Con Tryz.prog 263 [dT (strsD l), sT s] [] n (bT (l.any fun x => s.toList == x.toList)) [] n := by
  refine fnI Tryz.func263 Tryz.ntmps263 (h := fun S w0 β0 X => ?_)
  refine GO ?_
  refine Ch.c (indexStrC l s) (r := ?_)
  refine GO ?_
  exact finB (he := idxOf_nonneg _ l)
end Go.Proofs.YtelkpflpgpdkdaaGreatDoor
namespace Go.Proofs.YtelkpflpgpdkdaaGreatDoor
open Go.Sv
set_option maxRecDepth 10000 in
theorem garoundC (r : Registry) (c : Int) (hr : r.joins.length ≤ 1000000) : ∀ n, Con Tryz.prog 158 [agD (regF r), iT c] [] n (dT (sl 2 ((hopsAt r c).map hopF))) [] n := by
  refine fnI Tryz.func158 Tryz.ntmps158 (h := fun S w0 β0 X => ?_)
  have st : Stop 2 := ⟨⟩
  refine GO ?_
  clear st
  refine W.nilT 5 177 2 (h := ?_)
  refine GO ?_
  refine W.lpG (fun k => k ≤ r.joins.length ∧ (arnd (hopsG c) 0 (r.joins.take k)).length ≤ k) (fun k => [(11, iT k)]) [(10, _), (9, _), (1, _), (2, _), (5, _)] (fun k => [(1, .row 177 2 ((arnd (hopsG c) 0 (r.joins.take k)).map hopF))]) [(0, _)] (r.joins.length - ·) 0 ⟨Nat.zero_le _, Nat.zero_le _⟩ (round := fun k hk => ?_)
  have hle := hk.2
  by_cases hlt : k < r.joins.length
  · have hx := List.getElem?_eq_getElem hlt
    generalize r.joins[k] = x at hx
    have ha := arnd_succ (F := hopsG c) hx
    have hl : ((arnd (hopsG c) 0 (r.joins.take k)).map hopF).length ≤ k := by rw [List.length_map]; exact hle
    by_cases h1 : c = x.from_
    · rw [hopsG, if_pos h1.symm] at ha
      refine GO ?_
      refine Ch.p (OpT.slice1' (hs := asAg (l := hopF ⟨k, false⟩) rfl)) ⟨rfl, trivial⟩ ?_
      refine GO ?_
      rw [show ((arnd (hopsG c) 0 (r.joins.take k)).map hopF) ++ [hopF ⟨k, false⟩] = (arnd (hopsG c) 0 (r.joins.take (k + 1))).map hopF by rw [ha, List.map_append]; rfl]
      refine W.swap 1 3 (h := ?_)
      exact W.ag (k + 1) ⟨hlt, by rw [ha, List.length_append, List.length_singleton]; omega⟩ (by omega)
    · by_cases h2 : c = x.to
      · rw [hopsG, if_neg (fun e => h1 e.symm), if_pos h2.symm] at ha
        refine GO ?_
        refine Ch.p (OpT.slice1' (hs := asAg (l := hopF ⟨k, true⟩) rfl)) ⟨rfl, trivial⟩ ?_
        refine GO ?_
        rw [show ((arnd (hopsG c) 0 (r.joins.take k)).map hopF) ++ [hopF ⟨k, true⟩] = (arnd (hopsG c) 0 (r.joins.take (k + 1))).map hopF by rw [ha, List.map_append]; rfl]
        refine W.swap 1 3 (h := ?_)
        exact W.ag (k + 1) ⟨hlt, by rw [ha, List.length_append, List.length_singleton]; omega⟩ (by omega)
      · rw [hopsG, if_neg (fun e => h1 e.symm), if_neg (fun e => h2 e.symm), List.append_nil] at ha
        refine GO ?_
        rw [← ha]
        exact W.ag (k + 1) ⟨hlt, by rw [ha]; omega⟩ (by omega)
  · obtain rfl : k = r.joins.length := by omega
    rw [List.take_length]
    refine GO ?_
    refine W.frz 1 (h := ?_)
    exact fin1
end Go.Proofs.YtelkpflpgpdkdaaGreatDoor
namespace Go.Proofs.YtelkpflpgpdkdaaGreatDoor
open Go.Sv
/-- A field that is none. -/
def fldZ : List D := [str ⟨#[]⟩, bl false, i64 0, i64 0, i64 0, lit (.slice none 0 0), lit (.slice none 0 0), lit (.slice none 0 0)]
def findU : Option Fld → T
  | some f => .tup [.ag ((fldF f).map C.d), .one (.d (bl true))]
  | none => .tup [.ag (fldZ.map C.d), .one (.d (bl false))]
theorem findU_keys : ∀ o, (findU o).keys = []
  | some _ => rfl
  | none => rfl
set_option maxRecDepth 10000 in
theorem lfindC (t : Typ) (s : Str) : ∀ n, Con Tryz.prog 204 [agD (typF t), sT s] [] n (findU (t.find s)) [] n := by
  refine fnI Tryz.func204 Tryz.ntmps204 (hko := findU_keys _) (h := fun S w0 β0 X => ?_)
  refine GO ?_
  refine Ch.c (fieldC t s) (r := ?_)
  rcases find_cases t s with ⟨h1, h2⟩ | ⟨j, x, h1, h2, h3, _⟩
  · rw [h1, h2]
    have hn : ((-1 : Int) < 0) := by omega
    refine GO ?_
    exact fin2
  · rw [h2, h3]
    refine GO ?_
    exact fin2
end Go.Proofs.YtelkpflpgpdkdaaGreatDoor
namespace Go.Proofs.YtelkpflpgpdkdaaGreatDoor
open Go.Sv
set_option maxRecDepth 10000 in
theorem cmpDocsC {ls ms : List (List D)} {l m : List Doc} [Row ls Doc l docF] [Row ms Doc m docF] (hc : ∀ x ∈ l, ∀ y ∈ m, ∀ n, Con Tryz.prog 170 ([agD (docF x), agD (docF y)] ++ [].map dT) [] n (iT (Doc.cmp x y)) [] n) : ∀ n, Con Tryz.prog 193 [dT (sl 5 ls), dT (sl 5 ms), dT (cloD 170 [])] [] n (iT (cmpL Doc.cmp l m)) [] n := by
  refine fnI Tryz.func193 Tryz.ntmps193 (h := fun S w0 β0 X => ?_)
  refine GO ?_
  refine W.len 11 (h := fun hl => ?_)
  refine W.len 1 (h := fun hl => ?_)
  refine W.lp (fun k => k ≤ l.length ∧ cmpL Doc.cmp (l.drop k) (m.drop k) = cmpL Doc.cmp l m) (fun k => [(13, iT k)]) [(12, _), (11, _), (0, _), (1, _), (2, _)] (l.length - ·) 0 (⟨Nat.zero_le _, rfl⟩) (round := fun k hk => ?_)
  by_cases hlt : k < l.length
  · have hx := List.getElem?_eq_getElem hlt
    generalize l[k] = x at hx
    by_cases hm2 : m.length ≤ k
    · refine GO ?_
      exact finI (he := by rw [← hk.2, cmpL_long hlt hm2])
    · have hy := List.getElem?_eq_getElem (show k < m.length by omega)
      generalize m[k]'(by omega) = y at hy
      have he := cmpL_drop (f := Doc.cmp) hx hy
      refine GO ?_
      refine Ch.dy (ts := [_, _]) (hc x (List.mem_of_getElem? hx) y (List.mem_of_getElem? hy)) (r := ?_)
      by_cases hz : Doc.cmp x y = 0
      · refine GO ?_
        exact W.ag (k + 1) (⟨hlt, by rw [← hk.2, he, if_neg (by omega)]⟩) (by omega)
      · refine GO ?_
        exact finI (he := by rw [← hk.2, he, if_pos hz])
  · obtain rfl : k = l.length := by omega
    have hc := hk.2
    rw [cmpL_end] at hc
    by_cases h1 : l.length < m.length
    · refine GO ?_
      exact finI (he := by rw [← hc, if_pos h1])
    · refine GO ?_
      exact finI (he := by rw [← hc, if_neg h1])
set_option maxRecDepth 10000 in
theorem compareC (d e : Doc) : ∀ n, Con Tryz.prog 170 [agD (docF d), agD (docF e)] [] n (iT (Doc.cmp d e)) [] n := by
  refine fnI Tryz.func170 Tryz.ntmps170 (h := fun S w0 β0 X => ?_)
  refine GO ?_
  refine Ch.c (cmpIntC d.kind e.kind) (r := ?_)
  refine GO ?_
  refine Ch.c (cmpIntC d.num e.num) (r := ?_)
  refine GO ?_
  refine Ch.c (cmpStrC d.str e.str) (r := ?_)
  refine GO ?_
  refine Ch.c (cmpIntC d.keys.length e.keys.length) (r := ?_)
  refine GO ?_
  refine Ch.c (cmpStrsC d.keys e.keys) (r := ?_)
  refine GO ?_
  refine Ch.c (cmpIntC d.kids.length e.kids.length) (r := ?_)
  refine GO ?_
  refine Ch.c (cmpDocsC (l := d.kids) (m := e.kids) fun x hx y hy => by have := mem_size hx; exact compareC x y) (r := ?_)
  refine Ch.p (OpT.sliceN (k := 1) (xs := [_, _, _, _, _, _, _]) (ss := [_, _, _, _, _, _, _]) (lls := [cmpI d.kind e.kind, cmpI d.num e.num, cmpS d.str e.str, cmpI d.keys.length e.keys.length, cmpL cmpS d.keys e.keys, cmpI d.kids.length e.kids.length, cmpL Doc.cmp d.kids e.kids].map fun n => [i64 n]) ⟨.one _, .one _, .one _, .one _, .one _, .one _, .one _, trivial⟩ rfl (by simp)) ⟨rfl, rfl, rfl, rfl, rfl, rfl, rfl, trivial⟩ ?_
  refine Ch.c (orC [cmpI d.kind e.kind, cmpI d.num e.num, cmpS d.str e.str, cmpI d.keys.length e.keys.length, cmpL cmpS d.keys e.keys, cmpI d.kids.length e.kids.length, cmpL Doc.cmp d.kids e.kids]) (r := ?_)
  refine GO ?_
  exact finI (he := by rw [Doc.cmp_kids])
termination_by d.size
set_option maxRecDepth 10000 in
theorem docSameC (d e : Doc) : ∀ n, Con Tryz.prog 128 [agD (docF d), agD (docF e)] [] n (bT (decide (Doc.cmp d e = 0))) [] n := by
  refine fnI Tryz.func128 Tryz.ntmps128 (h := fun S w0 β0 X => ?_)
  refine GO ?_
  refine Ch.c (compareC d e) (r := ?_)
  refine GO ?_
  exact fin1
end Go.Proofs.YtelkpflpgpdkdaaGreatDoor




