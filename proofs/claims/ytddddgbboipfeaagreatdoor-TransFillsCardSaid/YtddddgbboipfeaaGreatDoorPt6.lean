/- Part 6 of what TransFills asks: for every input it returns true, and its input reads as it did. No condition. -/
import Derived.Test.YtddddgbboipfeaaGreatDoorPt5
import Derived.IntWalk
namespace Go.Sv
open Go Go.RowKit

abbrev dT (x : D) : T := .one (.d x)
abbrev iT (n : Int) : T := dT (i64 n)
abbrev bT (b : Bool) : T := dT (bl b)
abbrev sT (s : ByteArray) : T := dT (str s)
def agD (l : List D) : T := .ag (l.map C.d)
section
variable {P : Program} {ops : Array Oper} {n : Nat} {d : Option Tmp} {ty : TypeId} {pos : String} {af : Array Edge} {x y z : Operand} {s : T}
abbrev mkO (d : Option Tmp) (op : Op) (ty : TypeId) (pos : String) (af : Array Edge) : Oper := ⟨d, op, ty, pos, af, none⟩
theorem OpT.runs {o : Oper} {tin : TL} {out : T} (hg : o.guard = none) (hk : (∀ e ∈ tin, Bel n e.2.keys) → Bel n out.keys)
    (h : ∀ (β : Env) (V w : World) (a : Act), Sub V w → (∀ e ∈ tin, e.2.is β V (a.eval e.1)) → ∃ v, (execOp a.eval o).run P w = .ok (.value v) w ∧ out.is β V v) : OpT P ops o n tin [] [] out [] n :=
  ⟨Nat.le_refl n, fun β S w a K htin hb hO hK => by
    rw [if_pos (by simp [Region.wanted, hg])]
    obtain ⟨v, h1, h2⟩ := h β (hide S w) w a hide_shown htin
    unfold Oper.wp
    rw [h1]
    exact hK v β w (Kept.refl _ _) (fun _ _ => rfl) (hk hb) h2 hO.toOwns fun b hb => by cases hb⟩
theorem bel0 {l : List Nat} (h : l = []) : Bel n l := fun κ hκ => by rw [h] at hκ; cases hκ
theorem OpT.runD {o : Oper} {tin : TL} {out : D} (hg : o.guard = none) (h : ∀ (β : Env) (V w : World) (a : Act), Sub V w → (∀ e ∈ tin, e.2.is β V (a.eval e.1)) → ∃ v, (execOp a.eval o).run P w = .ok (.value v) w ∧ out.is V v) : OpT P ops o n tin [] [] (dT out) [] n :=
  .runs hg (fun _ => bel0 rfl) h
theorem agD_keys {l : List D} : (agD l).keys = [] := by
  simp only [agD, T.keys, List.flatMap_eq_nil_iff, List.mem_map]
  rintro _ ⟨d, _, rfl⟩; rfl
theorem in1 {β : Env} {V : World} {a : Act} (h : ∀ e ∈ [(x, s)], e.2.is β V (a.eval e.1)) : s.is β V (a.eval x) := h _ (List.mem_singleton.2 rfl)
theorem in2 {β : Env} {V : World} {a : Act} {u : T} (h : ∀ e ∈ [(x, s), (y, u)], e.2.is β V (a.eval e.1)) : s.is β V (a.eval x) ∧ u.is β V (a.eval y) := ⟨h _ (List.mem_cons_self ..), h _ (List.mem_cons_of_mem _ (List.mem_singleton.2 rfl))⟩
theorem OpT.move : OpT P ops (mkO d (.move x) ty pos af) n [(x, s)] [] [] s [] n := .runs rfl (fun h => h _ (List.mem_singleton.2 rfl)) fun _ _ _ _ _ h => ⟨_, rfl, in1 h⟩
theorem OpT.assign : OpT P ops (mkO d (.assign x) ty pos af) n [(x, s)] [] [] s [] n := .runs rfl (fun h => h _ (List.mem_singleton.2 rfl)) fun _ _ _ _ _ h => ⟨_, rfl, in1 h⟩
/-- Two numbers held against each other. -/
def cmpP : BinOp → Int → Int → Option Bool
  | .eql, a, b => some (decide (a = b))
  | .neq, a, b => some (!decide (a = b))
  | .lss, a, b => some (decide (a < b))
  | .leq, a, b => some (decide (a ≤ b))
  | .gtr, a, b => some (decide (b < a))
  | .geq, a, b => some (decide (b ≤ a))
  | _, _, _ => none
theorem OpT.cmp {op : BinOp} {k : IntKind} {a b : Int} {p : Bool} {t t' : TypeId} (hp : cmpP op a b = some p := by rfl) : OpT P ops (mkO d (.binOp op t x y t') ty pos af) n [(x, dT (lit (.int k a))), (y, dT (lit (.int k b)))] [] [] (bT p) [] n := .runD rfl fun β V w A _ h => by
  obtain ⟨h1, h2⟩ := in2 h
  have e1 : A.eval x = .int k a := h1
  have e2 : A.eval y = .int k b := h2
  refine ⟨.bool p, ?_, rfl⟩
  cases op <;> simp only [cmpP, Option.some.injEq] at hp <;> first | (cases hp; done) | (subst hp; simp [execOp, e1, e2, eqGuard, binOp, Op.intCmp]; try rfl)
def arP : BinOp → Int → Int → Option Int
  | .add, a, b => some (a + b)
  | .sub, a, b => some (a - b)
  | .mul, a, b => some (a * b)
  | _, _, _ => none
/-- A sum that stays within bounds. -/
theorem OpT.ar {op : BinOp} {a b c : Int} {t t' : TypeId} (hc : arP op a b = some c := by rfl) (hr : -9223372036854775808 ≤ c ∧ c ≤ 9223372036854775807) : OpT P ops (mkO d (.binOp op t x y t') ty pos af) n [(x, iT a), (y, iT b)] [] [] (iT c) [] n := .runD rfl fun β V w A _ h => by
  obtain ⟨h1, h2⟩ := in2 h
  have e1 : A.eval x = .int .i64 a := h1
  have e2 : A.eval y = .int .i64 b := h2
  refine ⟨.int .i64 c, ?_, rfl⟩
  have hw := IntWalk.i64_in c hr
  cases op <;> simp only [arP, Option.some.injEq] at hc <;> first | (cases hc; done) | (subst hc; simp [execOp, e1, e2, eqGuard, binOp, Op.intArith, hw])
/-- Texts held against each other. -/
def cmpS : BinOp → ByteArray → ByteArray → Option Bool
  | .eql, a, b => some (a.toList == b.toList)
  | .neq, a, b => some (!(a.toList == b.toList))
  | .lss, a, b => some (Op.bytesLess a.toList b.toList)
  | .leq, a, b => some (Op.bytesLess a.toList b.toList || a.toList == b.toList)
  | .gtr, a, b => some (!(Op.bytesLess a.toList b.toList || a.toList == b.toList))
  | .geq, a, b => some (!Op.bytesLess a.toList b.toList)
  | _, _, _ => none
theorem OpT.cmpS {op : BinOp} {a b : ByteArray} {p : Bool} {t t' : TypeId} (hp : Sv.cmpS op a b = some p := by rfl) : OpT P ops (mkO d (.binOp op t x y t') ty pos af) n [(x, sT a), (y, sT b)] [] [] (bT p) [] n := .runD rfl fun β V w A _ h => by
  obtain ⟨h1, h2⟩ := in2 h
  have e1 : A.eval x = .string a := h1
  have e2 : A.eval y = .string b := h2
  refine ⟨.bool p, ?_, rfl⟩
  cases op <;> simp only [Sv.cmpS, Option.some.injEq] at hp <;> first | (cases hp; done) | (subst hp; simp [execOp, e1, e2, eqGuard, binOp, Op.stringOp])
theorem OpT.not {b : Bool} {t : TypeId} : OpT P ops (mkO d (.unOp .not t x) ty pos af) n [(x, bT b)] [] [] (bT !b) [] n := .runD rfl fun β V w A _ h => by
  have e1 : A.eval x = .bool b := in1 h
  exact ⟨.bool !b, by simp [execOp, e1, Op.unary], rfl⟩
theorem OpT.neg {a : Int} {t : TypeId} (hr : -9223372036854775808 ≤ -a ∧ -a ≤ 9223372036854775807) : OpT P ops (mkO d (.unOp .neg t x) ty pos af) n [(x, iT a)] [] [] (iT (-a)) [] n := .runD rfl fun β V w A _ h => by
  have e1 : A.eval x = .int .i64 a := in1 h
  exact ⟨.int .i64 (-a), by simp [execOp, e1, Op.unary, Op.intArith, IntWalk.i64_in (-a) hr], rfl⟩
theorem in3 {β : Env} {V : World} {a : Act} {u v : T} (h : ∀ e ∈ [(x, s), (y, u), (z, v)], e.2.is β V (a.eval e.1)) : s.is β V (a.eval x) ∧ u.is β V (a.eval y) ∧ v.is β V (a.eval z) :=
  ⟨h _ (List.mem_cons_self ..), in2 fun e he => h e (List.mem_cons_of_mem _ he)⟩
theorem OpT.pickAnd {b c : Bool} : OpT P ops (mkO d (.pick x y (.const (.bool false))) ty pos af) n [(x, bT b), (y, .opt b (bT c))] [] [] (bT (b && c)) [] n := .runD rfl fun β V w A _ h => by
  obtain ⟨h1, h2⟩ := in2 h
  have e1 : A.eval x = .bool b := h1
  have e3 : A.eval (.const (.bool false)) = .bool false := rfl
  cases b with
  | false => exact ⟨.bool false, by simp [execOp, e1, e3, asBool], rfl⟩
  | true =>
    have e2 : A.eval y = .bool c := h2.1 rfl
    exact ⟨.bool c, by simp [execOp, e1, e2, asBool], rfl⟩
theorem OpT.pickOr {b c : Bool} : OpT P ops (mkO d (.pick x (.const (.bool true)) y) ty pos af) n [(x, bT b), (y, .opt (!b) (bT c))] [] [] (bT (b || c)) [] n := .runD rfl fun β V w A _ h => by
  obtain ⟨h1, h2⟩ := in2 h
  have e1 : A.eval x = .bool b := h1
  have e3 : A.eval (.const (.bool true)) = .bool true := rfl
  cases b with
  | true => exact ⟨.bool true, by simp [execOp, e1, e3, asBool], rfl⟩
  | false =>
    have e2 : A.eval y = .bool c := h2.1 rfl
    exact ⟨.bool c, by simp [execOp, e1, e2, asBool], rfl⟩
theorem OpT.lenS [Lays P] {s : ByteArray} {t k : Nat} {fl : List (Nat × Nat)} {z : List ZK} (ht : lay P t = some ⟨.str, k, fl, z⟩ := by rfl) : OpT P ops (mkO d (.call ⟨.builtin .len, #[x], #[t]⟩) ty pos af) n [(x, sT s)] [] [] (iT s.size) [] n := .runD rfl fun β V w A _ h => by
  have e1 : A.eval x = .string s := in1 h
  exact ⟨.int .i64 s.size, by simp [execOp, e1, resolve, invoke, builtin, Builtin.len_, Sem.run_bind, run_underlying (lay_str ht) w, goInt], rfl⟩
section
variable [Lays P]
theorem OpT.lenL {t e w' k : Nat} {fl : List (Nat × Nat)} {z : List ZK} {ls : List (List D)} (ht : lay P t = some ⟨.slice e, w', fl, z⟩ := by rfl) : OpT P ops (mkO d (.call ⟨.builtin .len, #[x], #[t]⟩) ty pos af) n [(x, dT (sl k ls))] [] [] (iT ls.length) [] n := .runD rfl fun β V w A _ h => by
  obtain ⟨a, c, e1, _⟩ := in1 h
  exact ⟨.int .i64 ls.length, by simp [execOp, e1, resolve, invoke, builtin, Builtin.len_, Sem.run_bind, run_underlying (lay_slice ht) w, goInt], rfl⟩
/-- A struct is loaded. -/
theorem OpT.loadAg {t k : Nat} {lk : LK} {fl : List (Nat × Nat)} {z : List ZK} {l : List D} (ht : lay P t = some ⟨lk, k, fl, z⟩ := by rfl) (ha : lk.agg = true := by rfl) (hk : (l.take k).length = k := by rfl) :
    OpT P ops (mkO d (.load t x) ty pos af) n [(x, dT (adr l))] [] [] (agD (l.take k)) [] n := .runs rfl (fun _ => bel0 agD_keys) fun β V w A hS h => by
  obtain ⟨b, o, us, e1, h2, h3⟩ := in1 h
  refine ⟨_, ?_, us.take k, rfl, all2_map.2 (h3.take k)⟩
  have hsh := lay_shp ht
  rw [ha] at hsh
  have hl : (us.take k).length = k := (h3.take k).len.symm.trans hk
  simp only [execOp, e1, Instr.loadAt, Instr.sureAddr, Sem.run_bind, Sem.run_pure, Result.andThen_ok, load_many hsh ((h2.mono hS).take k) hl]
theorem OpT.load1 {t k : Nat} {lk : LK} {fl : List (Nat × Nat)} {z : List ZK} {x' : D} {l : List D} (ht : lay P t = some ⟨lk, k, fl, z⟩ := by rfl) (ha : lk.agg = false := by rfl) (hl : l[0]? = some x' := by rfl) :
    OpT P ops (mkO d (.load t x) ty pos af) n [(x, dT (adr l))] [] [] (dT x') [] n := .runD rfl fun β V w A hS h => by
  obtain ⟨b, o, us, e1, h2, h3⟩ := in1 h
  obtain ⟨u, h4, h5⟩ := h3.get hl
  refine ⟨u, ?_, h5⟩
  have hsh := lay_shp ht
  rw [ha] at hsh
  have : w.cell? ⟨b, o, none⟩ = some u := (h2.mono hS) 0 u h4
  simp only [execOp, e1, Instr.loadAt, Instr.sureAddr, Sem.run_bind, Sem.run_pure, Result.andThen_ok, load_one hsh this]
theorem field_place {t k f off ft : Nat} {fl : List (Nat × Nat)} {z : List ZK} {lf : Lay} (ht : lay P t = some ⟨.struct, k, fl, z⟩) (hf : fl[f]? = some (off, ft)) (hl : lay P ft = some lf) (hs : Nat.beq lf.size 0 = false) (b o : Nat) (w : World) :
    (Instr.fieldAt t (.pointer (some ⟨b, o, none⟩)) f).run P w = .ok (.pointer (some ⟨b, o + off, none⟩)) w := by
  obtain ⟨fs, h1, h2⟩ := lay_struct ht
  rw [← h2] at hf
  simp only [List.getElem?_map, Option.map_eq_some_iff, Array.getElem?_toList] at hf
  obtain ⟨g, h3, h4⟩ := hf
  have h5 : g.offset = off := congrArg (·.1) h4
  have h6 : g.type = ft := congrArg (·.2) h4
  have hne : ¬ lf.size = 0 := fun e => by rw [e] at hs; cases hs
  have hadd : (⟨b, o, none⟩ : Addr).add off = ⟨b, o + off, none⟩ := Addr.add_mid b o off
  simp [Instr.fieldAt, Sem.run_bind, run_underlying h1 w, h3, Instr.sureAddr, fieldPlace, h6, lay_size hl w, hne, h5, hadd]
theorem OpT.fieldA {t k f off ft : Nat} {fl : List (Nat × Nat)} {z : List ZK} {lf : Lay} {l : List D} (ht : lay P t = some ⟨.struct, k, fl, z⟩ := by rfl) (hf : fl[f]? = some (off, ft) := by rfl) (hl : lay P ft = some lf := by rfl) (hs : Nat.beq lf.size 0 = false := by rfl) :
    OpT P ops (mkO d (.fieldAddr t x f) ty pos af) n [(x, dT (adr l))] [] [] (dT (adr (l.drop off))) [] n := .runD rfl fun β V w A _ h => by
  obtain ⟨b, o, us, e1, h2, h3⟩ := in1 h
  refine ⟨.pointer (some ⟨b, o + off, none⟩), ?_, b, o + off, us.drop off, rfl, h2.drop off, h3.drop off⟩
  simp only [execOp, e1, Sem.run_bind, field_place ht hf hl hs b o w, Result.andThen_ok, Sem.run_pure]
/-- An element's address. -/
theorem OpT.indexA {t e w' k j : Nat} {fl : List (Nat × Nat)} {z : List ZK} {le : Lay} {ls : List (List D)} {l : List D} {i : Int} {ki : IntKind} (hij : i = (j : Int) := by rfl) (hj : ls[j]? = some l) (ht : lay P t = some ⟨.slice e, w', fl, z⟩ := by rfl) (hl : lay P e = some le := by rfl) (hk : le.size = k := by rfl) :
    OpT P ops (mkO d (.indexAddr t x y) ty pos af) n [(x, dT (sl k ls)), (y, dT (lit (.int ki i)))] [] [] (dT (adr l)) [] n := .runD rfl fun β V w A _ h => by
  obtain ⟨⟨a, c, e1, _, _, h3⟩, h4⟩ := in2 h
  have e2 : A.eval y = .int ki i := h4
  obtain ⟨_, b, o, us, rfl, h5, h6⟩ := h3 j l hj
  have hlt := (List.getElem?_eq_some_iff.1 hj).1
  refine ⟨.pointer (some ⟨b, o + j * k, none⟩), ?_, b, o + j * k, us, rfl, h5, h6⟩
  have hadd : (⟨b, o, none⟩ : Addr).add (j * k) = ⟨b, o + j * k, none⟩ := Addr.add_mid b o _
  subst hij
  simp [execOp, e1, e2, Instr.indexAt, asIntOf, Sem.run_bind, run_underlying (lay_slice ht) w, lay_size hl w, hk, hlt, hadd]
theorem OpT.field1 {t k f off ft : Nat} {fl : List (Nat × Nat)} {z : List ZK} {lf : Lay} {c : C} {cs : List C} (ht : lay P t = some ⟨.struct, k, fl, z⟩ := by rfl) (hf : fl[f]? = some (off, ft) := by rfl) (hl : lay P ft = some lf := by rfl) (ha : lf.kind.agg = false := by rfl) (hc : cs[off]? = some c := by rfl) :
    OpT P ops (mkO d (.field t x f) ty pos af) n [(x, .ag cs)] [] [] (.one c) [] n := .runs rfl (fun h κ hκ => h _ (List.mem_singleton.2 rfl) κ (List.mem_flatMap.2 ⟨c, List.mem_of_getElem? hc, hκ⟩)) fun β V w A _ h => by
  obtain ⟨us, e1, h3⟩ := in1 h
  obtain ⟨u, h4, h5⟩ := h3.get hc
  refine ⟨u, ?_, h5⟩
  obtain ⟨fs, h6, h7⟩ := lay_struct ht
  rw [← h7] at hf
  simp only [List.getElem?_map, Option.map_eq_some_iff, Array.getElem?_toList] at hf
  obtain ⟨g, h8, h9⟩ := hf
  have h10 : g.offset = off := congrArg (·.1) h9
  have h11 : g.type = ft := congrArg (·.2) h9
  have hag : (isAgg ft).run P w = .ok false w := by
    obtain ⟨d', i, z', hd, hi, ⟨h1, _⟩, h2, _⟩ := lay_all hl
    obtain ⟨kk, nn, ff, zz⟩ := lf
    cases kk <;> cases d' <;> simp_all [isAgg, Sem.run_bind, run_underlying hd w, LK.agg, lkB]
  simp [execOp, e1, Instr.field, Sem.run_bind, run_underlying h6 w, h8, asAgg, part, h11, h10, hag, h4]
end
theorem OpT.extract {us : List U} {u : U} {i : Nat} (hu : us[i]? = some u := by rfl) : OpT P ops (mkO d (.extract x i) ty pos af) n [(x, .tup us)] [] [] u.t [] n := .runs rfl (fun h κ hκ => h _ (List.mem_singleton.2 rfl) κ (List.mem_flatMap.2 ⟨u, List.mem_of_getElem? hu, by cases u <;> exact hκ⟩)) fun β V w A _ h => by
  obtain ⟨vs, e1, h3⟩ := in1 h
  obtain ⟨v, h4, h5⟩ := h3.get hu
  exact ⟨v, by simp [execOp, e1, Instr.extract, h4], by cases u <;> exact h5⟩
/-- A call. -/
theorem OpT.call {f : FuncId} {xs : List Operand} {ts : List T} {out : T} {tys : Array TypeId} (hc : ∀ n, Con P f ts [] n out [] n) (hl : xs.length = ts.length := by rfl) : OpT P ops (mkO d (.call ⟨.value (.func f), xs.toArray, tys⟩) ty pos af) n (xs.zip ts) [] [] out [] n :=
  ⟨Nat.le_refl n, fun β S w A K htin hb hO hK => by
    rw [if_pos (by simp [Region.wanted])]
    obtain ⟨h1, h2, h3⟩ := hc n
    have hargs : All2 (fun t v => t.is β (hide S w) v) ts ((xs.toArray.map A.eval).toList) := by
      have : ∀ (xs : List Operand) (ts : List T), xs.length = ts.length → (∀ e ∈ xs.zip ts, e.2.is β (hide S w) (A.eval e.1)) → All2 (fun t v => T.is β (hide S w) t v) ts (xs.map A.eval) := by
        intro xs
        induction xs with
        | nil => intro ts hl _; cases ts with
          | nil => trivial
          | cons => simp at hl
        | cons x xs ih => intro ts hl h; cases ts with
          | nil => simp at hl
          | cons t ts => exact ⟨h (x, t) (by simp), ih ts (by simpa using hl) fun e he => h e (by simp only [List.zip_cons_cons, List.mem_cons]; exact .inr he)⟩
      simpa using this xs ts hl htin
    have hcall := h3 β S w (xs.toArray.map A.eval) hargs hO
    unfold Oper.wp
    have he : (execOp A.eval (mkO d (.call ⟨.value (.func f), xs.toArray, tys⟩) ty pos af)).run P w = .ok (.enter f (xs.toArray.map A.eval)) w := by
      have e0 : A.eval (.func f) = .func (.func f) #[] #[] := rfl
      simp [execOp, resolve, e0, Deferred.ofValue, invoke, h1 _ w]
    rw [he]
    refine hcall.mono ?_
    rintro e w' ⟨v, β', rfl, k1, k2, k3, k4, k5, k6⟩
    exact hK v β' w' k1 k2 k3 k4 k5 k6⟩
end
end Go.Sv
namespace Go.Sv
open Go Go.RowKit

class Row (ls : List (List D)) (α : outParam Type) (xs : outParam (List α)) (f : outParam (α → List D)) : Prop where
  eq : ls = xs.map f
instance rowMap {α : Type} (f : α → List D) (xs : List α) : Row (xs.map f) α xs f := ⟨rfl⟩
/-- What the operands are. -/
def Tin (F : FL) : TL → Prop
  | [] => True
  | e :: l => opT F e.1 = some e.2 ∧ Tin F l
theorem Tin.all {F : FL} : ∀ {l : TL}, Tin F l → ∀ e ∈ l, Tell F e.1 e.2
  | [], _, _, h => by cases h
  | e :: l, h, f, hf => by
    rcases List.mem_cons.1 hf with rfl | hf
    · exact h.1
    · exact Tin.all h.2 f hf
theorem upd_nil (H : HL) : upd H [] [] = H := by simp [upd, keys]
section
variable {P : Program} {ops : Array Oper} {n : Nat} {d : Tmp} {op : Op} {ty : TypeId} {pos : String} {af : Array Edge} {F : FL} {H : HL} {acc : List Acc} {l : List Oper} {tin : TL} {out : T} {Fin : Nat → FL → HL → List Acc → Prop} {x y : Operand}
theorem Ch.p (h : OpT P ops (mkO (some d) op ty pos af) n tin [] [] out [] n) (hF : Tin F tin) (r : Ch P ops Fin l n ((d, out) :: F) H (acc ++ [Rec.acc ⟨tin, [], [], out, [], n, n⟩ (some d)])) : Ch P ops Fin (mkO (some d) op ty pos af :: l) n F H acc :=
  .step tin [] [] out [] n h hF.all (fun _ h => by cases h) H (fun _ => by rw [upd_nil]) r
theorem Ch.q (h : OpT P ops (mkO none op ty pos af) n tin [] [] out [] n) (hF : Tin F tin) (r : Ch P ops Fin l n F H (acc ++ [Rec.acc ⟨tin, [], [], out, [], n, n⟩ none])) : Ch P ops Fin (mkO none op ty pos af :: l) n F H acc :=
  .step tin [] [] out [] n h hF.all (fun _ h => by cases h) H (fun _ => by rw [upd_nil]) r
/-- A call. -/
theorem Ch.c {f : FuncId} {xs : List Operand} {ts : List T} {tys : Array TypeId} (hc : ∀ n, Con P f ts [] n out [] n) (hl : xs.length = ts.length := by rfl) (hF : Tin F (xs.zip ts) := by first | exact ⟨rfl, trivial⟩ | exact ⟨rfl, rfl, trivial⟩ | exact ⟨rfl, rfl, rfl, trivial⟩ | exact ⟨rfl, rfl, rfl, rfl, trivial⟩ | exact ⟨rfl, rfl, rfl, rfl, rfl, trivial⟩ | exact trivial)
    (r : Ch P ops Fin l n ((d, out) :: F) H (acc ++ [Rec.acc ⟨xs.zip ts, [], [], out, [], n, n⟩ (some d)])) : Ch P ops Fin (mkO (some d) (.call ⟨.value (.func f), xs.toArray, tys⟩) ty pos af :: l) n F H acc := .p (.call hc hl) hF r
variable {cx : Cx} {Q : Exit → Act → World → Prop} {K : Act → World → Prop}
theorem Ch.endP (h : Wk cx n F H (Q .normal)) : Ch P ops (fun n F H _ => Wk cx n F H (Q .normal)) [] n F H acc := .done h
theorem Ch.endD {n0 : Nat} (hs : sched ops n0 acc = true) (h : Wk cx n F H (Q .normal)) : Ch P ops (fun n' F' H' acc => sched ops n0 acc = true ∧ Wk cx n' F' H' (Q .normal)) [] n F H acc := .done ⟨hs, h⟩
theorem W.thenN (h : Wk cx n F H K) : Wk cx n F H (Exit.then K Q .normal) := h
theorem W.thenR (h : Wk cx n F H (Q .ret)) : Wk cx n F H (Exit.then K Q .ret) := h
theorem W.thenX {i : Nat} (h : Wk cx n F H (Q (.exit i))) : Wk cx n F H (Exit.then K Q (.exit i)) := h
theorem W.inN {i : Nat} (h : Wk cx n F H (Q .normal)) : Wk cx n F H (Exit.inBlock i Q .normal) := h
theorem W.inR {i : Nat} (h : Wk cx n F H (Q .ret)) : Wk cx n F H (Exit.inBlock i Q .ret) := h
theorem W.condDT {c : Operand} {u v : Code} {p : Prop} [Decidable p] (hc : opT F c = some (bT (decide p))) (hp : p) (h : Wk cx n F H (u.wp cx.P Q)) : Wk cx n F H ((Code.cond c u v).wp cx.P Q) := W.cond hc (fun _ => h) fun hf => by simp [hp] at hf
theorem W.condDF {c : Operand} {u v : Code} {p : Prop} [Decidable p] (hc : opT F c = some (bT (decide p))) (hp : ¬ p) (h : Wk cx n F H (v.wp cx.P Q)) : Wk cx n F H ((Code.cond c u v).wp cx.P Q) := W.cond hc (fun hf => by simp [hp] at hf) fun _ => h
theorem W.condBT {c : Operand} {u v : Code} {b : Bool} (hc : opT F c = some (bT b)) (hb : b = true) (h : Wk cx n F H (u.wp cx.P Q)) : Wk cx n F H ((Code.cond c u v).wp cx.P Q) := W.cond hc (fun _ => h) fun hf => by rw [hb] at hf; cases hf
theorem W.condBF {c : Operand} {u v : Code} {b : Bool} (hc : opT F c = some (bT b)) (hb : b = false) (h : Wk cx n F H (v.wp cx.P Q)) : Wk cx n F H ((Code.cond c u v).wp cx.P Q) := W.cond hc (fun hf => by rw [hb] at hf; cases hf) fun _ => h
variable [Lays P]
theorem OpT.lenR {d : Option Tmp} {t e w' k : Nat} {fl : List (Nat × Nat)} {z : List ZK} {α : Type} {xs : List α} {f : α → List D} {ls : List (List D)} [hr : Row ls α xs f] (ht : lay P t = some ⟨.slice e, w', fl, z⟩ := by rfl) : OpT P ops (mkO d (.call ⟨.builtin .len, #[x], #[t]⟩) ty pos af) n [(x, dT (sl k ls))] [] [] (iT xs.length) [] n := by
  have : (xs.length : Int) = ls.length := by rw [hr.eq, List.length_map]
  rw [this]
  exact .lenL ht
theorem OpT.indexR {d : Option Tmp} {t e w' k j : Nat} {fl : List (Nat × Nat)} {z : List ZK} {le : Lay} {α : Type} {xs : List α} {f : α → List D} {ls : List (List D)} [hr : Row ls α xs f] {v : α} {i : Int} {ki : IntKind} (hij : i = (j : Int) := by rfl) (hj : xs[j]? = some v := by assumption) (ht : lay P t = some ⟨.slice e, w', fl, z⟩ := by rfl) (hl : lay P e = some le := by rfl) (hk : le.size = k := by rfl) :
    OpT P ops (mkO d (.indexAddr t x y) ty pos af) n [(x, dT (sl k ls)), (y, dT (lit (.int ki i)))] [] [] (dT (adr (f v))) [] n := .indexA hij (by rw [hr.eq, List.getElem?_map, hj]; rfl) ht hl hk
end
structure Wr (p : Prop) : Prop where
  out : p
end Go.Sv
