/- Part 6 of what StageOrder and StagePlans ask: for every input each returns true, and its input reads as it did. No condition. -/
import Derived.Test.YtelkpflpgpdkdaaGreatDoorPt5
import Derived.Test.YtelkpflpgpdkdaaGreatDoorProg
import Derived.IntWalk
namespace Go.Sv
open Go Go.RowKit

abbrev dT (x : D) : T := .one (.d x)
abbrev iT (n : Int) : T := dT (i64 n)
abbrev bT (b : Bool) : T := dT (bl b)
abbrev sT (s : ByteArray) : T := dT (str s)
def agD (l : List D) : T := .ag (l.map C.d)
section
variable {P : Program} {ops : Array Oper} {n : Nat} {d : Option Tmp} {ty : TypeId} {pos : String} {af : Array Edge} {x y z : Operand} {s : T}
abbrev mkO (d : Option Tmp) (op : Op) (ty : TypeId) (pos : String) (af : Array Edge) : Oper := ⟨d, op, ty, pos, af, none⟩
theorem OpT.runs {o : Oper} {tin : TL} {out : T} (hg : o.guard = none) (hk : (∀ e ∈ tin, Bel n e.2.keys) → Bel n out.keys)
    (h : ∀ (β : Env) (V w : World) (a : Act), Sub V w → (∀ e ∈ tin, e.2.is β V (a.eval e.1)) → ∃ v, (execOp a.eval o).run P w = .ok (.value v) w ∧ out.is β V v) : OpT P ops o n tin [] [] out [] n :=
  ⟨Nat.le_refl n, fun β S w a K htin hb hO hK => by
    rw [if_pos (by simp [Region.wanted, hg])]
    obtain ⟨v, h1, h2⟩ := h β (hide S w) w a hide_shown htin
    unfold Oper.wp
    rw [h1]
    exact hK v β w (Kept.refl _ _) (fun _ _ => rfl) (hk hb) h2 hO.toOwns fun b hb => by cases hb⟩
theorem bel0 {l : List Nat} (h : l = []) : Bel n l := fun κ hκ => by rw [h] at hκ; cases hκ
theorem OpT.runD {o : Oper} {tin : TL} {out : D} (hg : o.guard = none) (h : ∀ (β : Env) (V w : World) (a : Act), Sub V w → (∀ e ∈ tin, e.2.is β V (a.eval e.1)) → ∃ v, (execOp a.eval o).run P w = .ok (.value v) w ∧ out.is V v) : OpT P ops o n tin [] [] (dT out) [] n :=
  .runs hg (fun _ => bel0 rfl) h
theorem agD_keys {l : List D} : (agD l).keys = [] := by
  simp only [agD, T.keys, List.flatMap_eq_nil_iff, List.mem_map]
  rintro _ ⟨d, _, rfl⟩; rfl
theorem in1 {β : Env} {V : World} {a : Act} (h : ∀ e ∈ [(x, s)], e.2.is β V (a.eval e.1)) : s.is β V (a.eval x) := h _ (List.mem_singleton.2 rfl)
theorem in2 {β : Env} {V : World} {a : Act} {u : T} (h : ∀ e ∈ [(x, s), (y, u)], e.2.is β V (a.eval e.1)) : s.is β V (a.eval x) ∧ u.is β V (a.eval y) := ⟨h _ (List.mem_cons_self ..), h _ (List.mem_cons_of_mem _ (List.mem_singleton.2 rfl))⟩
theorem OpT.move : OpT P ops (mkO d (.move x) ty pos af) n [(x, s)] [] [] s [] n := .runs rfl (fun h => h _ (List.mem_singleton.2 rfl)) fun _ _ _ _ _ h => ⟨_, rfl, in1 h⟩
theorem OpT.assign : OpT P ops (mkO d (.assign x) ty pos af) n [(x, s)] [] [] s [] n := .runs rfl (fun h => h _ (List.mem_singleton.2 rfl)) fun _ _ _ _ _ h => ⟨_, rfl, in1 h⟩
/-- Two numbers held against each other. -/
def cmpP : BinOp → Int → Int → Option Bool
  | .eql, a, b => some (decide (a = b))
  | .neq, a, b => some (!decide (a = b))
  | .lss, a, b => some (decide (a < b))
  | .leq, a, b => some (decide (a ≤ b))
  | .gtr, a, b => some (decide (b < a))
  | .geq, a, b => some (decide (b ≤ a))
  | _, _, _ => none
theorem OpT.cmp {op : BinOp} {k : IntKind} {a b : Int} {p : Bool} {t t' : TypeId} (hp : cmpP op a b = some p := by rfl) : OpT P ops (mkO d (.binOp op t x y t') ty pos af) n [(x, dT (lit (.int k a))), (y, dT (lit (.int k b)))] [] [] (bT p) [] n := .runD rfl fun β V w A _ h => by
  obtain ⟨h1, h2⟩ := in2 h
  have e1 : A.eval x = .int k a := h1
  have e2 : A.eval y = .int k b := h2
  refine ⟨.bool p, ?_, rfl⟩
  cases op <;> simp only [cmpP, Option.some.injEq] at hp <;> first | (cases hp; done) | (subst hp; simp [execOp, e1, e2, eqGuard, binOp, Op.intCmp]; try rfl)
def arP : BinOp → Int → Int → Option Int
  | .add, a, b => some (a + b)
  | .sub, a, b => some (a - b)
  | .mul, a, b => some (a * b)
  | _, _, _ => none
/-- A sum that stays within bounds. -/
theorem OpT.ar {op : BinOp} {a b c : Int} {t t' : TypeId} (hc : arP op a b = some c := by rfl) (hr : -9223372036854775808 ≤ c ∧ c ≤ 9223372036854775807) : OpT P ops (mkO d (.binOp op t x y t') ty pos af) n [(x, iT a), (y, iT b)] [] [] (iT c) [] n := .runD rfl fun β V w A _ h => by
  obtain ⟨h1, h2⟩ := in2 h
  have e1 : A.eval x = .int .i64 a := h1
  have e2 : A.eval y = .int .i64 b := h2
  refine ⟨.int .i64 c, ?_, rfl⟩
  have hw := IntWalk.i64_in c hr
  cases op <;> simp only [arP, Option.some.injEq] at hc <;> first | (cases hc; done) | (subst hc; simp [execOp, e1, e2, eqGuard, binOp, Op.intArith, hw])
/-- Texts held against each other. -/
def cmpS : BinOp → ByteArray → ByteArray → Option Bool
  | .eql, a, b => some (a.toList == b.toList)
  | .neq, a, b => some (!(a.toList == b.toList))
  | .lss, a, b => some (Op.bytesLess a.toList b.toList)
  | .leq, a, b => some (Op.bytesLess a.toList b.toList || a.toList == b.toList)
  | .gtr, a, b => some (!(Op.bytesLess a.toList b.toList || a.toList == b.toList))
  | .geq, a, b => some (!Op.bytesLess a.toList b.toList)
  | _, _, _ => none
theorem OpT.cmpS {op : BinOp} {a b : ByteArray} {p : Bool} {t t' : TypeId} (hp : Sv.cmpS op a b = some p := by rfl) : OpT P ops (mkO d (.binOp op t x y t') ty pos af) n [(x, sT a), (y, sT b)] [] [] (bT p) [] n := .runD rfl fun β V w A _ h => by
  obtain ⟨h1, h2⟩ := in2 h
  have e1 : A.eval x = .string a := h1
  have e2 : A.eval y = .string b := h2
  refine ⟨.bool p, ?_, rfl⟩
  cases op <;> simp only [Sv.cmpS, Option.some.injEq] at hp <;> first | (cases hp; done) | (subst hp; simp [execOp, e1, e2, eqGuard, binOp, Op.stringOp])
theorem OpT.not {b : Bool} {t : TypeId} : OpT P ops (mkO d (.unOp .not t x) ty pos af) n [(x, bT b)] [] [] (bT !b) [] n := .runD rfl fun β V w A _ h => by
  have e1 : A.eval x = .bool b := in1 h
  exact ⟨.bool !b, by simp [execOp, e1, Op.unary], rfl⟩
theorem OpT.neg {a : Int} {t : TypeId} (hr : -9223372036854775808 ≤ -a ∧ -a ≤ 9223372036854775807) : OpT P ops (mkO d (.unOp .neg t x) ty pos af) n [(x, iT a)] [] [] (iT (-a)) [] n := .runD rfl fun β V w A _ h => by
  have e1 : A.eval x = .int .i64 a := in1 h
  exact ⟨.int .i64 (-a), by simp [execOp, e1, Op.unary, Op.intArith, IntWalk.i64_in (-a) hr], rfl⟩
theorem in3 {β : Env} {V : World} {a : Act} {u v : T} (h : ∀ e ∈ [(x, s), (y, u), (z, v)], e.2.is β V (a.eval e.1)) : s.is β V (a.eval x) ∧ u.is β V (a.eval y) ∧ v.is β V (a.eval z) :=
  ⟨h _ (List.mem_cons_self ..), in2 fun e he => h e (List.mem_cons_of_mem _ he)⟩
theorem OpT.pickAnd {b c : Bool} : OpT P ops (mkO d (.pick x y (.const (.bool false))) ty pos af) n [(x, bT b), (y, .opt b (bT c))] [] [] (bT (b && c)) [] n := .runD rfl fun β V w A _ h => by
  obtain ⟨h1, h2⟩ := in2 h
  have e1 : A.eval x = .bool b := h1
  have e3 : A.eval (.const (.bool false)) = .bool false := rfl
  cases b with
  | false => exact ⟨.bool false, by simp [execOp, e1, e3, asBool], rfl⟩
  | true =>
    have e2 : A.eval y = .bool c := h2.1 rfl
    exact ⟨.bool c, by simp [execOp, e1, e2, asBool], rfl⟩
theorem OpT.pickOr {b c : Bool} : OpT P ops (mkO d (.pick x (.const (.bool true)) y) ty pos af) n [(x, bT b), (y, .opt (!b) (bT c))] [] [] (bT (b || c)) [] n := .runD rfl fun β V w A _ h => by
  obtain ⟨h1, h2⟩ := in2 h
  have e1 : A.eval x = .bool b := h1
  have e3 : A.eval (.const (.bool true)) = .bool true := rfl
  cases b with
  | true => exact ⟨.bool true, by simp [execOp, e1, e3, asBool], rfl⟩
  | false =>
    have e2 : A.eval y = .bool c := h2.1 rfl
    exact ⟨.bool c, by simp [execOp, e1, e2, asBool], rfl⟩
theorem OpT.lenS [Lays P] {s : ByteArray} {t k : Nat} {fl : List (Nat × Nat)} {z : List ZK} (ht : lay P t = some ⟨.str, k, fl, z⟩ := by rfl) : OpT P ops (mkO d (.call ⟨.builtin .len, #[x], #[t]⟩) ty pos af) n [(x, sT s)] [] [] (iT s.size) [] n := .runD rfl fun β V w A _ h => by
  have e1 : A.eval x = .string s := in1 h
  exact ⟨.int .i64 s.size, by simp [execOp, e1, resolve, invoke, builtin, Builtin.len_, Sem.run_bind, run_underlying (lay_str ht) w, goInt], rfl⟩
section
variable [Lays P]
theorem OpT.lenL {t e w' k : Nat} {fl : List (Nat × Nat)} {z : List ZK} {ls : List (List D)} (ht : lay P t = some ⟨.slice e, w', fl, z⟩ := by rfl) : OpT P ops (mkO d (.call ⟨.builtin .len, #[x], #[t]⟩) ty pos af) n [(x, dT (sl k ls))] [] [] (iT ls.length) [] n := .runD rfl fun β V w A _ h => by
  obtain ⟨a, c, e1, _⟩ := in1 h
  exact ⟨.int .i64 ls.length, by simp [execOp, e1, resolve, invoke, builtin, Builtin.len_, Sem.run_bind, run_underlying (lay_slice ht) w, goInt], rfl⟩
/-- A struct is loaded. -/
theorem OpT.loadAg {t k : Nat} {lk : LK} {fl : List (Nat × Nat)} {z : List ZK} {l : List D} (ht : lay P t = some ⟨lk, k, fl, z⟩ := by rfl) (ha : lk.agg = true := by rfl) (hk : (l.take k).length = k := by rfl) :
    OpT P ops (mkO d (.load t x) ty pos af) n [(x, dT (adr l))] [] [] (agD (l.take k)) [] n := .runs rfl (fun _ => bel0 agD_keys) fun β V w A hS h => by
  obtain ⟨b, o, us, e1, h2, h3⟩ := in1 h
  refine ⟨_, ?_, us.take k, rfl, all2_map.2 (h3.take k)⟩
  have hsh := lay_shp ht
  rw [ha] at hsh
  have hl : (us.take k).length = k := (h3.take k).len.symm.trans hk
  simp only [execOp, e1, Instr.loadAt, Instr.sureAddr, Sem.run_bind, Sem.run_pure, Result.andThen_ok, load_many hsh ((h2.mono hS).take k) hl]
theorem OpT.load1 {t k : Nat} {lk : LK} {fl : List (Nat × Nat)} {z : List ZK} {x' : D} {l : List D} (ht : lay P t = some ⟨lk, k, fl, z⟩ := by rfl) (ha : lk.agg = false := by rfl) (hl : l[0]? = some x' := by rfl) :
    OpT P ops (mkO d (.load t x) ty pos af) n [(x, dT (adr l))] [] [] (dT x') [] n := .runD rfl fun β V w A hS h => by
  obtain ⟨b, o, us, e1, h2, h3⟩ := in1 h
  obtain ⟨u, h4, h5⟩ := h3.get hl
  refine ⟨u, ?_, h5⟩
  have hsh := lay_shp ht
  rw [ha] at hsh
  have : w.cell? ⟨b, o, none⟩ = some u := (h2.mono hS) 0 u h4
  simp only [execOp, e1, Instr.loadAt, Instr.sureAddr, Sem.run_bind, Sem.run_pure, Result.andThen_ok, load_one hsh this]
theorem field_place {t k f off ft : Nat} {fl : List (Nat × Nat)} {z : List ZK} {lf : Lay} (ht : lay P t = some ⟨.struct, k, fl, z⟩) (hf : fl[f]? = some (off, ft)) (hl : lay P ft = some lf) (hs : Nat.beq lf.size 0 = false) (b o : Nat) (w : World) :
    (Instr.fieldAt t (.pointer (some ⟨b, o, none⟩)) f).run P w = .ok (.pointer (some ⟨b, o + off, none⟩)) w := by
  obtain ⟨fs, h1, h2⟩ := lay_struct ht
  rw [← h2] at hf
  simp only [List.getElem?_map, Option.map_eq_some_iff, Array.getElem?_toList] at hf
  obtain ⟨g, h3, h4⟩ := hf
  have h5 : g.offset = off := congrArg (·.1) h4
  have h6 : g.type = ft := congrArg (·.2) h4
  have hne : ¬ lf.size = 0 := fun e => by rw [e] at hs; cases hs
  have hadd : (⟨b, o, none⟩ : Addr).add off = ⟨b, o + off, none⟩ := Addr.add_mid b o off
  simp [Instr.fieldAt, Sem.run_bind, run_underlying h1 w, h3, Instr.sureAddr, fieldPlace, h6, lay_size hl w, hne, h5, hadd]
theorem OpT.fieldA {t k f off ft : Nat} {fl : List (Nat × Nat)} {z : List ZK} {lf : Lay} {l : List D} (ht : lay P t = some ⟨.struct, k, fl, z⟩ := by rfl) (hf : fl[f]? = some (off, ft) := by rfl) (hl : lay P ft = some lf := by rfl) (hs : Nat.beq lf.size 0 = false := by rfl) :
    OpT P ops (mkO d (.fieldAddr t x f) ty pos af) n [(x, dT (adr l))] [] [] (dT (adr (l.drop off))) [] n := .runD rfl fun β V w A _ h => by
  obtain ⟨b, o, us, e1, h2, h3⟩ := in1 h
  refine ⟨.pointer (some ⟨b, o + off, none⟩), ?_, b, o + off, us.drop off, rfl, h2.drop off, h3.drop off⟩
  simp only [execOp, e1, Sem.run_bind, field_place ht hf hl hs b o w, Result.andThen_ok, Sem.run_pure]
/-- An element's address. -/
theorem OpT.indexA {t e w' k j : Nat} {fl : List (Nat × Nat)} {z : List ZK} {le : Lay} {ls : List (List D)} {l : List D} {i : Int} {ki : IntKind} (hij : i = (j : Int) := by rfl) (hj : ls[j]? = some l) (ht : lay P t = some ⟨.slice e, w', fl, z⟩ := by rfl) (hl : lay P e = some le := by rfl) (hk : le.size = k := by rfl) :
    OpT P ops (mkO d (.indexAddr t x y) ty pos af) n [(x, dT (sl k ls)), (y, dT (lit (.int ki i)))] [] [] (dT (adr l)) [] n := .runD rfl fun β V w A _ h => by
  obtain ⟨⟨a, c, e1, _, _, h3⟩, h4⟩ := in2 h
  have e2 : A.eval y = .int ki i := h4
  obtain ⟨_, b, o, us, rfl, h5, h6⟩ := h3 j l hj
  have hlt := (List.getElem?_eq_some_iff.1 hj).1
  refine ⟨.pointer (some ⟨b, o + j * k, none⟩), ?_, b, o + j * k, us, rfl, h5, h6⟩
  have hadd : (⟨b, o, none⟩ : Addr).add (j * k) = ⟨b, o + j * k, none⟩ := Addr.add_mid b o _
  subst hij
  simp [execOp, e1, e2, Instr.indexAt, asIntOf, Sem.run_bind, run_underlying (lay_slice ht) w, lay_size hl w, hk, hlt, hadd]
theorem OpT.field1 {t k f off ft : Nat} {fl : List (Nat × Nat)} {z : List ZK} {lf : Lay} {c : C} {cs : List C} (ht : lay P t = some ⟨.struct, k, fl, z⟩ := by rfl) (hf : fl[f]? = some (off, ft) := by rfl) (hl : lay P ft = some lf := by rfl) (ha : lf.kind.agg = false := by rfl) (hc : cs[off]? = some c := by rfl) :
    OpT P ops (mkO d (.field t x f) ty pos af) n [(x, .ag cs)] [] [] (.one c) [] n := .runs rfl (fun h κ hκ => h _ (List.mem_singleton.2 rfl) κ (List.mem_flatMap.2 ⟨c, List.mem_of_getElem? hc, hκ⟩)) fun β V w A _ h => by
  obtain ⟨us, e1, h3⟩ := in1 h
  obtain ⟨u, h4, h5⟩ := h3.get hc
  refine ⟨u, ?_, h5⟩
  obtain ⟨fs, h6, h7⟩ := lay_struct ht
  rw [← h7] at hf
  simp only [List.getElem?_map, Option.map_eq_some_iff, Array.getElem?_toList] at hf
  obtain ⟨g, h8, h9⟩ := hf
  have h10 : g.offset = off := congrArg (·.1) h9
  have h11 : g.type = ft := congrArg (·.2) h9
  have hag : (isAgg ft).run P w = .ok false w := by
    obtain ⟨d', i, z', hd, hi, ⟨h1, _⟩, h2, _⟩ := lay_all hl
    obtain ⟨kk, nn, ff, zz⟩ := lf
    cases kk <;> cases d' <;> simp_all [isAgg, Sem.run_bind, run_underlying hd w, LK.agg, lkB]
  simp [execOp, e1, Instr.field, Sem.run_bind, run_underlying h6 w, h8, asAgg, part, h11, h10, hag, h4]
end
theorem OpT.extract {us : List U} {u : U} {i : Nat} (hu : us[i]? = some u := by rfl) : OpT P ops (mkO d (.extract x i) ty pos af) n [(x, .tup us)] [] [] u.t [] n := .runs rfl (fun h κ hκ => h _ (List.mem_singleton.2 rfl) κ (List.mem_flatMap.2 ⟨u, List.mem_of_getElem? hu, by cases u <;> exact hκ⟩)) fun β V w A _ h => by
  obtain ⟨vs, e1, h3⟩ := in1 h
  obtain ⟨v, h4, h5⟩ := h3.get hu
  exact ⟨v, by simp [execOp, e1, Instr.extract, h4], by cases u <;> exact h5⟩
/-- A call. -/
theorem OpT.call {f : FuncId} {xs : List Operand} {ts : List T} {out : T} {tys : Array TypeId} (hc : ∀ n, Con P f ts [] n out [] n) (hl : xs.length = ts.length := by rfl) : OpT P ops (mkO d (.call ⟨.value (.func f), xs.toArray, tys⟩) ty pos af) n (xs.zip ts) [] [] out [] n :=
  ⟨Nat.le_refl n, fun β S w A K htin hb hO hK => by
    rw [if_pos (by simp [Region.wanted])]
    obtain ⟨h1, h2, h3⟩ := hc n
    have hargs : All2 (fun t v => t.is β (hide S w) v) ts ((xs.toArray.map A.eval).toList) := by
      have : ∀ (xs : List Operand) (ts : List T), xs.length = ts.length → (∀ e ∈ xs.zip ts, e.2.is β (hide S w) (A.eval e.1)) → All2 (fun t v => T.is β (hide S w) t v) ts (xs.map A.eval) := by
        intro xs
        induction xs with
        | nil => intro ts hl _; cases ts with
          | nil => trivial
          | cons => simp at hl
        | cons x xs ih => intro ts hl h; cases ts with
          | nil => simp at hl
          | cons t ts => exact ⟨h (x, t) (by simp), ih ts (by simpa using hl) fun e he => h e (by simp only [List.zip_cons_cons, List.mem_cons]; exact .inr he)⟩
      simpa using this xs ts hl htin
    have hcall := h3 β S w (xs.toArray.map A.eval) hargs hO
    unfold Oper.wp
    have he : (execOp A.eval (mkO d (.call ⟨.value (.func f), xs.toArray, tys⟩) ty pos af)).run P w = .ok (.enter f (xs.toArray.map A.eval)) w := by
      have e0 : A.eval (.func f) = .func (.func f) #[] #[] := rfl
      simp [execOp, resolve, e0, Deferred.ofValue, invoke, h1 _ w]
    rw [he]
    refine hcall.mono ?_
    rintro e w' ⟨v, β', rfl, k1, k2, k3, k4, k5, k6⟩
    exact hK v β' w' k1 k2 k3 k4 k5 k6⟩
end
end Go.Sv
namespace Go.Sv
open Go Go.Proofs
set_option maxRecDepth 100000 in
instance lays0 : Lays Tryz.prog where
  L := [(1, ⟨.prim, 1, [], [.func]⟩),
    (2, ⟨(.int .i64), 1, [], [.int .i64]⟩),
    (3, ⟨(.int .i64), 1, [], [.int .i64]⟩),
    (4, ⟨.prim, 1, [], [.bool]⟩),
    (5, ⟨(.int .u8), 1, [], [.int .u8]⟩),
    (6, ⟨(.int .u8), 1, [], [.int .u8]⟩),
    (9, ⟨.str, 1, [], [.str]⟩),
    (10, ⟨.str, 1, [], [.str]⟩),
    (11, ⟨.str, 1, [], [.str]⟩),
    (12, ⟨(.int .u64), 1, [], [.int .u64]⟩),
    (21, ⟨(.int .i32), 1, [], [.int .i32]⟩),
    (22, ⟨(.slice 30), 1, [], [.slice]⟩),
    (23, ⟨.prim, 1, [], [.func]⟩),
    (24, ⟨(.slice 3), 1, [], [.slice]⟩),
    (25, ⟨(.slice 37), 1, [], [.slice]⟩),
    (26, ⟨.struct, 4, [(0, 3), (1, 3), (2, 24), (3, 25)], [.int .i64, .int .i64, .slice, .slice]⟩),
    (27, ⟨.struct, 4, [(0, 3), (1, 3), (2, 24), (3, 25)], [.int .i64, .int .i64, .slice, .slice]⟩),
    (28, ⟨.prim, 1, [], [.func]⟩),
    (29, ⟨(.int .i64), 1, [], [.int .i64]⟩),
    (30, ⟨(.array 3), 3, [], [.int .i64, .int .i64, .int .i64]⟩),
    (32, ⟨.prim, 1, [], [.func]⟩),
    (33, ⟨.prim, 1, [], [.func]⟩),
    (34, ⟨.prim, 1, [], [.func]⟩),
    (35, ⟨.prim, 1, [], [.func]⟩),
    (37, ⟨.struct, 3, [(0, 3), (1, 3), (2, 3)], [.int .i64, .int .i64, .int .i64]⟩),
    (38, ⟨.prim, 1, [], [.func]⟩),
    (39, ⟨.prim, 1, [], [.func]⟩),
    (40, ⟨(.slice 50), 1, [], [.slice]⟩),
    (42, ⟨.struct, 4, [(0, 3), (1, 3), (2, 3), (3, 3)], [.int .i64, .int .i64, .int .i64, .int .i64]⟩),
    (44, ⟨.prim, 1, [], [.func]⟩),
    (45, ⟨(.slice 9), 1, [], [.slice]⟩),
    (46, ⟨(.slice 48), 1, [], [.slice]⟩),
    (47, ⟨.struct, 5, [(0, 3), (1, 3), (2, 9), (3, 45), (4, 46)], [.int .i64, .int .i64, .str, .slice, .slice]⟩),
    (48, ⟨.struct, 5, [(0, 3), (1, 3), (2, 9), (3, 45), (4, 46)], [.int .i64, .int .i64, .str, .slice, .slice]⟩),
    (49, ⟨.struct, 12, [(0, 3), (1, 9), (2, 9), (3, 3), (4, 3), (5, 3), (6, 4), (7, 48)], [.int .i64, .str, .str, .int .i64, .int .i64, .int .i64, .bool, .int .i64, .int .i64, .str, .slice, .slice]⟩),
    (50, ⟨.struct, 12, [(0, 3), (1, 9), (2, 9), (3, 3), (4, 3), (5, 3), (6, 4), (7, 48)], [.int .i64, .str, .str, .int .i64, .int .i64, .int .i64, .bool, .int .i64, .int .i64, .str, .slice, .slice]⟩),
    (51, ⟨.prim, 1, [], [.func]⟩),
    (52, ⟨.prim, 1, [], [.func]⟩),
    (53, ⟨(.slice 206), 1, [], [.slice]⟩),
    (54, ⟨(.slice 56), 1, [], [.slice]⟩),
    (55, ⟨.struct, 6, [(0, 3), (1, 3), (2, 3), (3, 45), (4, 53), (5, 54)], [.int .i64, .int .i64, .int .i64, .slice, .slice, .slice]⟩),
    (56, ⟨.struct, 6, [(0, 3), (1, 3), (2, 3), (3, 45), (4, 53), (5, 54)], [.int .i64, .int .i64, .int .i64, .slice, .slice, .slice]⟩),
    (57, ⟨(.slice 153), 1, [], [.slice]⟩),
    (58, ⟨(.slice 156), 1, [], [.slice]⟩),
    (59, ⟨.struct, 2, [(0, 57), (1, 58)], [.slice, .slice]⟩),
    (60, ⟨.struct, 2, [(0, 57), (1, 58)], [.slice, .slice]⟩),
    (61, ⟨(.slice 99), 1, [], [.slice]⟩),
    (62, ⟨.struct, 3, [(0, 60), (2, 61)], [.slice, .slice, .slice]⟩),
    (63, ⟨.struct, 3, [(0, 60), (2, 61)], [.slice, .slice, .slice]⟩),
    (65, ⟨.prim, 1, [], [.func]⟩),
    (66, ⟨.prim, 1, [], [.func]⟩),
    (67, ⟨.prim, 1, [], [.func]⟩),
    (69, ⟨.prim, 1, [], [.func]⟩),
    (70, ⟨.struct, 4, [(0, 24), (1, 63)], [.slice, .slice, .slice, .slice]⟩),
    (71, ⟨.struct, 4, [(0, 24), (1, 63)], [.slice, .slice, .slice, .slice]⟩),
    (72, ⟨(.slice 71), 1, [], [.slice]⟩),
    (73, ⟨.prim, 1, [], [.func]⟩),
    (74, ⟨.prim, 1, [], [.func]⟩),
    (75, ⟨.prim, 1, [], [.func]⟩),
    (76, ⟨.prim, 1, [], [.func]⟩),
    (77, ⟨.prim, 1, [], [.func]⟩),
    (78, ⟨.prim, 1, [], [.func]⟩),
    (79, ⟨.prim, 1, [], [.func]⟩),
    (80, ⟨.prim, 1, [], [.func]⟩),
    (81, ⟨.prim, 1, [], [.func]⟩),
    (82, ⟨.prim, 1, [], [.func]⟩),
    (83, ⟨.prim, 1, [], [.func]⟩),
    (84, ⟨.prim, 1, [], [.func]⟩),
    (85, ⟨.prim, 1, [], [.func]⟩),
    (87, ⟨.prim, 1, [], [.func]⟩),
    (88, ⟨.prim, 1, [], [.func]⟩),
    (89, ⟨.prim, 1, [], [.func]⟩),
    (90, ⟨.prim, 1, [], [.func]⟩),
    (91, ⟨.prim, 1, [], [.func]⟩),
    (92, ⟨(.slice 161), 1, [], [.slice]⟩),
    (93, ⟨.struct, 6, [(0, 48), (5, 92)], [.int .i64, .int .i64, .str, .slice, .slice, .slice]⟩),
    (94, ⟨.struct, 6, [(0, 48), (5, 92)], [.int .i64, .int .i64, .str, .slice, .slice, .slice]⟩),
    (96, ⟨.prim, 1, [], [.func]⟩),
    (97, ⟨.prim, 1, [], [.func]⟩),
    (98, ⟨.struct, 8, [(0, 9), (1, 3), (2, 94)], [.str, .int .i64, .int .i64, .int .i64, .str, .slice, .slice, .slice]⟩),
    (99, ⟨.struct, 8, [(0, 9), (1, 3), (2, 94)], [.str, .int .i64, .int .i64, .int .i64, .str, .slice, .slice, .slice]⟩),
    (100, ⟨(.map 9 48), 1, [], [.map]⟩),
    (101, ⟨.prim, 1, [], [.func]⟩),
    (102, ⟨.prim, 1, [], [.func]⟩),
    (103, ⟨.prim, 1, [], [.func]⟩),
    (104, ⟨.prim, 1, [], [.func]⟩),
    (105, ⟨.prim, 1, [], [.func]⟩),
    (106, ⟨.prim, 1, [], [.func]⟩),
    (107, ⟨.prim, 1, [], [.func]⟩),
    (108, ⟨.prim, 1, [], [.func]⟩),
    (110, ⟨.prim, 1, [], [.func]⟩),
    (111, ⟨(.int .u64), 1, [], [.int .u64]⟩),
    (113, ⟨.prim, 1, [], [.func]⟩),
    (114, ⟨.prim, 1, [], [.func]⟩),
    (115, ⟨.prim, 1, [], [.func]⟩),
    (116, ⟨.prim, 1, [], [.func]⟩),
    (117, ⟨.prim, 1, [], [.func]⟩),
    (118, ⟨.prim, 1, [], [.func]⟩),
    (119, ⟨.prim, 1, [], [.func]⟩),
    (120, ⟨.prim, 1, [], [.func]⟩),
    (121, ⟨.prim, 1, [], [.func]⟩),
    (122, ⟨.prim, 1, [], [.func]⟩),
    (123, ⟨.prim, 1, [], [.func]⟩),
    (125, ⟨.prim, 1, [], [.func]⟩),
    (126, ⟨.prim, 1, [], [.func]⟩),
    (127, ⟨.prim, 1, [], [.func]⟩),
    (128, ⟨.prim, 1, [], [.func]⟩),
    (129, ⟨.prim, 1, [], [.func]⟩),
    (130, ⟨.prim, 1, [], [.func]⟩),
    (131, ⟨.prim, 1, [], [.func]⟩),
    (133, ⟨.prim, 1, [], [.func]⟩),
    (134, ⟨.prim, 1, [], [.func]⟩),
    (135, ⟨.prim, 1, [], [.func]⟩),
    (136, ⟨.prim, 1, [], [.func]⟩),
    (137, ⟨.prim, 1, [], [.func]⟩),
    (138, ⟨.prim, 1, [], [.func]⟩),
    (139, ⟨.prim, 1, [], [.func]⟩),
    (140, ⟨.prim, 1, [], [.func]⟩),
    (142, ⟨.prim, 1, [], [.func]⟩),
    (143, ⟨.prim, 1, [], [.func]⟩),
    (144, ⟨(.int .u32), 1, [], [.int .u32]⟩),
    (146, ⟨.prim, 1, [], [.func]⟩),
    (147, ⟨(.int .u64), 1, [], [.int .u64]⟩),
    (149, ⟨.prim, 1, [], [.func]⟩),
    (150, ⟨.prim, 1, [], [.func]⟩),
    (151, ⟨.prim, 1, [], [.func]⟩),
    (152, ⟨.struct, 7, [(0, 9), (1, 56)], [.str, .int .i64, .int .i64, .int .i64, .slice, .slice, .slice]⟩),
    (153, ⟨.struct, 7, [(0, 9), (1, 56)], [.str, .int .i64, .int .i64, .int .i64, .slice, .slice, .slice]⟩),
    (154, ⟨(.slice 210), 1, [], [.slice]⟩),
    (155, ⟨.struct, 3, [(0, 3), (1, 3), (2, 154)], [.int .i64, .int .i64, .slice]⟩),
    (156, ⟨.struct, 3, [(0, 3), (1, 3), (2, 154)], [.int .i64, .int .i64, .slice]⟩),
    (157, ⟨.prim, 1, [], [.func]⟩),
    (158, ⟨.prim, 1, [], [.func]⟩),
    (159, ⟨.prim, 1, [], [.func]⟩),
    (160, ⟨.struct, 8, [(0, 3), (1, 24), (2, 45), (3, 48)], [.int .i64, .slice, .slice, .int .i64, .int .i64, .str, .slice, .slice]⟩),
    (161, ⟨.struct, 8, [(0, 3), (1, 24), (2, 45), (3, 48)], [.int .i64, .slice, .slice, .int .i64, .int .i64, .str, .slice, .slice]⟩),
    (162, ⟨.prim, 1, [], [.func]⟩),
    (163, ⟨.prim, 1, [], [.func]⟩),
    (164, ⟨.prim, 1, [], [.func]⟩),
    (165, ⟨.prim, 1, [], [.func]⟩),
    (166, ⟨.prim, 1, [], [.func]⟩),
    (167, ⟨.prim, 1, [], [.func]⟩),
    (168, ⟨.prim, 1, [], [.func]⟩),
    (169, ⟨.prim, 1, [], [.func]⟩),
    (170, ⟨.prim, 1, [], [.func]⟩),
    (171, ⟨.prim, 1, [], [.func]⟩),
    (172, ⟨(.slice 177), 1, [], [.slice]⟩),
    (174, ⟨.prim, 1, [], [.func]⟩),
    (175, ⟨.prim, 1, [], [.func]⟩),
    (177, ⟨.struct, 2, [(0, 3), (1, 4)], [.int .i64, .bool]⟩),
    (179, ⟨.prim, 1, [], [.func]⟩),
    (180, ⟨.prim, 1, [], [.func]⟩),
    (181, ⟨.prim, 1, [], [.func]⟩),
    (182, ⟨.prim, 1, [], [.func]⟩),
    (183, ⟨.prim, 1, [], [.func]⟩),
    (184, ⟨.prim, 1, [], [.func]⟩),
    (185, ⟨.prim, 1, [], [.func]⟩),
    (186, ⟨.prim, 1, [], [.func]⟩),
    (187, ⟨.prim, 1, [], [.func]⟩),
    (188, ⟨.prim, 1, [], [.func]⟩),
    (190, ⟨(.map 3 172), 1, [], [.map]⟩),
    (191, ⟨.prim, 1, [], [.func]⟩),
    (193, ⟨.prim, 1, [], [.func]⟩),
    (194, ⟨.prim, 1, [], [.func]⟩),
    (195, ⟨.prim, 1, [], [.func]⟩),
    (196, ⟨.prim, 1, [], [.func]⟩),
    (197, ⟨.prim, 1, [], [.func]⟩),
    (198, ⟨.prim, 1, [], [.func]⟩),
    (199, ⟨.prim, 1, [], [.func]⟩),
    (200, ⟨.prim, 1, [], [.func]⟩),
    (201, ⟨.prim, 1, [], [.func]⟩),
    (202, ⟨.prim, 1, [], [.func]⟩),
    (203, ⟨.prim, 1, [], [.func]⟩),
    (204, ⟨.prim, 1, [], [.func]⟩),
    (205, ⟨.struct, 8, [(0, 9), (1, 4), (2, 56)], [.str, .bool, .int .i64, .int .i64, .int .i64, .slice, .slice, .slice]⟩),
    (206, ⟨.struct, 8, [(0, 9), (1, 4), (2, 56)], [.str, .bool, .int .i64, .int .i64, .int .i64, .slice, .slice, .slice]⟩),
    (207, ⟨.prim, 1, [], [.func]⟩),
    (208, ⟨(.slice 212), 1, [], [.slice]⟩),
    (209, ⟨.struct, 16, [(0, 3), (1, 9), (2, 9), (3, 56), (9, 48), (14, 208), (15, 154)], [.int .i64, .str, .str, .int .i64, .int .i64, .int .i64, .slice, .slice, .slice, .int .i64, .int .i64, .str, .slice, .slice, .slice, .slice]⟩),
    (210, ⟨.struct, 16, [(0, 3), (1, 9), (2, 9), (3, 56), (9, 48), (14, 208), (15, 154)], [.int .i64, .str, .str, .int .i64, .int .i64, .int .i64, .slice, .slice, .slice, .int .i64, .int .i64, .str, .slice, .slice, .slice, .slice]⟩),
    (211, ⟨.prim, 1, [], [.func]⟩),
    (212, ⟨(.array 3), 2, [], [.int .i64, .int .i64]⟩),
    (213, ⟨.prim, 1, [], [.func]⟩),
    (214, ⟨.prim, 1, [], [.func]⟩),
    (215, ⟨.prim, 1, [], [.func]⟩),
    (216, ⟨.prim, 1, [], [.func]⟩),
    (217, ⟨.prim, 1, [], [.func]⟩),
    (218, ⟨.prim, 1, [], [.func]⟩),
    (219, ⟨.prim, 1, [], [.func]⟩),
    (220, ⟨(.int .i64), 1, [], [.int .i64]⟩),
    (222, ⟨.prim, 1, [], [.func]⟩),
    (223, ⟨.prim, 1, [], [.func]⟩),
    (224, ⟨.prim, 1, [], [.func]⟩),
    (225, ⟨.prim, 1, [], [.func]⟩),
    (226, ⟨.prim, 1, [], [.func]⟩),
    (227, ⟨.prim, 1, [], [.func]⟩),
    (228, ⟨.prim, 1, [], [.func]⟩),
    (229, ⟨.prim, 1, [], [.func]⟩),
    (230, ⟨.prim, 1, [], [.func]⟩),
    (231, ⟨.prim, 1, [], [.func]⟩),
    (232, ⟨.prim, 1, [], [.func]⟩),
    (233, ⟨.prim, 1, [], [.func]⟩),
    (234, ⟨.prim, 1, [], [.func]⟩),
    (235, ⟨.prim, 1, [], [.func]⟩),
    (236, ⟨.prim, 1, [], [.func]⟩),
    (237, ⟨.prim, 1, [], [.func]⟩),
    (238, ⟨.prim, 1, [], [.func]⟩),
    (239, ⟨.prim, 1, [], [.func]⟩),
    (240, ⟨.prim, 1, [], [.func]⟩),
    (241, ⟨.prim, 1, [], [.func]⟩),
    (242, ⟨.prim, 1, [], [.func]⟩),
    (243, ⟨.struct, 2, [(0, 45), (1, 29)], [.slice, .int .i64]⟩),
    (244, ⟨.struct, 2, [(0, 45), (1, 29)], [.slice, .int .i64]⟩),
    (245, ⟨.prim, 1, [], [.func]⟩),
    (246, ⟨.prim, 1, [], [.func]⟩),
    (248, ⟨.prim, 1, [], [.func]⟩),
    (249, ⟨.prim, 1, [], [.func]⟩),
    (250, ⟨(.int .u64), 1, [], [.int .u64]⟩),
    (251, ⟨.prim, 1, [], [.func]⟩),
    (252, ⟨.prim, 1, [], [.func]⟩),
    (253, ⟨.prim, 1, [], [.func]⟩),
    (254, ⟨(.ptr 3), 1, [], [.ptr]⟩),
    (255, ⟨.prim, 1, [], [.func]⟩),
    (256, ⟨.struct, 6, [(0, 56)], [.int .i64, .int .i64, .int .i64, .slice, .slice, .slice]⟩),
    (259, ⟨.prim, 1, [], [.func]⟩),
    (260, ⟨.prim, 1, [], [.func]⟩),
    (261, ⟨.prim, 1, [], [.func]⟩),
    (262, ⟨.prim, 1, [], [.func]⟩),
    (263, ⟨(.slice 244), 1, [], [.slice]⟩),
    (264, ⟨.prim, 1, [], [.func]⟩),
    (265, ⟨.prim, 1, [], [.func]⟩),
    (267, ⟨.struct, 5, [(0, 3), (1, 4), (2, 92), (3, 92), (4, 29)], [.int .i64, .bool, .slice, .slice, .int .i64]⟩),
    (269, ⟨.prim, 1, [], [.func]⟩),
    (274, ⟨.prim, 1, [], [.func]⟩),
    (275, ⟨.prim, 1, [], [.func]⟩),
    (276, ⟨.prim, 1, [], [.func]⟩),
    (278, ⟨.prim, 1, [], [.func]⟩),
    (279, ⟨.prim, 1, [], [.func]⟩),
    (280, ⟨.prim, 1, [], [.func]⟩),
    (281, ⟨.prim, 1, [], [.func]⟩),
    (282, ⟨.prim, 1, [], [.func]⟩),
    (283, ⟨.prim, 1, [], [.func]⟩),
    (284, ⟨.prim, 1, [], [.func]⟩),
    (285, ⟨.prim, 1, [], [.func]⟩),
    (287, ⟨.prim, 1, [], [.func]⟩),
    (288, ⟨.prim, 1, [], [.func]⟩),
    (289, ⟨.prim, 1, [], [.func]⟩),
    (290, ⟨.prim, 1, [], [.func]⟩),
    (291, ⟨.prim, 1, [], [.func]⟩),
    (292, ⟨.prim, 1, [], [.func]⟩),
    (293, ⟨.prim, 1, [], [.func]⟩),
    (294, ⟨.prim, 1, [], [.func]⟩),
    (295, ⟨.prim, 1, [], [.func]⟩),
    (296, ⟨.prim, 1, [], [.func]⟩),
    (297, ⟨.prim, 1, [], [.func]⟩),
    (298, ⟨.prim, 1, [], [.func]⟩),
    (299, ⟨.prim, 1, [], [.func]⟩),
    (300, ⟨.prim, 1, [], [.func]⟩),
    (301, ⟨.prim, 1, [], [.func]⟩),
    (302, ⟨.prim, 1, [], [.func]⟩),
    (303, ⟨.prim, 1, [], [.func]⟩),
    (304, ⟨.prim, 1, [], [.func]⟩),
    (305, ⟨.prim, 1, [], [.func]⟩),
    (306, ⟨.prim, 1, [], [.func]⟩),
    (307, ⟨.prim, 1, [], [.func]⟩),
    (308, ⟨.prim, 1, [], [.func]⟩),
    (309, ⟨.prim, 1, [], [.func]⟩),
    (310, ⟨.prim, 1, [], [.func]⟩),
    (311, ⟨.prim, 1, [], [.func]⟩),
    (312, ⟨.prim, 1, [], [.func]⟩),
    (313, ⟨.prim, 1, [], [.func]⟩),
    (314, ⟨.prim, 1, [], [.func]⟩),
    (315, ⟨.prim, 1, [], [.func]⟩),
    (316, ⟨.prim, 1, [], [.func]⟩),
    (317, ⟨.prim, 1, [], [.func]⟩),
    (318, ⟨(.map 3 4), 1, [], [.map]⟩),
    (319, ⟨.prim, 1, [], [.func]⟩),
    (321, ⟨.prim, 1, [], [.func]⟩),
    (322, ⟨.prim, 1, [], [.func]⟩),
    (323, ⟨.prim, 1, [], [.func]⟩),
    (324, ⟨.prim, 1, [], [.func]⟩),
    (325, ⟨.prim, 1, [], [.func]⟩),
    (326, ⟨.prim, 1, [], [.func]⟩),
    (328, ⟨.prim, 1, [], [.func]⟩),
    (329, ⟨(.slice 5), 1, [], [.slice]⟩),
    (331, ⟨.prim, 1, [], [.func]⟩),
    (332, ⟨.prim, 1, [], [.func]⟩),
    (333, ⟨.prim, 1, [], [.func]⟩),
    (334, ⟨.prim, 1, [], [.func]⟩),
    (335, ⟨.prim, 1, [], [.func]⟩),
    (338, ⟨.prim, 1, [], [.func]⟩),
    (341, ⟨.prim, 1, [], [.func]⟩),
    (347, ⟨.prim, 1, [], [.func]⟩),
    (348, ⟨(.int .u8), 1, [], [.int .u8]⟩),
    (349, ⟨(.int .u8), 1, [], [.int .u8]⟩),
    (350, ⟨.prim, 1, [], [.func]⟩),
    (352, ⟨(.int .i32), 1, [], [.int .i32]⟩),
    (353, ⟨(.int .i32), 1, [], [.int .i32]⟩),
    (124, ⟨.struct, 8, [(0, 9), (1, 3), (2, 94)], [.str, .int .i64, .int .i64, .int .i64, .str, .slice, .slice, .slice]⟩),
    (257, ⟨.struct, 6, [(0, 56)], [.int .i64, .int .i64, .int .i64, .slice, .slice, .slice]⟩),
    (266, ⟨(.ptr 268), 1, [], [.ptr]⟩),
    (268, ⟨.struct, 5, [(0, 3), (1, 4), (2, 92), (3, 92), (4, 29)], [.int .i64, .bool, .slice, .slice, .int .i64]⟩),
    (270, ⟨.struct, 2, [(0, 24), (1, 45)], [.slice, .slice]⟩),
    (271, ⟨.struct, 2, [(0, 24), (1, 45)], [.slice, .slice]⟩),
    (286, ⟨(.map 9 48), 1, [], [.map]⟩)]
  ok := by kernel_rfl
end Go.Sv
