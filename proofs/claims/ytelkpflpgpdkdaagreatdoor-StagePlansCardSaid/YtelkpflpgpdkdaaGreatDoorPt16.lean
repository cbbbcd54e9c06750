/- Part 16 of what StageOrder and StagePlans ask: for every input each returns true, and its input reads as it did. No condition. -/
import Derived.Test.YtelkpflpgpdkdaaGreatDoorPt6
import Derived.Test.YtelkpflpgpdkdaaGreatDoorPt7
import Derived.Test.YtelkpflpgpdkdaaGreatDoorPt15
namespace Go.Proofs.YtelkpflpgpdkdaaGreatDoor
open Go.RowKit Go.Lib
/-- As graph.Path says. -/
noncomputable def pathE (r : Registry) (a b : Int) : List Hop × Int :=
  if regRight r = false then ([], 1) else if ¬ (0 ≤ a ∧ a < r.schemas.length) ∨ ¬ (0 ≤ b ∧ b < r.schemas.length) then ([], 3) else
  match (waysN r.schemas.length r.joins a).bind fun M => M b with
  | none => ([], 12)
  | some l => (l, 0)
end Go.Proofs.YtelkpflpgpdkdaaGreatDoor
namespace Go.Proofs.YtelkpflpgpdkdaaGreatDoor
open Go.RowKit Go.Lib
/-- What is asked of a registry whose joins are gone through. -/
structure RegG (r : Registry) : Prop where
  ok : RegOk r
  go : ∀ j ∈ r.joins, ∀ bk, Lens.fit (effs bk j.lens) ∧ Lens.wides (effs bk j.lens) ∧ Lens.size j.lens ≤ 400000
end Go.Proofs.YtelkpflpgpdkdaaGreatDoor
namespace Go.Proofs.YtelkpflpgpdkdaaGreatDoor
open Go.RowKit Go.Lib
theorem foldl_snoc {α β : Type} {f : β → α → β} {l : List α} {i : Nat} {x : α} {b : β} (h : l[i]? = some x) : (l.take (i + 1)).foldl f b = f ((l.take i).foldl f b) x := by
  rw [List.take_add_one, h, List.foldl_append]; rfl
end Go.Proofs.YtelkpflpgpdkdaaGreatDoor
namespace Go.Proofs.YtelkpflpgpdkdaaGreatDoor
open Go.RowKit Go.Lib
theorem typAt_eq {r : Registry} {k : Nat} {x : Named} (h : r.schemas[k]? = some x) : typAt r (k : Int) = x.typ := by unfold typAt; rw [Int.toNat_natCast, h]; rfl
theorem joinAt_eq {r : Registry} {i : Nat} {j : Join} (h : r.joins[i]? = some j) : joinAt r (i : Int) = j := by unfold joinAt; rw [Int.toNat_natCast, h]; rfl
end Go.Proofs.YtelkpflpgpdkdaaGreatDoor
namespace Go.Proofs.YtelkpflpgpdkdaaGreatDoor
open Go.RowKit Go.Lib
theorem over_next {T : Hop → State → State × Int} {come : Int} {h : Hop} {l : List Hop} {s : State} : overHops T come (h :: l) s = if h.join = come then overHops T come l s else if (T h s).2 ≠ 0 then (zeroS, (T h s).2) else overHops T come l (T h s).1 := rfl
end Go.Proofs.YtelkpflpgpdkdaaGreatDoor
namespace Go.Proofs.YtelkpflpgpdkdaaGreatDoor
open Go.RowKit Go.Lib
theorem mayE_zero {r : Registry} {k : Int} (h : mayE r k = 0) : regRight r = true ∧ 0 ≤ k ∧ k < r.schemas.length := by
  unfold mayE at h
  split at h
  · cases h
  · rename_i h1
    split at h
    · cases h
    · rename_i h2
      exact ⟨by simpa using h1, by omega⟩
end Go.Proofs.YtelkpflpgpdkdaaGreatDoor
namespace Go.Proofs.YtelkpflpgpdkdaaGreatDoor
open Go.RowKit Go.Lib
theorem StS.fit {s : State} (h : StS s) : s.fit := ⟨h.1.doc, by have := h.2; omega, h.1.res⟩
end Go.Proofs.YtelkpflpgpdkdaaGreatDoor
namespace Go.Proofs.YtelkpflpgpdkdaaGreatDoor
open Go.RowKit Go.Lib
noncomputable def walkT (r : Registry) : Int → List Hop → State → State × Int
  | _, [], s => (s, 0)
  | k, h :: l, s => if (hopS cvP r k h s).2 ≠ 0 then (zeroS, (hopS cvP r k h s).2) else walkT r (hopEnd (joinAt r h.join) h.back) l (hopS cvP r k h s).1
noncomputable def goT (r : Registry) (a b : Int) (s : State) : State × Int :=
  if (pathE r a b).2 ≠ 0 then (zeroS, (pathE r a b).2) else if fineE (typAt r a) s ≠ 0 ∧ (pathE r a b).1.length = 0 then (zeroS, fineE (typAt r a) s) else walkT r a (pathE r a b).1 s
theorem pathE_in {r : Registry} {a b : Int} (h : (pathE r a b).2 = 0) : regRight r = true ∧ 0 ≤ a ∧ a < r.schemas.length := by
  unfold pathE at h
  split at h
  · cases h
  · rename_i h1
    split at h
    · cases h
    · rename_i h2
      exact ⟨by simpa using h1, by omega⟩
end Go.Proofs.YtelkpflpgpdkdaaGreatDoor
namespace Go.Proofs.YtelkpflpgpdkdaaGreatDoor
open Go.RowKit Go.Lib
/-- What may be gone from a to b. -/
def WayOk (r : Registry) (a b : Int) : Prop := (∀ h ∈ (pathE r a b).1, ∃ (i : Nat) (j : Join), h.join = i ∧ r.joins[i]? = some j) ∧ (pathE r a b).1.length ≤ 1000000
theorem walkT_fit (r : Registry) : ∀ (l : List Hop) (k : Int) (s : State), StS s → StS (walkT r k l s).1
  | [], _, _, hs => hs
  | h :: l, k, s, hs => by
    have h1 := goS_fit cvP_ok (t := typAt r k) (l := (joinAt r h.join).lens) (ed := h.join) (bk := h.back) hs.1
    rw [walkT]
    split
    · exact stS_zero
    · exact walkT_fit r l _ _ h1
theorem goT_fit {r : Registry} {a b : Int} {s : State} (hs : StS s) : StS (goT r a b s).1 := by
  unfold goT
  split
  · exact stS_zero
  split
  · exact stS_zero
  · exact walkT_fit r _ _ _ hs
theorem fillS_fit {r : Registry} {k : Int} {s : State} (hs : StS s) : StS (fillS cvP r k s).1 := by
  unfold fillS
  split
  · exact stS_zero
  split
  · exact stS_zero
  · exact fillN_fit cvP_ok 13 k (-1) _ (fillN_fit cvP_ok 13 k (-1) _ hs)
end Go.Proofs.YtelkpflpgpdkdaaGreatDoor
namespace Go.Proofs.YtelkpflpgpdkdaaGreatDoor
open Go.RowKit Go.Lib
namespace Lens
theorem fits_append {l m : List Lens} (h1 : fits l) (h2 : fits m) : fits (l ++ m) := by
  induction l with
  | nil => exact h2
  | cons s l ih => exact ⟨h1.1, ih h1.2⟩
theorem wides_append {l m : List Lens} (h1 : wides l) (h2 : wides m) : wides (l ++ m) := by
  induction l with
  | nil => exact h2
  | cons s l ih => exact ⟨h1.1, ih h1.2⟩
mutual
theorem turn_fit1 : ∀ s : Lens, fit1 s → fit1 (turn s)
  | .mk k a b ty d sw subs, ⟨h1, h2, h3, h4⟩ => by
    have h := back_fits subs h4
    unfold turn
    repeat' split
    all_goals first
      | exact ⟨h1, h2, h3, h4⟩
      | exact ⟨h1, h2, h3, h⟩
theorem back_fits : ∀ l : List Lens, fits l → fits (back l)
  | [], _ => trivial
  | s :: l, ⟨h1, h2⟩ => fits_append (back_fits l h2) ⟨turn_fit1 s h1, trivial⟩
end
mutual
theorem turn_wide1 : ∀ s : Lens, wide1 s → wide1 (turn s)
  | .mk k a b ty d sw subs, ⟨h1, h4⟩ => by
    have h := back_wides subs h4
    unfold turn
    repeat' split
    all_goals first
      | exact ⟨h1, h4⟩
      | exact ⟨h1, h⟩
theorem back_wides : ∀ l : List Lens, wides l → wides (back l)
  | [], _ => trivial
  | s :: l, ⟨h1, h2⟩ => wides_append (back_wides l h2) ⟨turn_wide1 s h1, trivial⟩
end
end Lens
theorem few_regG {r : Registry} (h : fewReg r = true) (hw : ∀ j ∈ r.joins, Lens.wides j.lens) : RegG r := by
  obtain ⟨h1, h2, h3, h4⟩ := fewReg_fit h
  have hz : ∀ j ∈ r.joins, Lens.size j.lens ≤ 400000 := fun j hj => by
    simp only [fewReg, Bool.and_eq_true, decide_eq_true_eq] at h
    have h5 := List.all_eq_true.1 h.2.2 j hj
    have h6 : 0 ≤ fewL 13 j.lens := of_decide_eq_true h5
    have h7 := (fewL_size 13 j.lens h6).1
    have h8 := (fewL_le 13 j.lens).2
    omega
  refine ⟨⟨h3, fun j hj => ⟨h4 j hj, hw j hj⟩, by omega⟩, fun j hj bk => ⟨?_, ?_, hz j hj⟩⟩
  · cases bk with
    | false => exact h4 j hj
    | true => exact ⟨by rw [show effs true j.lens = Lens.back j.lens from rfl, back_size]; exact (h4 j hj).1, Lens.back_fits _ (h4 j hj).2⟩
  · cases bk with
    | false => exact hw j hj
    | true => exact Lens.back_wides _ (hw j hj)
end Go.Proofs.YtelkpflpgpdkdaaGreatDoor
namespace Go.Proofs.YtelkpflpgpdkdaaGreatDoor
open Go.RowKit Go.Lib
/-- What is told of a registry whose part is right. -/
def addR (r : Registry) (p : Registry × Int) : Registry × Int := if regRight r = false then (zeroR, 1) else p
end Go.Proofs.YtelkpflpgpdkdaaGreatDoor
namespace Go.Proofs.YtelkpflpgpdkdaaGreatDoor
open Go.RowKit Go.Lib
def tyB : Typ := .mk 5 0 0 [] [] []
def tyS : Typ := .mk 1 0 0 [] [] []
def tyT : Typ := .mk 1 0 0 [] [.mk ⟨#[99]⟩ false tyB] []
def docB (b : Bool) : Doc := .mk 5 (if b then 1 else 0) ⟨#[]⟩ [] []
def addC : Lens := .mk 2 ⟨#[99]⟩ ⟨#[]⟩ tyB (docB false) [] []
def regS : Registry := ⟨[⟨⟨#[115]⟩, tyS⟩], []⟩
def regTwo : Registry := ⟨[⟨⟨#[115]⟩, tyS⟩, ⟨⟨#[116]⟩, tyT⟩], [⟨0, 1, [addC]⟩]⟩
theorem two1 : regRight zeroR = true := by kernel_rfl
theorem two1' : addSE zeroR ⟨#[115]⟩ tyS = (regS, 0) := by kernel_rfl
theorem p1 : pathE regTwo 0 1 = ([⟨0, false⟩], 0) := by kernel_rfl
theorem p2 : pathE regTwo 1 0 = ([⟨0, true⟩], 0) := by kernel_rfl
theorem p3 : pathE regTwo 0 2 = ([], 3) := by kernel_rfl
def docE : Doc := .mk 1 0 ⟨#[]⟩ [] []
theorem f1 : fineE tyS ⟨docE, []⟩ = 0 := by kernel_rfl
theorem f2 : (Lens.target [addC] tyS).2 = 0 := by kernel_rfl
end Go.Proofs.YtelkpflpgpdkdaaGreatDoor
namespace Go.Proofs.YtelkpflpgpdkdaaGreatDoor
open Go.RowKit Go.Lib
theorem fit_S : tyS.fit := ⟨by decide, by simp [tyS, Typ.slim, Typ.slimFs, Typ.slims]⟩
theorem add_1 : addR zeroR (addSE zeroR ⟨#[115]⟩ tyS) = (regS, 0) := by unfold addR; rw [two1, two1']; rfl
end Go.Proofs.YtelkpflpgpdkdaaGreatDoor
namespace Go.Proofs.YtelkpflpgpdkdaaGreatDoor
open Go.Sv

def strsD (l : List Str) : D := sl 1 (l.map fun s => [str s])
def intsD (l : List Int) : D := sl 1 (l.map fun n => [i64 n])
mutual
def docC : Doc → List D
  | .mk k n s ks kids => [i64 k, i64 n, str s, strsD ks, sl 5 (docsC kids)]
def docsC : List Doc → List (List D)
  | [] => []
  | d :: l => docC d :: docsC l
end
def docF (d : Doc) : List D := [i64 d.kind, i64 d.num, str d.str, strsD d.keys, sl 5 (docsC d.kids)]
theorem docC_eq (d : Doc) : docC d = docF d := by cases d; simp only [docC, docF, Doc.kind, Doc.num, Doc.str, Doc.keys, Doc.kids]
instance rowDocs (l : List Doc) : Row (docsC l) Doc l docF := ⟨by
  induction l with
  | nil => simp only [docsC, List.map_nil]
  | cons d l ih => simp only [docsC, List.map_cons, docC_eq, ih]⟩
mutual
def typC : Typ → List D
  | .mk k a b ns fs of => [i64 k, i64 a, i64 b, strsD ns, sl 8 (fldsC fs), sl 6 (typsC of)]
def fldC : Fld → List D
  | .mk s o t => str s :: bl o :: typC t
def fldsC : List Fld → List (List D)
  | [] => []
  | f :: l => fldC f :: fldsC l
def typsC : List Typ → List (List D)
  | [] => []
  | t :: l => typC t :: typsC l
end
def typF (t : Typ) : List D := [i64 t.kind, i64 t.lo, i64 t.hi, strsD t.names, sl 8 (fldsC t.fields), sl 6 (typsC t.of)]
def fldF (f : Fld) : List D := str f.name :: bl f.opt :: typF f.typ
theorem typC_eq (t : Typ) : typC t = typF t := by cases t; simp only [typC, typF, Typ.kind, Typ.lo, Typ.hi, Typ.names, Typ.fields, Typ.of]
theorem fldC_eq (f : Fld) : fldC f = fldF f := by cases f; simp only [fldC, fldF, Fld.name, Fld.opt, Fld.typ, typC_eq]
instance rowTyps (l : List Typ) : Row (typsC l) Typ l typF := ⟨by
  induction l with
  | nil => simp only [typsC, List.map_nil]
  | cons d l ih => simp only [typsC, List.map_cons, typC_eq, ih]⟩
instance rowFlds (l : List Fld) : Row (fldsC l) Fld l fldF := ⟨by
  induction l with
  | nil => simp only [fldsC, List.map_nil]
  | cons d l ih => simp only [fldsC, List.map_cons, fldC_eq, ih]⟩
def swapF (p : Int × Int) : List D := [i64 p.1, i64 p.2]
mutual
def lensC : Lens → List D
  | .mk k a b t d ws l => i64 k :: str a :: str b :: (typF t ++ (docF d ++ [sl 2 (ws.map swapF), sl 16 (lensesC l)]))
def lensesC : List Lens → List (List D)
  | [] => []
  | s :: l => lensC s :: lensesC l
end
def lensF (s : Lens) : List D := i64 s.kind :: str s.a :: str s.b :: (typF s.typ ++ (docF s.doc ++ [sl 2 (s.swaps.map swapF), sl 16 (lensesC s.subs)]))
theorem lensC_eq (s : Lens) : lensC s = lensF s := by cases s; simp only [lensC, lensF, Lens.kind, Lens.a, Lens.b, Lens.typ, Lens.doc, Lens.swaps, Lens.subs]
instance rowLens (l : List Lens) : Row (lensesC l) Lens l lensF := ⟨by
  induction l with
  | nil => simp only [lensesC, List.map_nil]
  | cons d l ih => simp only [lensesC, List.map_cons, lensC_eq, ih]⟩
def resF (x : Res) : List D := i64 x.edge :: intsD x.step :: strsD x.at_ :: docF x.doc
def stateF (s : State) : List D := docF s.doc ++ [sl 8 (s.res.map resF)]
def namedF (x : Named) : List D := str x.name :: typF x.typ
def joinF (j : Join) : List D := [i64 j.from_, i64 j.to, sl 16 (lensesC j.lens)]
def regF (r : Registry) : List D := [sl 7 (r.schemas.map namedF), sl 3 (r.joins.map joinF)]
def hopF (h : Hop) : List D := [i64 h.join, bl h.back]
end Go.Proofs.YtelkpflpgpdkdaaGreatDoor
namespace Go.Sv
open Go Go.RowKit

section
variable {P : Program} {ops : Array Oper} {n : Nat} {d : Option Tmp} {ty t : TypeId} {pos : String} {af : Array Edge} {x y : Operand}
def cellsT : T → Option (List C)
  | .one c => some [c]
  | .ag cs => some cs
  | _ => none
theorem cells_of {β : Env} {V : World} {s : T} {cs : List C} (h : cellsT s = some cs) {v : Value} (hv : s.is β V v) : CellsC β V cs v.cells.toList := by
  cases s with
  | one c =>
    cases h
    have := C.one hv
    cases v <;> first | exact ⟨hv, trivial⟩ | cases this
  | ag l => cases h; obtain ⟨us, rfl, h2⟩ := hv; simpa [Value.cells] using h2
  | _ => cases h
theorem cells_keys {s : T} {cs : List C} (h : cellsT s = some cs) : s.keys = cs.flatMap C.keys := by
  cases s with
  | one c => cases h; simp [T.keys]
  | ag l => cases h; rfl
  | _ => cases h
/-- A new block of one's own. -/
theorem OpT.new {o : Oper} {tin : TL} {cs : List C} (hg : o.guard = none) (hk : (∀ e ∈ tin, Bel n e.2.keys) → Bel n (cs.flatMap C.keys))
    (h : ∀ (β : Env) (V w : World) (a : Act), Sub V w → (∀ e ∈ tin, e.2.is β V (a.eval e.1)) → ∃ us : List Value, (execOp a.eval o).run P w = .ok (.value (.pointer (some ⟨w.heap.size, 0, none⟩))) (w.alloc (.cells us.toArray t)) ∧ CellsC β V cs us) :
    OpT P ops o n tin [] [] (.one (.key n)) [(n, .box t cs)] (n + 1) :=
  ⟨Nat.le_succ n, fun β S w a K htin hb hO hK => by
    rw [if_pos (by simp [Region.wanted, hg])]
    obtain ⟨us, h1, h2⟩ := h β (hide S w) w a hide_shown htin
    unfold Oper.wp
    rw [h1]
    obtain ⟨β', hβ'⟩ : ∃ β' : Env, β' = fun κ => if κ = n then .pointer (some ⟨w.heap.size, 0, none⟩) else β κ := ⟨_, rfl⟩
    have hn : β' n = .pointer (some ⟨w.heap.size, 0, none⟩) := by rw [hβ']; exact if_pos rfl
    have hlt : ∀ κ, κ < n → β' κ = β κ := fun κ hκ => by rw [hβ']; exact if_neg (by omega)
    have hkept : Kept [] w (w.alloc (.cells us.toArray t)) := ⟨rfl, rfl, rfl, by simp, fun k hk _ => Below.heap_alloc _ _ _ hk⟩
    have hbl : blks β' ([] ++ [(n, Own.box t cs)]) = [w.heap.size] := by simp [blks, hn, blk]
    have hV : Sub (hide S w) (View β' ([] ++ [(n, Own.box t cs)]) S (w.alloc (.cells us.toArray t))) := by
      unfold View
      rw [hbl]
      exact hide_sub hkept fun k hk hns => ⟨by simp, fun hm => by
        rcases List.mem_cons.1 hm with h | h
        · omega
        · exact hns h⟩
    refine hK _ β' _ hkept hlt ?_ ⟨hn.symm, rfl⟩ ⟨fun e he => ?_, fun e he e' he' hne => ?_, fun b hm => ?_, fun b hb => ?_⟩ fun b hm => ?_
    · intro κ hκ
      rw [List.mem_singleton.1 hκ]
      exact Nat.lt_succ_self n
    · cases List.mem_singleton.1 he
      exact ⟨Nat.lt_succ_self n, Bel.up (Nat.le_succ n) (hk hb), w.heap.size, us, hn, heap_alloc_new w _, CellsC.keep (fun κ hκ => hlt κ (hk hb κ hκ)) hV h2⟩
    · cases List.mem_singleton.1 he
      cases List.mem_singleton.1 he'
      exact absurd rfl hne
    · rw [hbl, List.mem_singleton] at hm
      subst hm
      exact fun hS => Nat.lt_irrefl _ (hO.lt _ hS)
    · have := hO.lt b hb
      simp; omega
    · rw [show blks β' [(n, Own.box t cs)] = [w.heap.size] from hbl, List.mem_singleton] at hm
      subst hm
      exact .inr (Nat.le_refl _)⟩
theorem OpT.box {s : T} {cs : List C} (hs : cellsT s = some cs := by rfl) : OpT P ops (mkO d (.box t x) ty pos af) n [(x, s)] [] [] (.one (.key n)) [(n, .box t cs)] (n + 1) :=
  OpT.new rfl (fun h => cells_keys hs ▸ h _ (List.mem_singleton.2 rfl)) fun β V w A _ h => ⟨(A.eval x).cells.toList, by simp only [execOp, Instr.box, newVar, newRow, Sem.run_bind, run_newObj, Result.andThen_ok, Sem.run_pure, Array.toArray_toList]; rfl, cells_of hs (in1 h)⟩
theorem zero_cells {β : Env} {V : World} : ∀ zs : List ZK, CellsC β V (zs.map fun z => C.d (lit z.val z.one)) (zs.map ZK.val)
  | [] => trivial
  | _ :: l => ⟨rfl, zero_cells l⟩
def zeroC (zs : List ZK) : List C := zs.map fun z => C.d (lit z.val z.one)
theorem zeroC_keys (zs : List ZK) : (zeroC zs).flatMap C.keys = [] := by
  simp only [zeroC, List.flatMap_eq_nil_iff, List.mem_map]
  rintro _ ⟨z, _, rfl⟩; rfl
theorem OpT.alloc [Lays P] {k : Nat} {lk : LK} {fl : List (Nat × Nat)} {zs : List ZK} (ht : lay P t = some ⟨lk, k, fl, zs⟩ := by rfl) : OpT P ops (mkO d (.alloc t) ty pos af) n [] [] [] (.one (.key n)) [(n, .box t (zeroC zs))] (n + 1) :=
  OpT.new rfl (fun _ => bel0 (zeroC_keys zs)) fun β V w A _ h => by
    obtain ⟨z, h1, h2⟩ := lay_zero ht w
    refine ⟨zs.map ZK.val, ?_, zero_cells zs⟩
    have : z.cells = (zs.map ZK.val).toArray := by rw [← h2]
    simp only [execOp, Instr.alloc, newVar, newRow, Sem.run_bind, run_newObj, Result.andThen_ok, Sem.run_pure, h1, this]; rfl
/-- An address within what one owns. -/
def offC : C → Option (Nat × Nat)
  | .key κ => some (κ, 0)
  | .ptr κ o => some (κ, o)
  | _ => none
theorem off_is {β : Env} {V : World} {c : C} {κ o b : Nat} (h : offC c = some (κ, o)) {v : Value} (hb : β κ = .pointer (some ⟨b, 0, none⟩)) (hv : c.is β V v) : v = .pointer (some ⟨b, o, none⟩) := by
  cases c with
  | key κ' => cases h; exact hv.1.trans hb
  | ptr κ' o' =>
    cases h
    obtain ⟨b', o2, h1, rfl⟩ := hv
    rw [hb] at h1
    cases h1
    simp
  | _ => cases h
theorem off_keys {c : C} {κ o : Nat} (h : offC c = some (κ, o)) : c.keys = [κ] := by cases c <;> cases h <;> rfl
/-- What is read of one's own box. -/
theorem OpT.own {o : Oper} {tin : TL} {out : T} {κ : Nat} {t : TypeId} {cs : List C} (hg : o.guard = none) (hk : (∀ e ∈ tin, Bel n e.2.keys) → Bel n (cs.flatMap C.keys) → Bel n out.keys)
    (h : ∀ (β : Env) (V w : World) (a : Act) (b : Nat) (us : List Value), Sub V w → β κ = .pointer (some ⟨b, 0, none⟩) → w.heap[b]? = some (.cells us.toArray t (0, 0)) → CellsC β V cs us → (∀ e ∈ tin, e.2.is β V (a.eval e.1)) → ∃ v, (execOp a.eval o).run P w = .ok (.value v) w ∧ out.is β V v) :
    OpT P ops o n tin [(κ, .box t cs)] [] out [] n :=
  ⟨Nat.le_refl n, fun β S w a K htin hb hO hK => by
    rw [if_pos (by simp [Region.wanted, hg])]
    obtain ⟨_, h2, b, us, h3, h4, h5⟩ := hO.is (κ, Own.box t cs) (List.mem_cons_self ..)
    obtain ⟨v, h6, h7⟩ := h β _ w a b us hide_shown h3 h4 h5 htin
    unfold Oper.wp
    rw [h6]
    exact hK v β w (Kept.refl _ _) (fun _ _ => rfl) (hk hb h2) h7 hO.toOwns fun b hb => by cases hb⟩
theorem OpT.fieldO [Lays P] {k f off ft κ o : Nat} {fl : List (Nat × Nat)} {z : List ZK} {lf : Lay} {c : C} {t' : TypeId} {cs : List C} (hc : offC c = some (κ, o) := by rfl) (ht : lay P t = some ⟨.struct, k, fl, z⟩ := by rfl) (hf : fl[f]? = some (off, ft) := by rfl) (hl : lay P ft = some lf := by rfl) (hs : Nat.beq lf.size 0 = false := by rfl) :
    OpT P ops (mkO d (.fieldAddr t x f) ty pos af) n [(x, .one c)] [(κ, .box t' cs)] [] (.one (.ptr κ (o + off))) [] n := OpT.own rfl (fun h _ => by
      have := h _ (List.mem_singleton.2 rfl)
      rw [show T.keys (.one c) = c.keys from rfl, off_keys hc] at this
      exact this) fun β V w A b us _ hb _ _ h => by
  have e1 := off_is hc hb (in1 h)
  exact ⟨.pointer (some ⟨b, o + off, none⟩), by simp only [execOp, e1, Sem.run_bind, field_place ht hf hl hs b o w, Result.andThen_ok, Sem.run_pure], b, 0, by rw [hb]; rfl, by simp⟩
theorem mem_drop_take {cs : List C} {o k κ : Nat} (h : κ ∈ ((cs.drop o).take k).flatMap C.keys) : κ ∈ cs.flatMap C.keys := by
  obtain ⟨c, h1, h2⟩ := List.mem_flatMap.1 h
  exact List.mem_flatMap.2 ⟨c, List.mem_of_mem_drop (List.mem_of_mem_take h1), h2⟩
theorem OpT.loadO [Lays P] {k κ o : Nat} {lk : LK} {fl : List (Nat × Nat)} {z : List ZK} {c : C} {t' : TypeId} {cs cs' : List C} (hc : offC c = some (κ, o) := by rfl) (ht : lay P t = some ⟨lk, k, fl, z⟩ := by rfl) (ha : lk.agg = true := by rfl) (hcs : (cs.drop o).take k = cs' := by rfl) (hk : cs'.length = k := by rfl) :
    OpT P ops (mkO d (.load t x) ty pos af) n [(x, .one c)] [(κ, .box t' cs)] [] (.ag cs') [] n := by
  subst hcs
  refine OpT.own rfl (fun _ h κ hκ => h κ (mem_drop_take hκ)) fun β V w A b us hS hb hw hu h => ?_
  have e1 := off_is hc hb (in1 h)
  have hsh := lay_shp ht
  rw [ha] at hsh
  have hu2 : CellsC β V ((cs.drop o).take k) ((us.drop o).take k) := All2.take k (All2.drop o hu)
  have hl : Lie w b o ((us.drop o).take k) := by
    have := ((lie_all hw).drop o).take k
    rwa [Nat.zero_add] at this
  exact ⟨_, by simp only [execOp, e1, Instr.loadAt, Instr.sureAddr, Sem.run_bind, Sem.run_pure, Result.andThen_ok, load_many hsh hl (hu2.len.symm.trans hk)], _, rfl, hu2⟩
theorem OpT.loadO1 [Lays P] {k κ o : Nat} {lk : LK} {fl : List (Nat × Nat)} {z : List ZK} {c c' : C} {t' : TypeId} {cs : List C} (hc : offC c = some (κ, o) := by rfl) (ht : lay P t = some ⟨lk, k, fl, z⟩ := by rfl) (ha : lk.agg = false := by rfl) (hcs : cs[o]? = some c' := by rfl) :
    OpT P ops (mkO d (.load t x) ty pos af) n [(x, .one c)] [(κ, .box t' cs)] [] (.one c') [] n := by
  refine OpT.own rfl (fun _ h κ hκ => h κ (List.mem_flatMap.2 ⟨c', List.mem_of_getElem? hcs, hκ⟩)) fun β V w A b us hS hb hw hu h => ?_
  have e1 := off_is hc hb (in1 h)
  have hsh := lay_shp ht
  rw [ha] at hsh
  obtain ⟨u, h4, h5⟩ := All2.get hu hcs
  have : w.cell? ⟨b, o, none⟩ = some u := by have := lie_all hw o u h4; rwa [Nat.zero_add] at this
  exact ⟨u, by simp only [execOp, e1, Instr.loadAt, Instr.sureAddr, Sem.run_bind, Sem.run_pure, Result.andThen_ok, load_one hsh this], h5⟩
/-- Cells put in the place of others. -/
def splice {α : Type} : List α → Nat → List α → List α
  | l, 0, [] => l
  | _ :: l, 0, y :: m => y :: splice l 0 m
  | a :: l, o + 1, m => a :: splice l o m
  | [], _, _ => []
theorem splice_all2 {α β : Type} {R : α → β → Prop} : ∀ {l : List α} {m : List β} {o : Nat} {a : List α} {b : List β}, All2 R l m → All2 R a b → All2 R (splice l o a) (splice m o b)
  | l, m, 0, [], [], h, _ => by cases l <;> cases m <;> exact h
  | [], [], 0, _ :: _, _ :: _, _, _ => trivial
  | [], [], _ + 1, _, _, _, _ => trivial
  | _ :: _, _ :: _, 0, _ :: _, _ :: _, h, k => ⟨k.1, splice_all2 (o := 0) h.2 k.2⟩
  | _ :: _, _ :: _, o + 1, _, _, h, k => ⟨h.1, splice_all2 (o := o) h.2 k⟩
  | [], _ :: _, _, _, _, h, _ => h.elim
  | _ :: _, [], _, _, _, h, _ => h.elim
  | _, _, 0, [], _ :: _, _, h => h.elim
  | _, _, 0, _ :: _, [], _, h => h.elim
theorem splice_mem {α : Type} : ∀ {l : List α} {o : Nat} {a : List α} {x : α}, x ∈ splice l o a → x ∈ l ∨ x ∈ a
  | [], 0, [], _, h => by cases h
  | [], 0, _ :: _, _, h => by cases h
  | [], _ + 1, _, _, h => by cases h
  | _ :: _, 0, [], _, h => .inl h
  | _ :: l, 0, _ :: a, _, h => by
    rcases List.mem_cons.1 h with rfl | h
    · exact .inr (List.mem_cons_self ..)
    · exact (splice_mem (o := 0) h).imp (List.mem_cons_of_mem _) (List.mem_cons_of_mem _)
  | _ :: l, o + 1, a, _, h => by
    rcases List.mem_cons.1 h with rfl | h
    · exact .inl (List.mem_cons_self ..)
    · exact (splice_mem (o := o) h).imp (List.mem_cons_of_mem _) id
theorem splice_get {α : Type} : ∀ {l : List α} {o : Nat} {a : List α} {i : Nat}, (splice l o a)[i]? = if o ≤ i ∧ i < o + a.length ∧ i < l.length then a[i - o]? else l[i]?
  | [], 0, [], i => by simp [splice]
  | [], 0, _ :: _, i => by simp [splice]
  | [], _ + 1, _, i => by simp [splice]
  | x :: l, 0, [], i => by simp [splice]
  | x :: l, 0, y :: a, 0 => by simp [splice]
  | x :: l, 0, y :: a, i + 1 => by
    have := splice_get (l := l) (o := 0) (a := a) (i := i)
    simp only [splice, List.getElem?_cons_succ, this, List.length_cons, Nat.zero_le, true_and, Nat.zero_add, Nat.sub_zero]
    by_cases h : i < a.length ∧ i < l.length
    · rw [if_pos h, if_pos (by omega)]
    · rw [if_neg h, if_neg (by omega)]
  | x :: l, o + 1, a, 0 => by simp [splice]
  | x :: l, o + 1, a, i + 1 => by
    have := splice_get (l := l) (o := o) (a := a) (i := i)
    simp only [splice, List.getElem?_cons_succ, this, List.length_cons, Nat.add_sub_add_right]
    by_cases h : o ≤ i ∧ i < o + a.length ∧ i < l.length
    · rw [if_pos h, if_pos (by omega)]
    · rw [if_neg h, if_neg (by omega)]
def setAll : Array Value → Nat → List Value → Array Value
  | cs, _, [] => cs
  | cs, o, v :: vs => setAll (cs.setIfInBounds o v) (o + 1) vs
theorem setCells_kept (g : Nat) : ∀ (vs : List Value) (o : Nat) (w : World), Kept [g] w (w.setCells g o vs)
  | [], _, w => Kept.refl _ w
  | v :: vs, o, w => by
    unfold World.setCells
    exact Kept.trans (X := [g]) (Y := [g]) (b := w.setCell ⟨g, o, none⟩ v) ⟨rfl, rfl, rfl, by simp [World.setCell], fun k _ hn => Below.heap_setCell w ⟨g, o, none⟩ v k (by simpa using hn)⟩ (setCells_kept g vs _ _) (fun _ h => h) fun _ h => .inl h
theorem heap_setCells {g : Nat} {t : TypeId} : ∀ (vs : List Value) (o : Nat) {w : World} {cs : Array Value}, w.heap[g]? = some (.cells cs t (0, 0)) → (w.setCells g o vs).heap[g]? = some (.cells (setAll cs o vs) t (0, 0))
  | [], _, _, _, h => h
  | v :: vs, o, w, cs, h => by
    unfold World.setCells setAll
    refine heap_setCells vs (o + 1) ?_
    simp only [World.setCell, Array.getElem?_modify, if_true, h, Option.map_some, Option.isSome, Bool.false_eq_true, if_false]
theorem setCells_size {g : Nat} : ∀ (vs : List Value) (o : Nat) (w : World), (w.setCells g o vs).heap.size = w.heap.size
  | [], _, _ => rfl
  | v :: vs, o, w => by
    unfold World.setCells
    rw [setCells_size vs]
    simp [World.setCell]
theorem setAll_get : ∀ (vs : List Value) (cs : Array Value) (o i : Nat), (setAll cs o vs)[i]? = if o ≤ i ∧ i < o + vs.length ∧ i < cs.size then vs[i - o]? else cs[i]?
  | [], cs, o, i => by
    unfold setAll
    rw [if_neg (by simp only [List.length_nil]; omega)]
  | v :: vs, cs, o, i => by
    unfold setAll
    rw [setAll_get vs _ (o + 1) i, Array.size_setIfInBounds, Array.getElem?_setIfInBounds]
    simp only [List.length_cons]
    by_cases h1 : o = i
    · subst h1
      rw [if_neg (by omega), if_pos rfl]
      by_cases h2 : o < cs.size
      · rw [if_pos h2, if_pos (by omega), Nat.sub_self]; rfl
      · rw [if_neg h2, if_neg (by omega), Array.getElem?_eq_none (by omega)]
    · rw [if_neg h1]
      by_cases h2 : o + 1 ≤ i ∧ i < o + 1 + vs.length ∧ i < cs.size
      · rw [if_pos h2, if_pos (by omega), show i - o = (i - (o + 1)) + 1 by omega, List.getElem?_cons_succ]
      · rw [if_neg h2, if_neg (by omega)]
theorem set_splice (vs us : List Value) (o : Nat) : setAll us.toArray o vs = (splice us o vs).toArray := by
  refine Array.ext_getElem? fun i => ?_
  rw [setAll_get]
  simp only [List.getElem?_toArray, splice_get, List.size_toArray]
/-- A struct, or a cell, is written into one's own box. -/
theorem OpT.store [Lays P] {k κ o : Nat} {lk : LK} {fl : List (Nat × Nat)} {z : List ZK} {c : C} {s : T} {t' : TypeId} {cs xs cs' : List C} (hs : cellsT s = some xs := by rfl) (hc : offC c = some (κ, o) := by rfl) (ht : lay P t = some ⟨lk, k, fl, z⟩ := by rfl) (hcs : splice cs o xs = cs' := by rfl) (hk : xs.length = k := by rfl) (hle : Nat.ble (o + k) cs.length = true := by rfl) :
    OpT P ops (mkO none (.store t x y) ty pos af) n [(x, .one c), (y, s)] [] [(κ, .box t' cs)] .any [(κ, .box t' cs')] n := by
  subst hcs
  refine ⟨Nat.le_refl n, fun β S w A K htin hb hO hK => ?_⟩
  rw [if_pos (by simp [Region.wanted])]
  obtain ⟨h1, h2, b, us, h3, h4, h5⟩ := hO.is (κ, Own.box t' cs) (List.mem_cons_self ..)
  obtain ⟨hx, hy⟩ := in2 htin
  have e1 : A.eval x = .pointer (some ⟨b, o, none⟩) := off_is hc h3 hx
  have hv := cells_of hs hy
  have hle' : o + k ≤ us.length := by rw [← h5.len]; exact Nat.le_of_ble_eq_true hle
  have hvl : (A.eval y).cells.size = k := by have := hv.len; simp at this; omega
  have hth : w.there b o (A.eval y).cells.size := fun j hj => ⟨by
    rw [cell_of_row _ _ _ _ _ _ h4]
    simp; omega, by simp [World.frozen?, h4]⟩
  obtain ⟨dd, i, zz, hd, hi, hsz, _⟩ := lay_all ht
  have hrun : (storeVar t ⟨b, o, none⟩ (A.eval y)).run P w = .ok () (w.setCells b o (A.eval y).cells.toList) := by
    have h6 := run_storeCells_cells (P := P) b o (A.eval y).cells.toList 0 w (fun j hj => by simpa using (hth j (by simpa using hj)).1) (fun j hj => by simpa using (hth j (by simpa using hj)).2) (fun v hv' => CellsC.one hv v hv')
    have h7 : (sizeOf t).run P w = .ok (A.eval y).cells.size w := by rw [lay_size ht w, hvl]
    simp only [storeVar, Sem.run_bind, h7, Result.andThen_ok, ne_eq, not_true_eq_false, if_false]
    simpa [Sem.run_ite] using h6
  unfold Oper.wp
  have he : (execOp A.eval (mkO none (.store t x y) ty pos af)).run P w = .ok .skip (w.setCells b o (A.eval y).cells.toList) := by
    simp only [execOp, e1, Instr.storeAt, Instr.sureAddr, Sem.run_bind, Sem.run_pure, Result.andThen_ok, hrun]
  rw [he]
  have hbl : blks β ([] ++ [(κ, Own.box t' cs)]) = [b] := by simp [blks, h3, blk]
  have hbl' : blks β ([] ++ [(κ, Own.box t' (splice cs o xs))]) = [b] := by simp [blks, h3, blk]
  have hkept : Kept [b] w (w.setCells b o (A.eval y).cells.toList) := setCells_kept b _ o w
  have hbw : blks β [(κ, Own.box t' cs)] = [b] := hbl
  have hV : Sub (View β ([] ++ [(κ, Own.box t' cs)]) S w) (View β ([] ++ [(κ, Own.box t' (splice cs o xs))]) S (w.setCells b o (A.eval y).cells.toList)) := by
    unfold View
    rw [hbl, hbl']
    exact hide_sub hkept fun k _ hn => ⟨fun hm => hn (List.mem_append_left _ hm), hn⟩
  refine hK undef β _ (hbw ▸ hkept) (fun _ _ => rfl) (bel0 rfl) trivial ⟨fun e he => ?_, fun e he e' he' hne => ?_, fun k hm => ?_, fun k hk => ?_⟩ fun k hm => ?_
  · cases List.mem_singleton.1 he
    refine ⟨h1, fun q hq => ?_, b, splice us o (A.eval y).cells.toList, h3, ?_, splice_all2 (CellsC.keep (fun _ _ => rfl) hV h5) (CellsC.keep (fun _ _ => rfl) hV hv)⟩
    · obtain ⟨c', hc1, hc2⟩ := List.mem_flatMap.1 hq
      rcases splice_mem hc1 with hm | hm
      · exact h2 q (List.mem_flatMap.2 ⟨c', hm, hc2⟩)
      · exact hb _ (List.mem_cons_of_mem _ (List.mem_singleton.2 rfl)) q (cells_keys hs ▸ List.mem_flatMap.2 ⟨c', hm, hc2⟩)
    · rw [heap_setCells _ _ h4, set_splice]
  · cases List.mem_singleton.1 he
    cases List.mem_singleton.1 he'
    exact absurd rfl hne
  · rw [hbl'] at hm
    exact hO.out k (hbl ▸ hm)
  · rw [setCells_size]; exact hO.lt k hk
  · left
    rw [hbw]
    rwa [show blks β [(κ, Own.box t' (splice cs o xs))] = [b] from hbl'] at hm
end
end Go.Sv
