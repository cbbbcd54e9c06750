/- Part 7 of what StageOrder and StagePlans ask: for every input each returns true, and its input reads as it did. No condition. -/
import Derived.Test.YtelkpflpgpdkdaaGreatDoorPt6
namespace Go.Sv
open Go Go.RowKit

class Row (ls : List (List D)) (α : outParam Type) (xs : outParam (List α)) (f : outParam (α → List D)) : Prop where
  eq : ls = xs.map f
instance rowMap {α : Type} (f : α → List D) (xs : List α) : Row (xs.map f) α xs f := ⟨rfl⟩
/-- What the operands are. -/
def Tin (F : FL) : TL → Prop
  | [] => True
  | e :: l => opT F e.1 = some e.2 ∧ Tin F l
theorem Tin.all {F : FL} : ∀ {l : TL}, Tin F l → ∀ e ∈ l, Tell F e.1 e.2
  | [], _, _, h => by cases h
  | e :: l, h, f, hf => by
    rcases List.mem_cons.1 hf with rfl | hf
    · exact h.1
    · exact Tin.all h.2 f hf
theorem upd_nil (H : HL) : upd H [] [] = H := by simp [upd, keys]
section
variable {P : Program} {ops : Array Oper} {n : Nat} {d : Tmp} {op : Op} {ty : TypeId} {pos : String} {af : Array Edge} {F : FL} {H : HL} {acc : List Acc} {l : List Oper} {tin : TL} {out : T} {Fin : Nat → FL → HL → List Acc → Prop} {x y : Operand}
theorem Ch.p (h : OpT P ops (mkO (some d) op ty pos af) n tin [] [] out [] n) (hF : Tin F tin) (r : Ch P ops Fin l n ((d, out) :: F) H (acc ++ [Rec.acc ⟨tin, [], [], out, [], n, n⟩ (some d)])) : Ch P ops Fin (mkO (some d) op ty pos af :: l) n F H acc :=
  .step tin [] [] out [] n h hF.all (fun _ h => by cases h) H (fun _ => by rw [upd_nil]) r
theorem Ch.q (h : OpT P ops (mkO none op ty pos af) n tin [] [] out [] n) (hF : Tin F tin) (r : Ch P ops Fin l n F H (acc ++ [Rec.acc ⟨tin, [], [], out, [], n, n⟩ none])) : Ch P ops Fin (mkO none op ty pos af :: l) n F H acc :=
  .step tin [] [] out [] n h hF.all (fun _ h => by cases h) H (fun _ => by rw [upd_nil]) r
/-- A call. -/
theorem Ch.c {f : FuncId} {xs : List Operand} {ts : List T} {tys : Array TypeId} (hc : ∀ n, Con P f ts [] n out [] n) (hl : xs.length = ts.length := by rfl) (hF : Tin F (xs.zip ts) := by first | exact ⟨rfl, trivial⟩ | exact ⟨rfl, rfl, trivial⟩ | exact ⟨rfl, rfl, rfl, trivial⟩ | exact ⟨rfl, rfl, rfl, rfl, trivial⟩ | exact ⟨rfl, rfl, rfl, rfl, rfl, trivial⟩ | exact trivial)
    (r : Ch P ops Fin l n ((d, out) :: F) H (acc ++ [Rec.acc ⟨xs.zip ts, [], [], out, [], n, n⟩ (some d)])) : Ch P ops Fin (mkO (some d) (.call ⟨.value (.func f), xs.toArray, tys⟩) ty pos af :: l) n F H acc := .p (.call hc hl) hF r
variable {cx : Cx} {Q : Exit → Act → World → Prop} {K : Act → World → Prop}
theorem Ch.endP (h : Wk cx n F H (Q .normal)) : Ch P ops (fun n F H _ => Wk cx n F H (Q .normal)) [] n F H acc := .done h
theorem Ch.endD {n0 : Nat} (hs : sched ops n0 acc = true) (h : Wk cx n F H (Q .normal)) : Ch P ops (fun n' F' H' acc => sched ops n0 acc = true ∧ Wk cx n' F' H' (Q .normal)) [] n F H acc := .done ⟨hs, h⟩
theorem W.thenN (h : Wk cx n F H K) : Wk cx n F H (Exit.then K Q .normal) := h
theorem W.thenR (h : Wk cx n F H (Q .ret)) : Wk cx n F H (Exit.then K Q .ret) := h
theorem W.thenX {i : Nat} (h : Wk cx n F H (Q (.exit i))) : Wk cx n F H (Exit.then K Q (.exit i)) := h
theorem W.inN {i : Nat} (h : Wk cx n F H (Q .normal)) : Wk cx n F H (Exit.inBlock i Q .normal) := h
theorem W.inR {i : Nat} (h : Wk cx n F H (Q .ret)) : Wk cx n F H (Exit.inBlock i Q .ret) := h
theorem W.condDT {c : Operand} {u v : Code} {p : Prop} [Decidable p] (hc : opT F c = some (bT (decide p))) (hp : p) (h : Wk cx n F H (u.wp cx.P Q)) : Wk cx n F H ((Code.cond c u v).wp cx.P Q) := W.cond hc (fun _ => h) fun hf => by simp [hp] at hf
theorem W.condDF {c : Operand} {u v : Code} {p : Prop} [Decidable p] (hc : opT F c = some (bT (decide p))) (hp : ¬ p) (h : Wk cx n F H (v.wp cx.P Q)) : Wk cx n F H ((Code.cond c u v).wp cx.P Q) := W.cond hc (fun hf => by simp [hp] at hf) fun _ => h
theorem W.condBT {c : Operand} {u v : Code} {b : Bool} (hc : opT F c = some (bT b)) (hb : b = true) (h : Wk cx n F H (u.wp cx.P Q)) : Wk cx n F H ((Code.cond c u v).wp cx.P Q) := W.cond hc (fun _ => h) fun hf => by rw [hb] at hf; cases hf
theorem W.condBF {c : Operand} {u v : Code} {b : Bool} (hc : opT F c = some (bT b)) (hb : b = false) (h : Wk cx n F H (v.wp cx.P Q)) : Wk cx n F H ((Code.cond c u v).wp cx.P Q) := W.cond hc (fun hf => by rw [hb] at hf; cases hf) fun _ => h
variable [Lays P]
theorem OpT.lenR {d : Option Tmp} {t e w' k : Nat} {fl : List (Nat × Nat)} {z : List ZK} {α : Type} {xs : List α} {f : α → List D} {ls : List (List D)} [hr : Row ls α xs f] (ht : lay P t = some ⟨.slice e, w', fl, z⟩ := by rfl) : OpT P ops (mkO d (.call ⟨.builtin .len, #[x], #[t]⟩) ty pos af) n [(x, dT (sl k ls))] [] [] (iT xs.length) [] n := by
  have : (xs.length : Int) = ls.length := by rw [hr.eq, List.length_map]
  rw [this]
  exact .lenL ht
theorem OpT.indexR {d : Option Tmp} {t e w' k j : Nat} {fl : List (Nat × Nat)} {z : List ZK} {le : Lay} {α : Type} {xs : List α} {f : α → List D} {ls : List (List D)} [hr : Row ls α xs f] {v : α} {i : Int} {ki : IntKind} (hij : i = (j : Int) := by rfl) (hj : xs[j]? = some v := by assumption) (ht : lay P t = some ⟨.slice e, w', fl, z⟩ := by rfl) (hl : lay P e = some le := by rfl) (hk : le.size = k := by rfl) :
    OpT P ops (mkO d (.indexAddr t x y) ty pos af) n [(x, dT (sl k ls)), (y, dT (lit (.int ki i)))] [] [] (dT (adr (f v))) [] n := .indexA hij (by rw [hr.eq, List.getElem?_map, hj]; rfl) ht hl hk
end
structure Wr (p : Prop) : Prop where
  out : p
end Go.Sv
