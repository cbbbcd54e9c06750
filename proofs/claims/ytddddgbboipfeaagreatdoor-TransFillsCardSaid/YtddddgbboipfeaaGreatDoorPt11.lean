/- Part 11 of what TransFills asks: for every input it returns true, and its input reads as it did. No condition. -/
import Derived.Test.YtddddgbboipfeaaGreatDoorPt10
import Derived.Laws.Cover3
namespace Go.Sv
open Go Go.RowKit

/-- A slice without room behind it. -/
def slF (k : Nat) (ls : List (List D)) : D where
  is w v := (∃ a, v = .slice a ls.length ls.length) ∧ (sl k ls).is w v
  mono := by rintro w w' v hS ⟨h1, h2⟩; exact ⟨h1, (sl k ls).mono hS h2⟩
  one := by rintro w v ⟨_, h⟩; exact (sl k ls).one h
theorem slice_is {V : World} {a : Option Addr} {c l h m k : Nat} {ls : List (List D)} (hx : (sl k ls).is V (.slice a ls.length c)) (hlh : l ≤ h) (hh : h ≤ ls.length) (hhm : h ≤ m) (hmc : m ≤ c) : (sl k ((ls.take h).drop l)).is V (.slice (if m = l then a else a.map (·.add (l * k))) (h - l) (m - l)) := by
  obtain ⟨a', c', he, h1, h2, h3⟩ := hx
  cases he
  have hlen : ((ls.take h).drop l).length = h - l := by rw [List.length_drop, List.length_take, Nat.min_eq_left hh]
  refine ⟨_, _, by rw [hlen], by omega, by omega, fun j l' hj => ?_⟩
  have hjl := (List.getElem?_eq_some_iff.1 hj).1
  rw [hlen] at hjl
  rw [List.getElem?_drop, List.getElem?_take, if_pos (by omega)] at hj
  obtain ⟨h4, b, o, us, rfl, h5, h6⟩ := h3 (l + j) l' hj
  refine ⟨h4, b, o + l * k, us, ?_, ?_, h6⟩
  · rw [if_neg (by omega)]; simp [Addr.add_mid]
  · rw [show o + l * k + j * k = o + (l + j) * k by rw [Nat.add_mul]; omega]; exact h5
theorem bound_run {P : Program} {w : World} {i y : Nat} {code : BoundsCode} (h : i ≤ y) : (Instr.sliceBound (.int .i64 i) y code).run P w = .ok i w := by
  simp [Instr.sliceBound, asIntOf, h]
section
variable {P : Program} [Lays P] {ops : Array Oper} {n : Nat} {d : Option Tmp} {ty t : TypeId} {pos : String} {af : Array Edge} {x y z : Operand} {e k we : Nat} {fl : List (Nat × Nat)} {zs : List ZK} {ls : List (List D)} {le : Lay}
theorem OpT.clip (ht : lay P t = some ⟨.slice e, we, fl, zs⟩ := by rfl) (he : lay P e = some le := by rfl) (hk : le.size = k := by rfl) : OpT P ops (mkO d (.slice t x none (some y) (some z)) ty pos af) n [(x, dT (sl k ls)), (y, iT ls.length), (z, iT ls.length)] [] [] (dT (slF k ls)) [] n := .runD rfl fun β V w A _ h => by
  obtain ⟨h1, h2, h3⟩ := in3 h
  obtain ⟨a, c, e1, hc, hm, hl⟩ := id h1
  have e2 : A.eval y = .int .i64 ls.length := h2
  have e3 : A.eval z = .int .i64 ls.length := h3
  have h1' : (sl k ls).is V (.slice a ls.length c) := e1 ▸ h1
  have h4 := slice_is h1' (l := 0) (h := ls.length) (m := ls.length) (Nat.zero_le _) (Nat.le_refl _) (Nat.le_refl _) hc
  rw [List.take_length, List.drop_zero, Nat.sub_zero] at h4
  refine ⟨_, ?_, ⟨_, rfl⟩, h4⟩
  simp [execOp, e1, e2, e3, Instr.sliceAt, Instr.slice, Instr.sliceBounds, Sem.run_bind, run_underlying (lay_slice ht) w, lay_size he w, hk, bound_run, hc]
theorem OpT.from (i : Nat) (hi : i ≤ ls.length) (ht : lay P t = some ⟨.slice e, we, fl, zs⟩ := by rfl) (he : lay P e = some le := by rfl) (hk : le.size = k := by rfl) : OpT P ops (mkO d (.slice t x (some y) none none) ty pos af) n [(x, dT (sl k ls)), (y, iT i)] [] [] (dT (sl k (ls.drop i))) [] n := .runD rfl fun β V w A _ h => by
  obtain ⟨h1, h2⟩ := in2 h
  obtain ⟨a, c, e1, hc, hm, hl⟩ := id h1
  have e2 : A.eval y = .int .i64 i := h2
  have h1' : (sl k ls).is V (.slice a ls.length c) := e1 ▸ h1
  have h4 := slice_is h1' (l := i) (h := ls.length) (m := c) hi (Nat.le_refl _) hc (Nat.le_refl _)
  rw [List.take_length] at h4
  refine ⟨_, ?_, h4⟩
  simp [execOp, e1, e2, Instr.sliceAt, Instr.slice, Instr.sliceBounds, Sem.run_bind, run_underlying (lay_slice ht) w, lay_size he w, hk, bound_run, hi]
theorem OpT.upto (i : Nat) (hi : i ≤ ls.length) (ht : lay P t = some ⟨.slice e, we, fl, zs⟩ := by rfl) (he : lay P e = some le := by rfl) (hk : le.size = k := by rfl) : OpT P ops (mkO d (.slice t x none (some y) none) ty pos af) n [(x, dT (sl k ls)), (y, iT i)] [] [] (dT (sl k (ls.take i))) [] n := .runD rfl fun β V w A _ h => by
  obtain ⟨h1, h2⟩ := in2 h
  obtain ⟨a, c, e1, hc, hm, hl⟩ := id h1
  have e2 : A.eval y = .int .i64 i := h2
  have h1' : (sl k ls).is V (.slice a ls.length c) := e1 ▸ h1
  have h4 := slice_is h1' (l := 0) (h := i) (m := c) (Nat.zero_le _) hi (by omega) (Nat.le_refl _)
  rw [List.drop_zero] at h4
  refine ⟨_, ?_, h4⟩
  simp [execOp, e1, e2, Instr.sliceAt, Instr.slice, Instr.sliceBounds, Sem.run_bind, run_underlying (lay_slice ht) w, lay_size he w, hk, bound_run, show i ≤ c by omega]
end
/-- Is it nil? If so, it is empty. -/
def nilOf (ls : List (List D)) : D where
  is _ v := ∃ b, v = .bool b ∧ (b = true → ls = [])
  mono _ h := h
  one := by rintro w v ⟨b, rfl, _⟩; rfl
section
variable {P : Program} [Lays P] {ops : Array Oper} {n : Nat} {d : Option Tmp} {ty t : TypeId} {pos : String} {af : Array Edge} {x y z : Operand} {k e we : Nat} {fl : List (Nat × Nat)} {zs : List ZK} {ls : List (List D)}
theorem nil_run {w : World} {A : Act} {a : Option Addr} {l c : Nat} (t' : TypeId) (ht : lay P t = some ⟨.slice e, we, fl, zs⟩) (e1 : A.eval x = .slice a l c) (e2 : A.eval y = .slice none 0 0) : (execOp A.eval (mkO d (.binOp .eql t x y t') ty pos af)).run P w = .ok (.value (.bool a.isNone)) w := by
  simp [execOp, e1, e2, eqGuard, binOp, run_equal_slice_nil w t e a l c (lay_slice ht)]
theorem OpT.eqNil {t' : TypeId} {h1 : Value.oneCell' (.slice none 0 0) = true} (ht : lay P t = some ⟨.slice e, we, fl, zs⟩ := by rfl) : OpT P ops (mkO d (.binOp .eql t x y t') ty pos af) n [(x, dT (sl k ls)), (y, dT (lit (.slice none 0 0) h1))] [] [] (dT (nilOf ls)) [] n := .runD rfl fun β V w A _ h => by
  obtain ⟨⟨a, c, e1, h2, h3, h4⟩, e2⟩ := in2 h
  refine ⟨_, nil_run t' ht e1 e2, _, rfl, fun hb => ?_⟩
  cases ls with
  | nil => rfl
  | cons l ls =>
    obtain ⟨_, b, o, us, rfl, _⟩ := h4 0 l rfl
    cases hb
theorem OpT.eqNilO {κ q : Nat} {t' : TypeId} {h1 : Value.oneCell' (.slice none 0 0) = true} (ht : lay P t = some ⟨.slice e, we, fl, zs⟩ := by rfl) : OpT P ops (mkO d (.binOp .eql t x y t') ty pos af) n [(x, .one (.key κ)), (y, dT (lit (.slice none 0 0) h1))] [(κ, .row q k ls)] [] (dT (nilOf ls)) [] n :=
  ⟨Nat.le_refl n, fun β S w A K htin hb hO hK => by
    rw [if_pos (by simp [Region.wanted])]
    obtain ⟨_, _, hr⟩ := hO.is (κ, Own.row q k ls) (List.mem_cons_self ..)
    obtain ⟨hx, e2⟩ := in2 htin
    have h2 : A.eval x = β κ := hx.1
    have h3 : ∃ a c, A.eval x = .slice a ls.length c ∧ (a = none → ls = []) := by
      rw [h2]
      rcases hr.2 with ⟨h, rfl⟩ | ⟨g, c, _, _, h, _⟩
      · exact ⟨none, 0, h, fun _ => rfl⟩
      · exact ⟨_, _, h, nofun⟩
    obtain ⟨a, c, e1, h4⟩ := h3
    unfold Oper.wp
    rw [nil_run t' ht e1 e2]
    exact hK _ β w (Kept.refl _ _) (fun _ _ => rfl) (bel0 rfl) ⟨_, rfl, fun hb => h4 (by cases a <;> simp_all)⟩ hO.toOwns nofun⟩
end
theorem W.condNil {cx : Cx} {n : Nat} {F : FL} {H : HL} {Q : Exit → Act → World → Prop} {c : Operand} {x y : Code} {ls : List (List D)} (hc : opT F c = some (dT (nilOf ls))) (h1 : ls = [] → Wk cx n F H (x.wp cx.P Q)) (h2 : Wk cx n F H (y.wp cx.P Q)) : Wk cx n F H ((Code.cond c x y).wp cx.P Q) := fun β a w hh => by
  obtain ⟨b, hb, hn⟩ := opT_is hh hc
  refine wp_cond_split hb (fun he => h1 (hn he) β a w hh) fun _ => h2 β a w hh
end Go.Sv
