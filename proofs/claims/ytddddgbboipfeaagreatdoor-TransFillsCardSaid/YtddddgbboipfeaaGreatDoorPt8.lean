/- Part 8 of what TransFills asks: for every input it returns true, and its input reads as it did. No condition. -/
import Derived.Test.YtddddgbboipfeaaGreatDoorPt7
namespace Go.Sv
open Go Go.RowKit

/-- All of it is in F. -/
inductive SubF (F : FL) : FL → Prop
  | nil : SubF F []
  | cons {t : Nat} {s : T} {l : FL} (h : look F t = some s) (r : SubF F l) : SubF F ((t, s) :: l)
inductive SubH (H : HL) : HL → Prop
  | nil : SubH H []
  | cons {κ : Nat} {o : Own} {l : HL} (h : look H κ = some o) (r : SubH H l) : SubH H ((κ, o) :: l)
theorem SubF.look {F l : FL} (h : SubF F l) : ∀ t s, look l t = some s → look F t = some s := by
  induction h with
  | nil => intro t s h; cases h
  | @cons t' s' l h r ih =>
    intro t s hs
    rw [look_cons] at hs
    split at hs
    · rename_i he; simp only at he; subst he; exact h.trans hs
    · exact ih t s hs
theorem SubH.mem {H l : HL} (h : SubH H l) : ∀ e ∈ l, e ∈ H := by
  induction h with
  | nil => exact nofun
  | cons h r ih =>
    intro e he
    rcases List.mem_cons.1 he with rfl | he
    · exact look_mem h
    · exact ih e he
def belF (n : Nat) (F : FL) : Prop := ∀ e ∈ F, Bel n e.2.keys
def belH (n : Nat) (H : HL) : Prop := ∀ e ∈ H, e.1 < n ∧ Bel n e.2.keys
theorem Hold.weak {cx : Cx} {β : Env} {n n' : Nat} {F F' : FL} {H H' : HL} {a : Act} {w : World} (h : Hold cx β n F H a w) (hn : cx.n0 ≤ n') (hF : SubF F F') (hH : SubH H H') (hb : belF n' F') (hb' : belH n' H') : Hold cx β n' F' H' a w := by
  have hbl : ∀ b ∈ blks β H', b ∈ blks β H := fun b hb => by
    obtain ⟨e, he, hb⟩ := mem_blks.1 hb
    exact mem_blks.2 ⟨_, hH.mem e he, hb⟩
  have hV : Sub (View β H cx.S w) (View β H' cx.S w) := hide_sub (Kept.refl [] w) fun k _ hk => ⟨by simp, fun hm => hk ((List.mem_append.1 hm).elim (fun h => List.mem_append_left _ (hbl k h)) (List.mem_append_right _))⟩
  refine ⟨h.size, h.defers, hn, h.env, h.kept, fun t s hs => ⟨hb _ (look_mem hs), T.keep (fun _ _ => rfl) hV (h.tm t s (hF.look t s hs)).2⟩, ⟨fun e he => ?_, fun e he e' he' => h.ow.apart e (hH.mem e he) e' (hH.mem e' he'), fun b hm => h.ow.out b (hbl b hm), h.ow.lt⟩, fun b hm => h.own b (hbl b hm), h.gl⟩
  exact ⟨(hb' e he).1, (hb' e he).2, Own.keep (fun _ _ => rfl) hV (fun _ _ _ h => h) (h.ow.is e (hH.mem e he)).2.2⟩
/-- One round more is owed, from a smaller measure on. -/
def Rnd {α : Type} (cx : Cx) (n : Nat) (p : α → Prop) (dF : α → FL) (Fk : FL) (dH : α → HL) (Hk : HL) (μ : α → Nat) (a : α) : Act → World → Prop := fun A w => ∃ a', p a' ∧ μ a' < μ a ∧ ∃ β, Hold cx β n (dF a' ++ Fk) (dH a' ++ Hk) A w
section
variable {cx : Cx} {n n' : Nat} {F : FL} {H : HL} {Q : Exit → Act → World → Prop} {α : Type} {c : Code}
theorem W.loopG (p : α → Prop) (dF : α → FL) (Fk : FL) (dH : α → HL) (Hk : HL) (μ : α → Nat) (a0 : α) (hp : p a0) (hF : SubF F (dF a0 ++ Fk)) (hH : SubH H (dH a0 ++ Hk)) (h0 : cx.n0 ≤ n') (hb : ∀ a, belF n' (dF a ++ Fk)) (hb' : ∀ a, belH n' (dH a ++ Hk))
    (round : ∀ a, p a → Wk cx n' (dF a ++ Fk) (dH a ++ Hk) (c.wp cx.P (Exit.then (Rnd cx n' p dF Fk dH Hk μ a) Q))) : Wk cx n F H ((Code.loop c).wp cx.P Q) :=
  W.loop (σ := {a // p a}) (fun a => (n', dF a.1 ++ Fk, dH a.1 ++ Hk)) (fun a => μ a.1) ⟨a0, hp⟩ (fun β _ _ h => ⟨β, h.weak h0 hF hH (hb a0) (hb' a0)⟩) fun a β A w h =>
    wp_mono (round a.1 a.2 β A w h) fun e A' w' hq => by
      cases e with
      | normal => obtain ⟨a', h1, h2, h3⟩ := hq; exact ⟨⟨a', h1⟩, h2, h3⟩
      | _ => exact hq
theorem W.again {p : α → Prop} {dF : α → FL} {Fk : FL} {dH : α → HL} {Hk : HL} {μ : α → Nat} {a : α} (a' : α) (hp : p a') (hμ : μ a' < μ a) (hF : SubF F (dF a' ++ Fk)) (hH : SubH H (dH a' ++ Hk)) (h0 : cx.n0 ≤ n') (hb : belF n' (dF a' ++ Fk)) (hb' : belH n' (dH a' ++ Hk)) : Wk cx n F H (Rnd cx n' p dF Fk dH Hk μ a) :=
  fun β _ _ h => ⟨a', hp, hμ, β, h.weak h0 hF hH hb hb'⟩
end
theorem belF_nil {n : Nat} : belF n [] := nofun
theorem belF_cons {n t : Nat} {s : T} {l : FL} (h : Bel n s.keys) (k : belF n l) : belF n ((t, s) :: l) := fun e he => by
  rcases List.mem_cons.1 he with rfl | he
  · exact h
  · exact k e he
theorem belH_nil {n : Nat} : belH n [] := nofun
theorem belH_cons {n κ : Nat} {o : Own} {l : HL} (h0 : κ < n) (h : Bel n o.keys) (k : belH n l) : belH n ((κ, o) :: l) := fun e he => by
  rcases List.mem_cons.1 he with rfl | he
  · exact ⟨h0, h⟩
  · exact k e he
theorem bel_nil {n : Nat} : Bel n [] := nofun
theorem bel_cons {n κ : Nat} {l : List Nat} (h : Nat.blt κ n = true) (k : Bel n l) : Bel n (κ :: l) := fun x hx => by
  rcases List.mem_cons.1 hx with rfl | hx
  · simpa using h
  · exact k x hx
theorem belR {n : Nat} {l : List Nat} (h : (l.all fun κ => Nat.blt κ n) = true) : Bel n l := fun κ hκ => by simpa using List.all_eq_true.1 h κ hκ
theorem blt_of {a b : Nat} (h : Nat.blt a b = true) : a < b := by simpa using h
section
variable {cx : Cx} {n : Nat} {F : FL} {H : HL} {Q : Exit → Act → World → Prop} {α : Type} {c : Code}
/-- A loop: of F, Fk stays; what dF tells turns; what one owns stays. -/
theorem W.lp (p : α → Prop) (dF : α → FL) (Fk : FL) (μ : α → Nat) (a0 : α) (hp : p a0) (hF : SubF F (dF a0 ++ Fk) := by (repeat (first | exact SubF.nil | refine SubF.cons rfl ?_))) (hH : SubH H H := by (repeat (first | exact SubH.nil | refine SubH.cons rfl ?_))) (h0 : Nat.ble cx.n0 n = true := by rfl)
    (hb : ∀ a, belF n (dF a ++ Fk) := by intro a; (repeat (first | exact belF_nil | refine belF_cons (by first | exact bel0 rfl | exact bel0 agD_keys | exact belR (by rfl)) ?_))) (hb' : belH n H := by (repeat (first | exact belH_nil | refine belH_cons (blt_of (by rfl)) (by first | exact bel0 rfl | exact bel0 agD_keys | exact belR (by rfl)) ?_)))
    (round : ∀ a, p a → Wk cx n (dF a ++ Fk) H (c.wp cx.P (Exit.then (Rnd cx n p dF Fk (fun _ => []) H μ a) Q))) : Wk cx n F H ((Code.loop c).wp cx.P Q) :=
  W.loopG p dF Fk (fun _ => []) H μ a0 hp hF hH (Nat.le_of_ble_eq_true h0) hb (fun _ => hb') round
theorem W.ag {n' : Nat} {p : α → Prop} {dF : α → FL} {Fk : FL} {dH : α → HL} {Hk : HL} {μ : α → Nat} {a : α} (a' : α) (hp : p a') (hμ : μ a' < μ a) (hF : SubF F (dF a' ++ Fk) := by (repeat (first | exact SubF.nil | refine SubF.cons rfl ?_))) (hH : SubH H (dH a' ++ Hk) := by (repeat (first | exact SubH.nil | refine SubH.cons rfl ?_))) (h0 : Nat.ble cx.n0 n' = true := by rfl)
    (hb : belF n' (dF a' ++ Fk) := by (repeat (first | exact belF_nil | refine belF_cons (by first | exact bel0 rfl | exact bel0 agD_keys | exact belR (by rfl)) ?_))) (hb' : belH n' (dH a' ++ Hk) := by (repeat (first | exact belH_nil | refine belH_cons (blt_of (by rfl)) (by first | exact bel0 rfl | exact bel0 agD_keys | exact belR (by rfl)) ?_))) : Wk cx n F H (Rnd cx n' p dF Fk dH Hk μ a) :=
  W.again a' hp hμ hF hH (Nat.le_of_ble_eq_true h0) hb hb'
end
/-- A row is no longer than rows may be. -/
theorem W.len {cx : Cx} {n : Nat} {F : FL} {H : HL} {K : Act → World → Prop} (t : Nat) {k : Nat} {α : Type} {xs : List α} {f : α → List D} {ls : List (List D)} [hr : Row ls α xs f] (ht : look F t = some (dT (sl k ls)) := by rfl) (h : xs.length ≤ 9223372036854775807 → Wk cx n F H K) : Wk cx n F H K := fun β a w hh => by
  obtain ⟨_, c, _, h1, h2, _⟩ := (hh.tm t _ ht).2
  rw [hr.eq, List.length_map] at h1
  unfold maxLen at h2
  exact h (by omega) β a w hh
end Go.Sv
namespace Go.Sv
open Go Go.RowKit

section
variable {P : Program} {ops : Array Oper} {n : Nat} {d : Option Tmp} {ty t : TypeId} {pos : String} {af : Array Edge} {x y : Operand}
/-- What is known of the operands, where c holds. -/
inductive Str (c : Bool) : TL → TL → Prop
  | nil : Str c [] []
  | same {x : Operand} {s : T} {l m : TL} (h : Str c l m) : Str c ((x, s) :: l) ((x, s) :: m)
  | strip {x : Operand} {s : T} {l m : TL} (h : Str c l m) : Str c ((x, .opt c s) :: l) ((x, s) :: m)
  | and {x : Operand} {b : Bool} {s : T} {l m : TL} (h : Str c l m) : Str c ((x, .opt (c && b) s) :: l) ((x, .opt b s) :: m)
theorem Str.is {c : Bool} (hc : c = true) {l m : TL} (h : Str c l m) {β : Env} {V : World} {a : Act} (hl : ∀ e ∈ l, e.2.is β V (a.eval e.1)) : ∀ e ∈ m, e.2.is β V (a.eval e.1) := by
  induction h with
  | nil => exact nofun
  | same h ih =>
    intro e he
    rcases List.mem_cons.1 he with rfl | he
    · exact hl _ (List.mem_cons_self ..)
    · exact ih (fun e he => hl e (List.mem_cons_of_mem _ he)) e he
  | strip h ih =>
    intro e he
    rcases List.mem_cons.1 he with rfl | he
    · exact (hl _ (List.mem_cons_self ..)).1 hc
    · exact ih (fun e he => hl e (List.mem_cons_of_mem _ he)) e he
  | @and x b s l m h ih =>
    intro e he
    rcases List.mem_cons.1 he with rfl | he
    · have := hl _ (List.mem_cons_self ..)
      rw [hc, Bool.true_and] at this
      exact this
    · exact ih (fun e he => hl e (List.mem_cons_of_mem _ he)) e he
theorem Str.bel {c : Bool} {l m : TL} (h : Str c l m) (hl : ∀ e ∈ l, Bel n e.2.keys) : ∀ e ∈ m, Bel n e.2.keys := by
  induction h with
  | nil => exact nofun
  | same h ih =>
    intro e he
    rcases List.mem_cons.1 he with rfl | he
    · exact hl _ (List.mem_cons_self ..)
    · exact ih (fun e he => hl e (List.mem_cons_of_mem _ he)) e he
  | strip h ih =>
    intro e he
    rcases List.mem_cons.1 he with rfl | he
    · exact fun κ hκ => hl _ (List.mem_cons_self ..) κ hκ
    · exact ih (fun e he => hl e (List.mem_cons_of_mem _ he)) e he
  | and h ih =>
    intro e he
    rcases List.mem_cons.1 he with rfl | he
    · exact fun κ hκ => hl _ (List.mem_cons_self ..) κ hκ
    · exact ih (fun e he => hl e (List.mem_cons_of_mem _ he)) e he
def boolV : Value → Option Bool
  | .bool b => some b
  | _ => none
/-- The guard's value: is it what is wanted? -/
def GdT (g : T) (want c : Bool) : Prop := ∀ β V v, T.is β V g v → (boolV v == some want) = c
theorem gd_t {b : Bool} : GdT (bT b) true b := fun _ _ v h => by
  have : v = .bool b := h
  subst this; cases b <;> rfl
theorem gd_f {b : Bool} : GdT (bT b) false (!b) := fun _ _ v h => by
  have : v = .bool b := h
  subst this; cases b <;> rfl
theorem gd_ot {c b : Bool} : GdT (.opt c (bT b)) true (c && b) := fun _ _ v h => by
  cases c with
  | false => rw [h.2 rfl]; rfl
  | true =>
    have : v = .bool b := h.1 rfl
    subst this; cases b <;> rfl
theorem gd_of {c b : Bool} : GdT (.opt c (bT b)) false (c && !b) := fun _ _ v h => by
  cases c with
  | false => rw [h.2 rfl]; rfl
  | true =>
    have : v = .bool b := h.1 rfl
    subst this; cases b <;> rfl
theorem boolV_undef {v : Value} : v = undef → boolV v = none := fun h => by subst h; rfl
/-- An operation that is done where c holds. -/
theorem OpT.guard {op : Op} {j tj : Nat} {want c : Bool} {g : T} {tin0 tin1 : TL} {hr : HL} {out : T} (hj : (ops[j]?).bind (·.dst) = some tj) (hc : GdT g want c) (h : c = true → OpT P ops (mkO d op ty pos af) n tin1 hr [] out [] n) (hs : Str c tin0 tin1) (hk : (∀ e ∈ tin1, Bel n e.2.keys) → Bel n (ownKeys hr) → Bel n out.keys) :
    OpT P ops ⟨d, op, ty, pos, af, some (j, want)⟩ n ((.tmp tj, g) :: tin0) hr [] (.opt c out) [] n :=
  ⟨Nat.le_refl n, fun β S w a K htin hb hO hK => by
    have hy : (yielded ops a.tmps j == some want) = c := by
      have h1 := hc β _ _ (htin _ (List.mem_cons_self ..))
      rw [← h1]
      have : yielded ops a.tmps j = boolV (a.eval (.tmp tj)) := by
        unfold yielded
        rw [hj]
        show (match a.tmps[tj]? with | some (.bool b) => some b | _ => none) = boolV (a.tmps.getD tj undef)
        cases h3 : a.tmps[tj]? with
        | none => simp [h3]; exact (boolV_undef rfl).symm
        | some v =>
          have : a.tmps.getD tj undef = v := by simp [h3]
          rw [this]
          cases v <;> rfl
      rw [this]
    have hbt : ∀ e ∈ tin1, Bel n e.2.keys := hs.bel fun e he => hb e (List.mem_cons_of_mem _ he)
    have hkr : Bel n (ownKeys hr) := fun κ hκ => by
      obtain ⟨e, he, hκ⟩ := List.mem_flatMap.1 hκ
      have := hO.is e (List.mem_append_left _ he)
      rcases List.mem_cons.1 hκ with rfl | hκ
      · exact this.1
      · exact this.2.1 κ hκ
    have hw : Region.wanted ⟨d, op, ty, pos, af, some (j, want)⟩ (yielded ops a.tmps) = c := hy
    rw [hw]
    rcases Bool.eq_false_or_eq_true c with hcb | hcb
    case inr =>
      rw [if_neg (by rw [hcb]; exact Bool.false_ne_true)]
      exact hK undef β w (Kept.refl _ _) (fun _ _ => rfl) (hk hbt hkr) ⟨fun h => Bool.noConfusion (hcb ▸ h : false = true), fun _ => rfl⟩ hO.toOwns nofun
    case inl =>
      rw [if_pos hcb]
      have := (h hcb).run β S w a K (hs.is hcb fun e he => htin e (List.mem_cons_of_mem _ he)) hbt hO (fun v β' w' k1 k2 k3 k4 k5 k6 => hK v β' w' k1 k2 k3 ⟨fun _ => k4, fun h => Bool.noConfusion (hcb ▸ h : true = false)⟩ k5 k6)
      rwa [if_pos (by simp [Region.wanted])] at this⟩
theorem OpT.nilChk {κ o : Nat} {c : C} {t' : TypeId} {cs : List C} (hc : offC c = some (κ, o)) : OpT P ops (mkO d (.nilCheck x) ty pos af) n [(x, .one c)] [(κ, .box t' cs)] [] (.one c) [] n := .own rfl (fun h _ => h _ (List.mem_singleton.2 rfl)) fun β V w A b us _ hb _ _ h => by
  have e1 := off_is hc hb (in1 h)
  exact ⟨_, by simp only [execOp, e1, Sem.run_pure], e1 ▸ in1 h⟩
theorem OpT.nilD {l : List D} : OpT P ops (mkO d (.nilCheck x) ty pos af) n [(x, dT (adr l))] [] [] (dT (adr l)) [] n := .runD rfl fun β V w A _ h => by
  obtain ⟨b, o, us, e1, h2, h3⟩ := in1 h
  exact ⟨A.eval x, by simp only [execOp, e1, Sem.run_pure], b, o, us, e1, h2, h3⟩
theorem OpT.nilF {f : FuncId} {cs : List Cap} : OpT P ops (mkO d (.nilCheck x) ty pos af) n [(x, .one (.clo f cs))] [] [] (.one (.clo f cs)) [] n := .runs rfl (fun h => h _ (List.mem_singleton.2 rfl)) fun β V w A _ h => by
  obtain ⟨us, e1, h2⟩ := in1 h
  exact ⟨A.eval x, by simp only [execOp, e1, Sem.run_pure], us, e1, h2⟩
/-- A byte as a number. -/
theorem OpT.conv [Lays P] {k k' : IntKind} {a : Int} {t t' n1 n2 : Nat} {f1 f2 : List (Nat × Nat)} {z1 z2 : List ZK} (h1 : lay P t = some ⟨.int k, n1, f1, z1⟩ := by rfl) (h2 : lay P t' = some ⟨.int k', n2, f2, z2⟩ := by rfl) (hr : k'.wrap a = a) : OpT P ops (mkO d (.convert t t' x) ty pos af) n [(x, dT (lit (.int k a)))] [] [] (dT (lit (.int k' a))) [] n := .runD rfl fun β V w A _ h => by
  have e1 : A.eval x = .int k a := in1 h
  exact ⟨.int k' a, by simp [execOp, e1, convert, run_underlying (lay_int h1) w, run_underlying (lay_int h2) w, Conv.intToInt, hr], rfl⟩
theorem OpT.byteAt [Lays P] {s : ByteArray} {i : Int} {j t k : Nat} {fl : List (Nat × Nat)} {z : List ZK} {c : UInt8} (hij : i = (j : Int) := by rfl) (hj : s[j]? = some c := by assumption) (ht : lay P t = some ⟨.str, k, fl, z⟩ := by rfl) : OpT P ops (mkO d (.index t x y) ty pos af) n [(x, sT s), (y, iT i)] [] [] (dT (lit (.int .u8 (c.toNat : Int)))) [] n := .runD rfl fun β V w A _ h => by
  obtain ⟨h1, h2⟩ := in2 h
  have e1 : A.eval x = .string s := h1
  have e2 : A.eval y = .int .i64 i := h2
  subst hij
  exact ⟨.int .u8 (c.toNat : Int), by simp [execOp, e1, e2, Instr.index, asIntOf, run_underlying (lay_str ht) w, hj], rfl⟩
/-- A closure. -/
def capU : Cap → T
  | .key κ => .one (.key κ)
  | .one x => dT x
  | .ag xs => agD xs
theorem cap_is {β : Env} {V : World} {c : Cap} {v : Value} (h : (capU c).is β V v) : c.is β V v := by
  cases c with
  | key κ => exact h.1
  | one x => exact h
  | ag xs => obtain ⟨us, h1, h2⟩ := h; exact ⟨us, h1, all2_map.1 h2⟩
theorem zip_all {α : Type} {R : α → Value → Prop} {A : Act} {g : α → T} {β : Env} {V : World} (hR : ∀ c v, (g c).is β V v → R c v) : ∀ {xs : List Operand} {cs : List α}, xs.length = cs.length → (∀ e ∈ xs.zip (cs.map g), e.2.is β V (A.eval e.1)) → All2 R cs (xs.map A.eval)
  | [], [], _, _ => trivial
  | x :: xs, c :: cs, hl, h => ⟨hR _ _ (h (x, g c) (by simp)), zip_all hR (by simpa using hl) fun e he => h e (by simp only [List.map_cons, List.zip_cons_cons, List.mem_cons]; exact .inr he)⟩
  | [], _ :: _, hl, _ => by simp at hl
  | _ :: _, [], hl, _ => by simp at hl
theorem OpT.clo {f : FuncId} {xs : List Operand} {cs : List Cap} (hl : xs.length = cs.length) : OpT P ops (mkO d (.makeFunc (.func f) #[] xs.toArray) ty pos af) n (xs.zip (cs.map capU)) [] [] (.one (.clo f cs)) [] n := .runs rfl (fun h κ hκ => by
    obtain ⟨c, hc, hκ⟩ := List.mem_flatMap.1 hκ
    obtain ⟨i, hi, rfl⟩ := List.mem_iff_getElem.1 hc
    refine h (xs[i]'(by omega), capU cs[i]) (List.mem_iff_getElem.2 ⟨i, by simp; omega, by simp⟩) κ ?_
    cases hcc : cs[i] with
    | key κ' => rw [hcc] at hκ; exact hκ
    | one x => rw [hcc] at hκ; cases hκ
    | ag xs => rw [hcc] at hκ; cases hκ) fun β V w A _ h =>
  ⟨.func (.func f) #[] (xs.map A.eval).toArray, by simp [execOp, Instr.makeFunc], _, rfl, zip_all (fun c v => cap_is) hl h⟩
end
end Go.Sv
namespace Go.Sv
open Go Go.RowKit

theorem fold_setAll (off : Nat) : ∀ (vs : List Value) (k : Nat) (cs : Array Value), (vs.zipIdx k).foldl (fun cs (x : Value × Nat) => cs.setIfInBounds (off + x.2) x.1) cs = setAll cs (off + k) vs
  | [], _, _ => rfl
  | v :: vs, k, cs => by
    simp only [List.zipIdx_cons, List.foldl_cons, setAll]
    exact fold_setAll off vs (k + 1) _
section
variable {P : Program} [Lays P]
def szOf (P : Program) [Lays P] (ft : Nat) : Nat := match lay P ft with
  | some l => l.size
  | none => 0
def fldsB (P : Program) [Lays P] (fl : List (Nat × Nat)) : Bool := fl.all fun e => (lay P e.2).isSome
theorem places_run (w : World) : ∀ {fs : List Field} {fl : List (Nat × Nat)}, fs.map (fun f => (f.offset, f.type)) = fl → fldsB P fl = true → (fs.mapM fun f => do pure (f.offset, ← sizeOf f.type) : Sem (List (Nat × Nat))).run P w = .ok (fl.map fun e => (e.1, szOf P e.2)) w
  | [], fl, h, _ => by subst h; rfl
  | f :: fs, fl, h, hB => by
    subst h
    simp only [List.map_cons, fldsB, List.all_cons, Bool.and_eq_true] at hB
    obtain ⟨lf, hl⟩ := Option.isSome_iff_exists.1 hB.1
    have ih := places_run w (fs := fs) rfl hB.2
    have hs : szOf P f.type = lf.size := by unfold szOf; rw [hl]
    simp only [List.mapM_cons, Sem.run_bind, lay_size hl w, Result.andThen_ok, Sem.run_pure, ih, List.map_cons, hs]
/-- The parts' cells laid over the zero's. -/
def buildC (P : Program) [Lays P] (fl : List (Nat × Nat)) : List C → List (Nat × T) → Option (List C)
  | cs, [] => some cs
  | cs, p :: l => match fl[p.1]? with
    | some e => match cellsT p.2 with
      | some xs => bif Nat.beq xs.length (szOf P e.2) && Nat.ble (e.1 + xs.length) cs.length then buildC P fl (splice cs e.1 xs) l else none
      | none => none
    | none => none
theorem build_fill {β : Env} {V : World} {fl : List (Nat × Nat)} : ∀ {ps : List (Nat × T)} {vs : List (Nat × Value)} {cs out : List C} {us : List Value}, buildC P fl cs ps = some out → CellsC β V cs us → All2 (fun p v => p.1 = v.1 ∧ p.2.is β V v.2) ps vs →
    ∃ us', Instr.fill ((fl.map fun e => (e.1, szOf P e.2)).toArray[·]?) us.toArray vs = some us'.toArray ∧ CellsC β V out us'
  | [], [], cs, out, us, h, hc, _ => by cases h; exact ⟨us, rfl, hc⟩
  | p :: ps, (i, v) :: vs, cs, out, us, h, hc, hv => by
    obtain ⟨⟨rfl, hv1⟩, hv2⟩ := hv
    simp only [buildC] at h
    cases hf : fl[p.1]? with
    | none => rw [hf] at h; cases h
    | some e =>
      rw [hf] at h
      cases hx : cellsT p.2 with
      | none => simp only [hx] at h; cases h
      | some xs =>
        simp only [hx] at h
        cases hb : Nat.beq xs.length (szOf P e.2) && Nat.ble (e.1 + xs.length) cs.length with
        | false => rw [hb] at h; cases h
        | true =>
          rw [hb] at h
          simp only [Bool.and_eq_true] at hb
          have h1 := Nat.eq_of_beq_eq_true hb.1
          have h2 := Nat.le_of_ble_eq_true hb.2
          have hcv := cells_of hx hv1
          have hlen : v.cells.size = xs.length := by have := hcv.len; simp at this; omega
          obtain ⟨us', h3, h4⟩ := build_fill (ps := ps) (vs := vs) h (splice_all2 hc hcv) hv2
          refine ⟨us', ?_, h4⟩
          have hul := hc.len
          have hp : (fl.map fun e => (e.1, szOf P e.2)).toArray[p.1]? = some (e.1, szOf P e.2) := by simp [hf]
          have hset : v.cells.zipIdx.foldl (fun cs (x : Value × Nat) => cs.setIfInBounds (e.1 + x.2) x.1) us.toArray = (splice us e.1 v.cells.toList).toArray := by
            rw [← set_splice, ← Array.foldl_toList, Array.toList_zipIdx]
            exact fold_setAll e.1 _ 0 _
          unfold Instr.fill
          rw [hp]
          simp only
          rw [if_neg (by simp only [List.size_toArray, ne_eq, Bool.or_eq_true, decide_eq_true_eq, not_or, Decidable.not_not, Nat.not_lt]; omega)]
          exact hset ▸ h3
  | [], _ :: _, _, _, _, _, _, h => h.elim
  | _ :: _, [], _, _, _, _, _, h => h.elim
variable {ops : Array Oper} {n : Nat} {d : Option Tmp} {ty t : TypeId} {pos : String} {af : Array Edge} {x y : Operand}
theorem build_keys {fl : List (Nat × Nat)} {n : Nat} : ∀ {ps : List (Nat × T)} {cs out : List C}, buildC P fl cs ps = some out → Bel n (cs.flatMap C.keys) → (∀ p ∈ ps, Bel n p.2.keys) → Bel n (out.flatMap C.keys)
  | [], cs, out, h, hc, _ => by cases h; exact hc
  | p :: ps, cs, out, h, hc, hp => by
    simp only [buildC] at h
    cases hf : fl[p.1]? with
    | none => rw [hf] at h; cases h
    | some e =>
      rw [hf] at h
      cases hx : cellsT p.2 with
      | none => simp only [hx] at h; cases h
      | some xs =>
        simp only [hx] at h
        cases hb : Nat.beq xs.length (szOf P e.2) && Nat.ble (e.1 + xs.length) cs.length with
        | false => rw [hb] at h; cases h
        | true =>
          rw [hb] at h
          refine build_keys h (fun κ hκ => ?_) fun q hq => hp q (List.mem_cons_of_mem _ hq)
          obtain ⟨c, hc1, hc2⟩ := List.mem_flatMap.1 hκ
          rcases splice_mem hc1 with hm | hm
          · exact hc κ (List.mem_flatMap.2 ⟨c, hm, hc2⟩)
          · exact hp p (List.mem_cons_self ..) κ (cells_keys hx ▸ List.mem_flatMap.2 ⟨c, hm, hc2⟩)
theorem OpT.build {k : Nat} {fl : List (Nat × Nat)} {zs : List ZK} {xs : List (Nat × Operand)} {ss : List T} {out : List C} (hl : xs.length = ss.length) (hb : buildC P fl (zeroC zs) ((xs.map (·.1)).zip ss) = some out) (ht : lay P t = some ⟨.struct, k, fl, zs⟩) (hB : fldsB P fl = true) :
    OpT P ops (mkO d (.build t xs.toArray) ty pos af) n ((xs.map (·.2)).zip ss) [] [] (.ag out) [] n := .runs rfl (fun h => build_keys hb (by rw [zeroC_keys]; exact bel0 rfl) fun p hp => by
    obtain ⟨i, hi, rfl⟩ := List.mem_iff_getElem.1 hp
    simp only [List.length_zip, List.length_map] at hi
    have := h (xs[i].2, ss[i]) (List.mem_iff_getElem.2 ⟨i, by simp; omega, by simp⟩)
    simpa using this) fun β V w A _ h => by
  obtain ⟨z, h1, h2⟩ := lay_zero ht w
  obtain ⟨fs, h3, h4⟩ := lay_struct ht
  have hps : ∀ (xs : List (Nat × Operand)) (ss : List T), xs.length = ss.length → (∀ e ∈ (xs.map (·.2)).zip ss, e.2.is β V (A.eval e.1)) → All2 (fun (p : Nat × T) (v : Nat × Value) => p.1 = v.1 ∧ p.2.is β V v.2) ((xs.map (·.1)).zip ss) (xs.map fun p => (p.1, A.eval p.2)) := by
    intro xs
    induction xs with
    | nil => intro ss hl _; cases ss with
      | nil => trivial
      | cons => simp at hl
    | cons x xs ih => intro ss hl h; cases ss with
      | nil => simp at hl
      | cons s ss => exact ⟨⟨rfl, h (x.2, s) (by simp)⟩, ih ss (by simpa using hl) fun e he => h e (by simp only [List.map_cons, List.zip_cons_cons, List.mem_cons]; exact .inr he)⟩
  obtain ⟨us', h5, h6⟩ := build_fill (P := P) hb (zero_cells zs) (hps xs ss hl h)
  refine ⟨.agg us'.toArray, ?_, us', rfl, h6⟩
  have hz : z.cells = (zs.map ZK.val).toArray := by rw [← h2]
  have hm : (fs.mapM fun f => do pure (f.offset, ← sizeOf f.type) : Sem (Array (Nat × Nat))).run P w = .ok (fl.map fun e => (e.1, szOf P e.2)).toArray w := by
    rw [Array.mapM_eq_mapM_toList, Sem.run_map, places_run w h4 hB]; rfl
  have hpm : (xs.toArray.map fun (p : Nat × Operand) => (p.1, A.eval p.2)).toList = xs.map fun p => (p.1, A.eval p.2) := by simp
  simp only [execOp, Instr.build, Sem.run_bind, h1, Result.andThen_ok, run_underlying h3 w, hm, hz, hpm, h5, Sem.run_pure]
/-- A slice of one element. -/
inductive AsD : T → List D → Prop
  | ag (l : List D) : AsD (agD l) l
  | one (x : D) : AsD (dT x) [x]
theorem AsD.cells {s : T} {l : List D} (h : AsD s l) {β : Env} {V : World} {v : Value} (hv : s.is β V v) : Cells V l v.cells.toList := by
  cases h with
  | ag l => obtain ⟨us, rfl, h2⟩ := hv; exact all2_map.1 h2
  | one x =>
    have := x.one hv
    cases v <;> first | exact ⟨hv, trivial⟩ | cases this
theorem OpT.slice1 {e k we : Nat} {fl : List (Nat × Nat)} {z : List ZK} {s : T} {l : List D} {le : Lay} (hs : AsD s l) (ht : lay P t = some ⟨.slice e, we, fl, z⟩) (he : lay P e = some le) (hk : le.size = k) (hlk : l.length = k) (hz : le.zero.length = k) (hb : (Nat.blt 0 k && Nat.ble k 1000) = true) : OpT P ops (mkO d (.buildSlice t 1 #[(0, x)]) ty pos af) n [(x, s)] [] [] (dT (sl k [l])) [] n :=
  ⟨Nat.le_refl n, fun β S w A K htin hbel hO hK => by
    rw [if_pos (by simp [Region.wanted])]
    have hc := hs.cells (in1 htin)
    have hsz : (A.eval x).cells.size = k := by have := hc.len; simp at this; omega
    obtain ⟨zv, h1, h2⟩ := lay_zero he w
    simp only [Bool.and_eq_true, Nat.blt_eq, Nat.ble_eq] at hb
    have hzs : zv.cells.size = k := by have := congrArg List.length h2; simp at this; omega
    unfold Oper.wp
    have hfill : Instr.fill (fun i => some (i * k, k)) ((Array.range (1 * k)).map (zv.cells[· % zv.cells.size]!)) [(0, A.eval x)] = some (A.eval x).cells := by
      unfold Instr.fill
      simp only [Nat.zero_mul, Nat.zero_add, Nat.one_mul, Array.size_map, Array.size_range]
      rw [if_neg (by simp; omega)]
      unfold Instr.fill
      have := fold_setAll 0 (A.eval x).cells.toList 0 ((Array.range k).map (zv.cells[· % zv.cells.size]!))
      simp only [Nat.zero_add] at this
      rw [← Array.foldl_toList, Array.toList_zipIdx, this]
      congr 1
      refine Array.ext_getElem? fun i => ?_
      rw [setAll_get]
      simp only [Nat.zero_le, Nat.zero_add, Array.length_toList, Array.size_map, Array.size_range, true_and, Nat.sub_zero, Array.getElem?_toList]
      by_cases hi : i < k
      · rw [if_pos (by omega)]
      · rw [if_neg (by omega), Array.getElem?_eq_none (by simp; omega), Array.getElem?_eq_none (by omega)]
    have hrun : (execOp A.eval (mkO d (.buildSlice t 1 #[(0, x)]) ty pos af)).run P w = .ok (.value (.slice (some ⟨w.heap.size, 0, none⟩) 1 1)) (w.alloc (.cells (A.eval x).cells e)) := by
      have hne : ¬ (1 * k > 2 ^ 24) := by omega
      have hne0 : ¬ (1 * k = 0) := by omega
      simp only [execOp, Instr.buildSlice, Sem.run_bind, run_underlying (lay_slice ht) w, Result.andThen_ok, lay_size he w, hk, hne, if_false, hne0, h1, Sem.run_pure, List.map_toArray, List.map_cons, List.map_nil, hfill, newRow, run_newObj]
      rfl
    rw [hrun]
    have hkept : Kept [] w (w.alloc (.cells (A.eval x).cells e)) := ⟨rfl, rfl, rfl, by simp, fun k hk _ => Below.heap_alloc _ _ _ hk⟩
    have hV : Sub (hide S w) (hide S (w.alloc (.cells (A.eval x).cells e))) := hide_sub hkept fun k _ hn => ⟨by simp, hn⟩
    have hnS : w.heap.size ∉ S := fun h => Nat.lt_irrefl _ (hO.lt _ h)
    refine hK _ β _ hkept (fun _ _ => rfl) (bel0 rfl) ?_ ⟨nofun, nofun, nofun, fun b hb => by have := hO.lt b hb; simp; omega⟩ nofun
    refine ⟨_, _, rfl, Nat.le_refl _, by unfold maxLen; decide, fun j l' hj => ?_⟩
    have hj0 : j = 0 ∧ l' = l := by
      cases j with
      | zero => simp at hj; exact ⟨rfl, hj.symm⟩
      | succ j => simp at hj
    obtain ⟨rfl, rfl⟩ := hj0
    refine ⟨hlk, _, _, (A.eval x).cells.toList, rfl, fun i u hi => ?_, hc.mono hV⟩
    have hh : (hide S (w.alloc (.cells (A.eval x).cells e))).heap[w.heap.size]? = some (.cells (A.eval x).cells e) := by
      rw [hide_at, heap_alloc_new]
      simp [hnS]
    show (hide S (w.alloc (.cells (A.eval x).cells e))).cell? _ = _
    rw [cell_of_row _ _ _ _ _ _ hh]
    simpa using hi⟩
end
end Go.Sv
