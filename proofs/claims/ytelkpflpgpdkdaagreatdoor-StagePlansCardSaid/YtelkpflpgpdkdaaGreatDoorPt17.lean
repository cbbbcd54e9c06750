/- Part 17 of what StageOrder and StagePlans ask: for every input each returns true, and its input reads as it did. No condition. -/
import Derived.Test.YtelkpflpgpdkdaaGreatDoorPt16
namespace Go.Sv
open Go Go.RowKit

def noKey (κ : Nat) : HL → Bool
  | [] => true
  | e :: H => !Nat.beq e.1 κ && noKey κ H
theorem noKey_of {κ : Nat} : ∀ {H : HL}, noKey κ H = true → ∀ e ∈ H, e.1 ≠ κ
  | [], _, _, h => by cases h
  | e :: H, h, f, hf => by
    simp only [noKey, Bool.and_eq_true, Bool.not_eq_true'] at h
    rcases List.mem_cons.1 hf with rfl | hf
    · intro he
      rw [he, show Nat.beq κ κ = true from Nat.beq_refl κ] at h
      cases h.1
    · exact noKey_of h.2 f hf
/-- In H, κ has o; in H2, o'. -/
inductive Rep (κ : Nat) (o o' : Own) : HL → HL → Prop
  | here {H : HL} (h : noKey κ H = true) : Rep κ o o' ((κ, o) :: H) ((κ, o') :: H)
  | there {H H2 : HL} {κ' : Nat} {x : Own} (hne : Nat.beq κ' κ = false) (h : Rep κ o o' H H2) : Rep κ o o' ((κ', x) :: H) ((κ', x) :: H2)
theorem Rep.mem {κ : Nat} {o o' : Own} {H H2 : HL} (h : Rep κ o o' H H2) : (κ, o) ∈ H ∧ ∀ e, e ∈ H2 ↔ e ∈ upd H [(κ, o)] [(κ, o')] := by
  induction h with
  | @here H h =>
    refine ⟨List.mem_cons_self .., fun e => ?_⟩
    rw [mem_upd]
    simp only [List.mem_cons, List.not_mem_nil, or_false, keys, List.map_cons, List.map_nil]
    constructor
    · rintro (h1 | h1)
      · exact .inl h1
      · exact .inr ⟨.inr h1, noKey_of h e h1⟩
    · rintro (h1 | ⟨rfl | h1, h2⟩)
      · exact .inl h1
      · exact absurd rfl h2
      · exact .inr h1
  | @there H H2 κ' x hne h ih =>
    obtain ⟨h1, h2⟩ := ih
    refine ⟨List.mem_cons_of_mem _ h1, fun e => ?_⟩
    have hn : κ' ≠ κ := fun e => by rw [e, show Nat.beq κ κ = true from Nat.beq_refl κ] at hne; cases hne
    rw [mem_upd, List.mem_cons, h2, mem_upd]
    simp only [List.mem_cons, List.not_mem_nil, or_false, keys, List.map_cons, List.map_nil]
    constructor
    · rintro (rfl | h3 | ⟨h3, h4⟩)
      · exact .inr ⟨.inl rfl, hn⟩
      · exact .inl h3
      · exact .inr ⟨.inr h3, h4⟩
    · rintro (h3 | ⟨rfl | h3, h4⟩)
      · exact .inr (.inl h3)
      · exact .inl rfl
      · exact .inr (.inr ⟨h3, h4⟩)
section
variable {P : Program} {ops : Array Oper} {n : Nat} {d : Tmp} {op : Op} {ty t : TypeId} {pos : String} {af : Array Edge} {F : FL} {H H2 : HL} {acc : List Acc} {l : List Oper} {tin : TL} {out : T} {Fin : Nat → FL → HL → List Acc → Prop} {x y : Operand} {o' : Own} {κ : Nat}
theorem Ch.nw (h : OpT P ops (mkO (some d) op ty pos af) n tin [] [] (.one (.key n)) [(n, o')] (n + 1)) (hF : Tin F tin) (r : Ch P ops Fin l (n + 1) ((d, .one (.key n)) :: F) ((n, o') :: H) (acc ++ [Rec.acc ⟨tin, [], [], .one (.key n), [(n, o')], n, n + 1⟩ (some d)])) : Ch P ops Fin (mkO (some d) op ty pos af :: l) n F H acc :=
  .step tin [] [] _ _ _ h hF.all (fun _ h => by cases h) _ (fun e => by rw [mem_upd, List.mem_cons]; simp [keys]) r
theorem Ch.r (h : OpT P ops (mkO (some d) op ty pos af) n tin [(κ, o')] [] out [] n) (hF : Tin F tin) (hH : look H κ = some o') (r : Ch P ops Fin l n ((d, out) :: F) H (acc ++ [Rec.acc ⟨tin, [(κ, o')], [], out, [], n, n⟩ (some d)])) : Ch P ops Fin (mkO (some d) op ty pos af :: l) n F H acc :=
  .step tin _ [] _ [] n h hF.all (fun e he => by rw [List.append_nil, List.mem_singleton] at he; subst he; exact look_mem hH) H (fun _ => by rw [upd_nil]) r
theorem OpT.max {d : Option Tmp} {a b : Int} {tys : Array TypeId} : OpT P ops (mkO d (.call ⟨.builtin .max, #[x, y], tys⟩) ty pos af) n [(x, iT a), (y, iT b)] [] [] (iT (if b > a then b else a)) [] n := .runD rfl fun β V w A _ h => by
  obtain ⟨h1, h2⟩ := in2 h
  have e1 : A.eval x = .int .i64 a := h1
  have e2 : A.eval y = .int .i64 b := h2
  refine ⟨.int .i64 (if b > a then b else a), ?_, rfl⟩
  simp [execOp, e1, e2, resolve, invoke, builtin, Builtin.max_, Builtin.max2, List.foldlM]
variable [Lays P]
theorem Ch.fieldO {f k off ft o : Nat} {fl : List (Nat × Nat)} {z : List ZK} {lf : Lay} {c : C} {t' : TypeId} {cs : List C} (hF : Tin F [(x, .one c)]) (hc : offC c = some (κ, o) := by rfl) (hH : look H κ = some (.box t' cs) := by rfl) (ht : lay P t = some ⟨.struct, k, fl, z⟩ := by rfl) (hf : fl[f]? = some (off, ft) := by rfl) (hl : lay P ft = some lf := by rfl) (hs : Nat.beq lf.size 0 = false := by rfl)
    (r : Ch P ops Fin l n ((d, .one (.ptr κ (o + off))) :: F) H (acc ++ [Rec.acc ⟨[(x, .one c)], [(κ, .box t' cs)], [], .one (.ptr κ (o + off)), [], n, n⟩ (some d)])) : Ch P ops Fin (mkO (some d) (.fieldAddr t x f) ty pos af :: l) n F H acc := .r (.fieldO hc ht hf hl hs) hF hH r
theorem Ch.loadO {k o : Nat} {lk : LK} {fl : List (Nat × Nat)} {z : List ZK} {c : C} {t' : TypeId} {cs cs' : List C} (hF : Tin F [(x, .one c)]) (hc : offC c = some (κ, o) := by rfl) (hH : look H κ = some (.box t' cs) := by rfl) (ht : lay P t = some ⟨lk, k, fl, z⟩ := by rfl) (ha : lk.agg = true := by rfl) (hcs : (cs.drop o).take k = cs' := by rfl) (hk : cs'.length = k := by rfl)
    (r : Ch P ops Fin l n ((d, .ag cs') :: F) H (acc ++ [Rec.acc ⟨[(x, .one c)], [(κ, .box t' cs)], [], .ag cs', [], n, n⟩ (some d)])) : Ch P ops Fin (mkO (some d) (.load t x) ty pos af :: l) n F H acc := .r (.loadO hc ht ha hcs hk) hF hH r
theorem Ch.loadO1 {k o : Nat} {lk : LK} {fl : List (Nat × Nat)} {z : List ZK} {c c' : C} {t' : TypeId} {cs : List C} (hF : Tin F [(x, .one c)]) (hc : offC c = some (κ, o) := by rfl) (hH : look H κ = some (.box t' cs) := by rfl) (ht : lay P t = some ⟨lk, k, fl, z⟩ := by rfl) (ha : lk.agg = false := by rfl) (hcs : cs[o]? = some c' := by rfl)
    (r : Ch P ops Fin l n ((d, .one c') :: F) H (acc ++ [Rec.acc ⟨[(x, .one c)], [(κ, .box t' cs)], [], .one c', [], n, n⟩ (some d)])) : Ch P ops Fin (mkO (some d) (.load t x) ty pos af :: l) n F H acc := .r (.loadO1 hc ht ha hcs) hF hH r
theorem Ch.store {k o : Nat} {lk : LK} {fl : List (Nat × Nat)} {z : List ZK} {c : C} {s : T} {t' : TypeId} {cs xs cs' : List C} (hF : Tin F [(x, .one c), (y, s)]) (hs : cellsT s = some xs := by rfl) (hc : offC c = some (κ, o) := by rfl) (hR : Rep κ (.box t' cs) (.box t' cs') H H2 := by (repeat (first | exact Rep.here (by rfl) | (apply Rep.there; rfl)))) (ht : lay P t = some ⟨lk, k, fl, z⟩ := by rfl)
    (hcs : splice cs o xs = cs' := by rfl) (hk : xs.length = k := by rfl) (hle : Nat.ble (o + k) cs.length = true := by rfl) (r : Ch P ops Fin l n F H2 (acc ++ [Rec.acc ⟨[(x, .one c), (y, s)], [], [(κ, .box t' cs)], .any, [(κ, .box t' cs')], n, n⟩ none])) : Ch P ops Fin (mkO none (.store t x y) ty pos af :: l) n F H acc :=
  .step _ [] _ _ _ n (.store hs hc ht hcs hk hle) hF.all (fun e he => by rw [List.nil_append, List.mem_singleton] at he; subst he; exact hR.mem.1) H2 hR.mem.2 r
end
end Go.Sv
namespace Go.Sv
open Go Go.RowKit

theorem Con.up {P : Program} {f : FuncId} {args : List T} {out : T} (hk : out.keys = []) (h : Con P f args [] 0 out [] 0) (n : Nat) : Con P f args [] n out [] n :=
  ⟨h.1, Nat.le_refl n, fun β S w vs hv hO => (h.2.2 β S w vs hv ⟨⟨nofun, nofun, nofun, hO.lt⟩, hO.gl⟩).mono fun e w' ⟨v, β', h1, h2, _, _, h5, h6, _⟩ =>
    ⟨v, β, h1, h2, fun _ _ => rfl, bel0 hk, T.keep (fun κ hκ => by rw [hk] at hκ; cases hκ) (Sub.refl _) h5, ⟨nofun, nofun, nofun, h6.lt⟩, fun b hb => by cases hb⟩⟩
/-- The way in. -/
theorem fnI {P : Program} {f : FuncId} {fn : Func} {c : Code} {args : List T} {out : T} {N : Nat} (hf : P.funcs[f]? = some fn) (hN : fn.ntmps = N) (hb : fn.body = some c := by rfl) (hnm : (fn.name == "runtime.NumGoroutine") = false := by kernel_rfl) (hn : Nat.ble args.length N = true := by rfl) (hk : args.flatMap T.keys = [] := by rfl) (hko : out.keys = [] := by rfl)
    (h : ∀ S w0 β0 X, Wk ⟨P, S, w0, 0, β0, X, N⟩ 0 (frame 0 args) [] (c.wp P (bodyPost P fn (Post ⟨P, S, w0, 0, β0, X, N⟩ out [] 0)))) : ∀ n, Con P f args [] n out [] n :=
  Con.up hko (Con.enter hf hb hnm (by rw [hN]; exact Nat.le_of_ble_eq_true hn) (Nat.le_refl 0) (fun t ht => bel0 (List.flatMap_eq_nil_iff.1 hk t ht)) (by rintro ⟨P', S, w0, n0, β0, X, N'⟩ rfl rfl rfl; subst hN; exact h S w0 β0 X))
section
variable {cx : Cx} {n : Nat} {F : FL} {H : HL} {fn : Func} {out : T} {r r2 r3 : ResultVar} {u u2 u3 : U}
/-- The way out. -/
theorem fin1 (hr : fn.results = #[r] := by rfl) (hu : resU cx.P F H r = some u := by rfl) (he : u.t = out := by rfl) (hk : out.keys = [] := by rfl) : Wk cx n F H (bodyPost cx.P fn (Post cx out [] 0) .ret) := by
  subst he
  exact W.fin (us := [u]) (by rw [hr]; simp [hu]) (bel0 hk) fun _ h => by cases h
theorem fin2 (hr : fn.results = #[r, r2] := by rfl) (hu : resU cx.P F H r = some u := by rfl) (hu2 : resU cx.P F H r2 = some u2 := by rfl) (he : T.tup [u, u2] = out := by rfl) (hk : out.keys = [] := by rfl) : Wk cx n F H (bodyPost cx.P fn (Post cx out [] 0) .ret) := by
  subst he
  exact W.fin (us := [u, u2]) (by rw [hr]; simp [hu, hu2]) (bel0 hk) fun _ h => by cases h
theorem fin3 (hr : fn.results = #[r, r2, r3] := by rfl) (hu : resU cx.P F H r = some u := by rfl) (hu2 : resU cx.P F H r2 = some u2 := by rfl) (hu3 : resU cx.P F H r3 = some u3 := by rfl) (he : T.tup [u, u2, u3] = out := by rfl) (hk : out.keys = [] := by rfl) : Wk cx n F H (bodyPost cx.P fn (Post cx out [] 0) .ret) := by
  subst he
  exact W.fin (us := [u, u2, u3]) (by rw [hr]; simp [hu, hu2, hu3]) (bel0 hk) fun _ h => by cases h
end
end Go.Sv
namespace Go.Sv
open Go Go.RowKit

/-- All of it is in F. -/
inductive SubF (F : FL) : FL → Prop
  | nil : SubF F []
  | cons {t : Nat} {s : T} {l : FL} (h : look F t = some s) (r : SubF F l) : SubF F ((t, s) :: l)
inductive SubH (H : HL) : HL → Prop
  | nil : SubH H []
  | cons {κ : Nat} {o : Own} {l : HL} (h : look H κ = some o) (r : SubH H l) : SubH H ((κ, o) :: l)
theorem SubF.look {F l : FL} (h : SubF F l) : ∀ t s, look l t = some s → look F t = some s := by
  induction h with
  | nil => intro t s h; cases h
  | @cons t' s' l h r ih =>
    intro t s hs
    rw [look_cons] at hs
    split at hs
    · rename_i he; simp only at he; subst he; exact h.trans hs
    · exact ih t s hs
theorem SubH.mem {H l : HL} (h : SubH H l) : ∀ e ∈ l, e ∈ H := by
  induction h with
  | nil => exact nofun
  | cons h r ih =>
    intro e he
    rcases List.mem_cons.1 he with rfl | he
    · exact look_mem h
    · exact ih e he
def belF (n : Nat) (F : FL) : Prop := ∀ e ∈ F, Bel n e.2.keys
def belH (n : Nat) (H : HL) : Prop := ∀ e ∈ H, e.1 < n ∧ Bel n e.2.keys
theorem Hold.weak {cx : Cx} {β : Env} {n n' : Nat} {F F' : FL} {H H' : HL} {a : Act} {w : World} (h : Hold cx β n F H a w) (hn : cx.n0 ≤ n') (hF : SubF F F') (hH : SubH H H') (hb : belF n' F') (hb' : belH n' H') : Hold cx β n' F' H' a w := by
  have hbl : ∀ b ∈ blks β H', b ∈ blks β H := fun b hb => by
    obtain ⟨e, he, hb⟩ := mem_blks.1 hb
    exact mem_blks.2 ⟨_, hH.mem e he, hb⟩
  have hV : Sub (View β H cx.S w) (View β H' cx.S w) := hide_sub (Kept.refl [] w) fun k _ hk => ⟨by simp, fun hm => hk ((List.mem_append.1 hm).elim (fun h => List.mem_append_left _ (hbl k h)) (List.mem_append_right _))⟩
  refine ⟨h.size, h.defers, hn, h.env, h.kept, fun t s hs => ⟨hb _ (look_mem hs), T.keep (fun _ _ => rfl) hV (h.tm t s (hF.look t s hs)).2⟩, ⟨fun e he => ?_, fun e he e' he' => h.ow.apart e (hH.mem e he) e' (hH.mem e' he'), fun b hm => h.ow.out b (hbl b hm), h.ow.lt⟩, fun b hm => h.own b (hbl b hm), h.gl⟩
  exact ⟨(hb' e he).1, (hb' e he).2, Own.keep (fun _ _ => rfl) hV (fun _ _ _ h => h) (h.ow.is e (hH.mem e he)).2.2⟩
/-- One round more is owed, from a smaller measure on. -/
def Rnd {α : Type} (cx : Cx) (n : Nat) (p : α → Prop) (dF : α → FL) (Fk : FL) (dH : α → HL) (Hk : HL) (μ : α → Nat) (a : α) : Act → World → Prop := fun A w => ∃ a', p a' ∧ μ a' < μ a ∧ ∃ β, Hold cx β n (dF a' ++ Fk) (dH a' ++ Hk) A w
section
variable {cx : Cx} {n n' : Nat} {F : FL} {H : HL} {Q : Exit → Act → World → Prop} {α : Type} {c : Code}
theorem W.loopG (p : α → Prop) (dF : α → FL) (Fk : FL) (dH : α → HL) (Hk : HL) (μ : α → Nat) (a0 : α) (hp : p a0) (hF : SubF F (dF a0 ++ Fk)) (hH : SubH H (dH a0 ++ Hk)) (h0 : cx.n0 ≤ n') (hb : ∀ a, belF n' (dF a ++ Fk)) (hb' : ∀ a, belH n' (dH a ++ Hk))
    (round : ∀ a, p a → Wk cx n' (dF a ++ Fk) (dH a ++ Hk) (c.wp cx.P (Exit.then (Rnd cx n' p dF Fk dH Hk μ a) Q))) : Wk cx n F H ((Code.loop c).wp cx.P Q) :=
  W.loop (σ := {a // p a}) (fun a => (n', dF a.1 ++ Fk, dH a.1 ++ Hk)) (fun a => μ a.1) ⟨a0, hp⟩ (fun β _ _ h => ⟨β, h.weak h0 hF hH (hb a0) (hb' a0)⟩) fun a β A w h =>
    wp_mono (round a.1 a.2 β A w h) fun e A' w' hq => by
      cases e with
      | normal => obtain ⟨a', h1, h2, h3⟩ := hq; exact ⟨⟨a', h1⟩, h2, h3⟩
      | _ => exact hq
theorem W.again {p : α → Prop} {dF : α → FL} {Fk : FL} {dH : α → HL} {Hk : HL} {μ : α → Nat} {a : α} (a' : α) (hp : p a') (hμ : μ a' < μ a) (hF : SubF F (dF a' ++ Fk)) (hH : SubH H (dH a' ++ Hk)) (h0 : cx.n0 ≤ n') (hb : belF n' (dF a' ++ Fk)) (hb' : belH n' (dH a' ++ Hk)) : Wk cx n F H (Rnd cx n' p dF Fk dH Hk μ a) :=
  fun β _ _ h => ⟨a', hp, hμ, β, h.weak h0 hF hH hb hb'⟩
end
theorem belF_nil {n : Nat} : belF n [] := nofun
theorem belF_cons {n t : Nat} {s : T} {l : FL} (h : Bel n s.keys) (k : belF n l) : belF n ((t, s) :: l) := fun e he => by
  rcases List.mem_cons.1 he with rfl | he
  · exact h
  · exact k e he
theorem belH_nil {n : Nat} : belH n [] := nofun
theorem belH_cons {n κ : Nat} {o : Own} {l : HL} (h0 : κ < n) (h : Bel n o.keys) (k : belH n l) : belH n ((κ, o) :: l) := fun e he => by
  rcases List.mem_cons.1 he with rfl | he
  · exact ⟨h0, h⟩
  · exact k e he
theorem belR {n : Nat} {l : List Nat} (h : (l.all fun κ => Nat.blt κ n) = true) : Bel n l := fun κ hκ => by simpa using List.all_eq_true.1 h κ hκ
theorem blt_of {a b : Nat} (h : Nat.blt a b = true) : a < b := by simpa using h
section
variable {cx : Cx} {n : Nat} {F : FL} {H : HL} {Q : Exit → Act → World → Prop} {α : Type} {c : Code}
/-- A loop: of F, Fk stays; what dF tells turns; what one owns stays. -/
theorem W.lp (p : α → Prop) (dF : α → FL) (Fk : FL) (μ : α → Nat) (a0 : α) (hp : p a0) (hF : SubF F (dF a0 ++ Fk) := by (repeat (first | exact SubF.nil | refine SubF.cons rfl ?_))) (hH : SubH H H := by (repeat (first | exact SubH.nil | refine SubH.cons rfl ?_))) (h0 : Nat.ble cx.n0 n = true := by rfl)
    (hb : ∀ a, belF n (dF a ++ Fk) := by intro a; (repeat (first | exact belF_nil | refine belF_cons (by first | exact bel0 rfl | exact bel0 agD_keys | exact belR (by rfl)) ?_))) (hb' : belH n H := by (repeat (first | exact belH_nil | refine belH_cons (blt_of (by rfl)) (by first | exact bel0 rfl | exact bel0 agD_keys | exact belR (by rfl)) ?_)))
    (round : ∀ a, p a → Wk cx n (dF a ++ Fk) H (c.wp cx.P (Exit.then (Rnd cx n p dF Fk (fun _ => []) H μ a) Q))) : Wk cx n F H ((Code.loop c).wp cx.P Q) :=
  W.loopG p dF Fk (fun _ => []) H μ a0 hp hF hH (Nat.le_of_ble_eq_true h0) hb (fun _ => hb') round
theorem W.ag {n' : Nat} {p : α → Prop} {dF : α → FL} {Fk : FL} {dH : α → HL} {Hk : HL} {μ : α → Nat} {a : α} (a' : α) (hp : p a') (hμ : μ a' < μ a) (hF : SubF F (dF a' ++ Fk) := by (repeat (first | exact SubF.nil | refine SubF.cons rfl ?_))) (hH : SubH H (dH a' ++ Hk) := by (repeat (first | exact SubH.nil | refine SubH.cons rfl ?_))) (h0 : Nat.ble cx.n0 n' = true := by rfl)
    (hb : belF n' (dF a' ++ Fk) := by (repeat (first | exact belF_nil | refine belF_cons (by first | exact bel0 rfl | exact bel0 agD_keys | exact belR (by rfl)) ?_))) (hb' : belH n' (dH a' ++ Hk) := by (repeat (first | exact belH_nil | refine belH_cons (blt_of (by rfl)) (by first | exact bel0 rfl | exact bel0 agD_keys | exact belR (by rfl)) ?_))) : Wk cx n F H (Rnd cx n' p dF Fk dH Hk μ a) :=
  W.again a' hp hμ hF hH (Nat.le_of_ble_eq_true h0) hb hb'
end
/-- A row is no longer than rows may be. -/
theorem W.len {cx : Cx} {n : Nat} {F : FL} {H : HL} {K : Act → World → Prop} (t : Nat) {k : Nat} {α : Type} {xs : List α} {f : α → List D} {ls : List (List D)} [hr : Row ls α xs f] (ht : look F t = some (dT (sl k ls)) := by rfl) (h : xs.length ≤ 9223372036854775807 → Wk cx n F H K) : Wk cx n F H K := fun β a w hh => by
  obtain ⟨_, c, _, h1, h2, _⟩ := (hh.tm t _ ht).2
  rw [hr.eq, List.length_map] at h1
  unfold maxLen at h2
  exact h (by omega) β a w hh
end Go.Sv
namespace Go.Sv
open Go Go.RowKit

section
variable {P : Program} {ops : Array Oper} {n : Nat} {d : Option Tmp} {ty t : TypeId} {pos : String} {af : Array Edge} {x y : Operand}
/-- What is known of the operands, where c holds. -/
inductive Str (c : Bool) : TL → TL → Prop
  | nil : Str c [] []
  | same {x : Operand} {s : T} {l m : TL} (h : Str c l m) : Str c ((x, s) :: l) ((x, s) :: m)
  | strip {x : Operand} {s : T} {l m : TL} (h : Str c l m) : Str c ((x, .opt c s) :: l) ((x, s) :: m)
  | and {x : Operand} {b : Bool} {s : T} {l m : TL} (h : Str c l m) : Str c ((x, .opt (c && b) s) :: l) ((x, .opt b s) :: m)
theorem Str.is {c : Bool} (hc : c = true) {l m : TL} (h : Str c l m) {β : Env} {V : World} {a : Act} (hl : ∀ e ∈ l, e.2.is β V (a.eval e.1)) : ∀ e ∈ m, e.2.is β V (a.eval e.1) := by
  induction h with
  | nil => exact nofun
  | same h ih =>
    intro e he
    rcases List.mem_cons.1 he with rfl | he
    · exact hl _ (List.mem_cons_self ..)
    · exact ih (fun e he => hl e (List.mem_cons_of_mem _ he)) e he
  | strip h ih =>
    intro e he
    rcases List.mem_cons.1 he with rfl | he
    · exact (hl _ (List.mem_cons_self ..)).1 hc
    · exact ih (fun e he => hl e (List.mem_cons_of_mem _ he)) e he
  | @and x b s l m h ih =>
    intro e he
    rcases List.mem_cons.1 he with rfl | he
    · have := hl _ (List.mem_cons_self ..)
      rw [hc, Bool.true_and] at this
      exact this
    · exact ih (fun e he => hl e (List.mem_cons_of_mem _ he)) e he
theorem Str.bel {c : Bool} {l m : TL} (h : Str c l m) (hl : ∀ e ∈ l, Bel n e.2.keys) : ∀ e ∈ m, Bel n e.2.keys := by
  induction h with
  | nil => exact nofun
  | same h ih =>
    intro e he
    rcases List.mem_cons.1 he with rfl | he
    · exact hl _ (List.mem_cons_self ..)
    · exact ih (fun e he => hl e (List.mem_cons_of_mem _ he)) e he
  | strip h ih =>
    intro e he
    rcases List.mem_cons.1 he with rfl | he
    · exact fun κ hκ => hl _ (List.mem_cons_self ..) κ hκ
    · exact ih (fun e he => hl e (List.mem_cons_of_mem _ he)) e he
  | and h ih =>
    intro e he
    rcases List.mem_cons.1 he with rfl | he
    · exact fun κ hκ => hl _ (List.mem_cons_self ..) κ hκ
    · exact ih (fun e he => hl e (List.mem_cons_of_mem _ he)) e he
def boolV : Value → Option Bool
  | .bool b => some b
  | _ => none
/-- The guard's value: is it what is wanted? -/
def GdT (g : T) (want c : Bool) : Prop := ∀ β V v, T.is β V g v → (boolV v == some want) = c
theorem gd_t {b : Bool} : GdT (bT b) true b := fun _ _ v h => by
  have : v = .bool b := h
  subst this; cases b <;> rfl
theorem gd_f {b : Bool} : GdT (bT b) false (!b) := fun _ _ v h => by
  have : v = .bool b := h
  subst this; cases b <;> rfl
theorem gd_ot {c b : Bool} : GdT (.opt c (bT b)) true (c && b) := fun _ _ v h => by
  cases c with
  | false => rw [h.2 rfl]; rfl
  | true =>
    have : v = .bool b := h.1 rfl
    subst this; cases b <;> rfl
theorem gd_of {c b : Bool} : GdT (.opt c (bT b)) false (c && !b) := fun _ _ v h => by
  cases c with
  | false => rw [h.2 rfl]; rfl
  | true =>
    have : v = .bool b := h.1 rfl
    subst this; cases b <;> rfl
theorem boolV_undef {v : Value} : v = undef → boolV v = none := fun h => by subst h; rfl
/-- An operation that is done where c holds. -/
theorem OpT.guard {op : Op} {j tj : Nat} {want c : Bool} {g : T} {tin0 tin1 : TL} {hr : HL} {out : T} (hj : (ops[j]?).bind (·.dst) = some tj) (hc : GdT g want c) (h : c = true → OpT P ops (mkO d op ty pos af) n tin1 hr [] out [] n) (hs : Str c tin0 tin1) (hk : (∀ e ∈ tin1, Bel n e.2.keys) → Bel n (ownKeys hr) → Bel n out.keys) :
    OpT P ops ⟨d, op, ty, pos, af, some (j, want)⟩ n ((.tmp tj, g) :: tin0) hr [] (.opt c out) [] n :=
  ⟨Nat.le_refl n, fun β S w a K htin hb hO hK => by
    have hy : (yielded ops a.tmps j == some want) = c := by
      have h1 := hc β _ _ (htin _ (List.mem_cons_self ..))
      rw [← h1]
      have : yielded ops a.tmps j = boolV (a.eval (.tmp tj)) := by
        unfold yielded
        rw [hj]
        show (match a.tmps[tj]? with | some (.bool b) => some b | _ => none) = boolV (a.tmps.getD tj undef)
        cases h3 : a.tmps[tj]? with
        | none => simp [h3]; exact (boolV_undef rfl).symm
        | some v =>
          have : a.tmps.getD tj undef = v := by simp [h3]
          rw [this]
          cases v <;> rfl
      rw [this]
    have hbt : ∀ e ∈ tin1, Bel n e.2.keys := hs.bel fun e he => hb e (List.mem_cons_of_mem _ he)
    have hkr : Bel n (ownKeys hr) := fun κ hκ => by
      obtain ⟨e, he, hκ⟩ := List.mem_flatMap.1 hκ
      have := hO.is e (List.mem_append_left _ he)
      rcases List.mem_cons.1 hκ with rfl | hκ
      · exact this.1
      · exact this.2.1 κ hκ
    have hw : Region.wanted ⟨d, op, ty, pos, af, some (j, want)⟩ (yielded ops a.tmps) = c := hy
    rw [hw]
    rcases Bool.eq_false_or_eq_true c with hcb | hcb
    case inr =>
      rw [if_neg (by rw [hcb]; exact Bool.false_ne_true)]
      exact hK undef β w (Kept.refl _ _) (fun _ _ => rfl) (hk hbt hkr) ⟨fun h => Bool.noConfusion (hcb ▸ h : false = true), fun _ => rfl⟩ hO.toOwns nofun
    case inl =>
      rw [if_pos hcb]
      have := (h hcb).run β S w a K (hs.is hcb fun e he => htin e (List.mem_cons_of_mem _ he)) hbt hO (fun v β' w' k1 k2 k3 k4 k5 k6 => hK v β' w' k1 k2 k3 ⟨fun _ => k4, fun h => Bool.noConfusion (hcb ▸ h : true = false)⟩ k5 k6)
      rwa [if_pos (by simp [Region.wanted])] at this⟩
theorem OpT.nilChk {κ o : Nat} {c : C} {t' : TypeId} {cs : List C} (hc : offC c = some (κ, o)) : OpT P ops (mkO d (.nilCheck x) ty pos af) n [(x, .one c)] [(κ, .box t' cs)] [] (.one c) [] n := .own rfl (fun h _ => h _ (List.mem_singleton.2 rfl)) fun β V w A b us _ hb _ _ h => by
  have e1 := off_is hc hb (in1 h)
  exact ⟨_, by simp only [execOp, e1, Sem.run_pure], e1 ▸ in1 h⟩
theorem OpT.nilD {l : List D} : OpT P ops (mkO d (.nilCheck x) ty pos af) n [(x, dT (adr l))] [] [] (dT (adr l)) [] n := .runD rfl fun β V w A _ h => by
  obtain ⟨b, o, us, e1, h2, h3⟩ := in1 h
  exact ⟨A.eval x, by simp only [execOp, e1, Sem.run_pure], b, o, us, e1, h2, h3⟩
theorem OpT.nilF {f : FuncId} {cs : List Cap} : OpT P ops (mkO d (.nilCheck x) ty pos af) n [(x, .one (.clo f cs))] [] [] (.one (.clo f cs)) [] n := .runs rfl (fun h => h _ (List.mem_singleton.2 rfl)) fun β V w A _ h => by
  obtain ⟨us, e1, h2⟩ := in1 h
  exact ⟨A.eval x, by simp only [execOp, e1, Sem.run_pure], us, e1, h2⟩
/-- A byte as a number. -/
theorem OpT.conv [Lays P] {k k' : IntKind} {a : Int} {t t' n1 n2 : Nat} {f1 f2 : List (Nat × Nat)} {z1 z2 : List ZK} (h1 : lay P t = some ⟨.int k, n1, f1, z1⟩ := by rfl) (h2 : lay P t' = some ⟨.int k', n2, f2, z2⟩ := by rfl) (hr : k'.wrap a = a) : OpT P ops (mkO d (.convert t t' x) ty pos af) n [(x, dT (lit (.int k a)))] [] [] (dT (lit (.int k' a))) [] n := .runD rfl fun β V w A _ h => by
  have e1 : A.eval x = .int k a := in1 h
  exact ⟨.int k' a, by simp [execOp, e1, convert, run_underlying (lay_int h1) w, run_underlying (lay_int h2) w, Conv.intToInt, hr], rfl⟩
theorem OpT.byteAt [Lays P] {s : ByteArray} {i : Int} {j t k : Nat} {fl : List (Nat × Nat)} {z : List ZK} {c : UInt8} (hij : i = (j : Int) := by rfl) (hj : s[j]? = some c := by assumption) (ht : lay P t = some ⟨.str, k, fl, z⟩ := by rfl) : OpT P ops (mkO d (.index t x y) ty pos af) n [(x, sT s), (y, iT i)] [] [] (dT (lit (.int .u8 (c.toNat : Int)))) [] n := .runD rfl fun β V w A _ h => by
  obtain ⟨h1, h2⟩ := in2 h
  have e1 : A.eval x = .string s := h1
  have e2 : A.eval y = .int .i64 i := h2
  subst hij
  exact ⟨.int .u8 (c.toNat : Int), by simp [execOp, e1, e2, Instr.index, asIntOf, run_underlying (lay_str ht) w, hj], rfl⟩
/-- A closure. -/
def capU : Cap → T
  | .key κ => .one (.key κ)
  | .one x => dT x
  | .ag xs => agD xs
theorem cap_is {β : Env} {V : World} {c : Cap} {v : Value} (h : (capU c).is β V v) : c.is β V v := by
  cases c with
  | key κ => exact h.1
  | one x => exact h
  | ag xs => obtain ⟨us, h1, h2⟩ := h; exact ⟨us, h1, all2_map.1 h2⟩
theorem zip_all {α : Type} {R : α → Value → Prop} {A : Act} {g : α → T} {β : Env} {V : World} (hR : ∀ c v, (g c).is β V v → R c v) : ∀ {xs : List Operand} {cs : List α}, xs.length = cs.length → (∀ e ∈ xs.zip (cs.map g), e.2.is β V (A.eval e.1)) → All2 R cs (xs.map A.eval)
  | [], [], _, _ => trivial
  | x :: xs, c :: cs, hl, h => ⟨hR _ _ (h (x, g c) (by simp)), zip_all hR (by simpa using hl) fun e he => h e (by simp only [List.map_cons, List.zip_cons_cons, List.mem_cons]; exact .inr he)⟩
  | [], _ :: _, hl, _ => by simp at hl
  | _ :: _, [], hl, _ => by simp at hl
theorem OpT.clo {f : FuncId} {xs : List Operand} {cs : List Cap} (hl : xs.length = cs.length) : OpT P ops (mkO d (.makeFunc (.func f) #[] xs.toArray) ty pos af) n (xs.zip (cs.map capU)) [] [] (.one (.clo f cs)) [] n := .runs rfl (fun h κ hκ => by
    obtain ⟨c, hc, hκ⟩ := List.mem_flatMap.1 hκ
    obtain ⟨i, hi, rfl⟩ := List.mem_iff_getElem.1 hc
    refine h (xs[i]'(by omega), capU cs[i]) (List.mem_iff_getElem.2 ⟨i, by simp; omega, by simp⟩) κ ?_
    cases hcc : cs[i] with
    | key κ' => rw [hcc] at hκ; exact hκ
    | one x => rw [hcc] at hκ; cases hκ
    | ag xs => rw [hcc] at hκ; cases hκ) fun β V w A _ h =>
  ⟨.func (.func f) #[] (xs.map A.eval).toArray, by simp [execOp, Instr.makeFunc], _, rfl, zip_all (fun c v => cap_is) hl h⟩
end
end Go.Sv
