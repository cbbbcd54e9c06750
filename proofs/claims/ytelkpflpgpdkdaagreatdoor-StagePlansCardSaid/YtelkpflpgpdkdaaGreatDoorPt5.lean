/- Part 5 of what StageOrder and StagePlans ask: for every input each returns true, and its input reads as it did. No condition. -/
import Derived.Test.YtelkpflpgpdkdaaGreatDoorPt4
namespace Go.Sv
open Go Go.RowKit

def Cap.ren (ρ : Nat → Nat) : Cap → Cap
  | .key κ => .key (ρ κ)
  | c => c
def C.ren (ρ : Nat → Nat) : C → C
  | .d x => .d x
  | .key κ => .key (ρ κ)
  | .ptr κ off => .ptr (ρ κ) off
  | .sub κ off n c => .sub (ρ κ) off n c
  | .clo f cs => .clo f (cs.map (Cap.ren ρ))
  | .mth f cs => .mth f (cs.map (Cap.ren ρ))
def U.ren (ρ : Nat → Nat) : U → U
  | .one c => .one (c.ren ρ)
  | .ag cs => .ag (cs.map (C.ren ρ))
def T.ren (ρ : Nat → Nat) : T → T
  | .one c => .one (c.ren ρ)
  | .ag cs => .ag (cs.map (C.ren ρ))
  | .tup us => .tup (us.map (U.ren ρ))
  | .opt b u => .opt b (u.ren ρ)
  | .any => .any
def Own.ren (ρ : Nat → Nat) : Own → Own
  | .box ty cs => .box ty (cs.map (C.ren ρ))
  | o => o
def renH (ρ : Nat → Nat) (H : HL) : HL := H.map fun e => (ρ e.1, e.2.ren ρ)
theorem all2_map {α β γ : Type} {R : α → β → Prop} {f : γ → α} : ∀ {l : List γ} {m : List β}, All2 R (l.map f) m ↔ All2 (fun a b => R (f a) b) l m
  | [], [] => Iff.rfl
  | _ :: l, _ :: m => and_congr Iff.rfl (all2_map (l := l) (m := m))
  | [], _ :: _ => Iff.rfl
  | _ :: _, [] => Iff.rfl
theorem all2_congr {α β : Type} {R Q : α → β → Prop} (h : ∀ a b, R a b ↔ Q a b) : ∀ {l : List α} {m : List β}, All2 R l m ↔ All2 Q l m
  | [], [] => Iff.rfl
  | _ :: _, _ :: _ => and_congr (h _ _) (all2_congr h)
  | [], _ :: _ => Iff.rfl
  | _ :: _, [] => Iff.rfl
section
variable {β : Env} {ρ : Nat → Nat} {w V : World} {v : Value}
theorem Cap.is_ren {c : Cap} : (c.ren ρ).is β w v ↔ c.is (β ∘ ρ) w v := by cases c <;> exact Iff.rfl
theorem C.is_ren {c : C} {v : Value} : (c.ren ρ).is β w v ↔ c.is (β ∘ ρ) w v := by
  cases c with
  | clo f cs => exact exists_congr fun us => and_congr Iff.rfl (all2_map.trans (all2_congr fun a b => Cap.is_ren))
  | mth f cs => exact exists_congr fun us => and_congr Iff.rfl (all2_map.trans (all2_congr fun a b => Cap.is_ren))
  | _ => exact Iff.rfl
theorem cells_ren {cs : List C} {us : List Value} : CellsC β w (cs.map (C.ren ρ)) us ↔ CellsC (β ∘ ρ) w cs us := all2_map.trans (all2_congr fun _ _ => C.is_ren)
theorem U.is_ren {t : U} {v : Value} : (t.ren ρ).is β w v ↔ t.is (β ∘ ρ) w v := by
  cases t with
  | one c => exact C.is_ren
  | ag cs => exact exists_congr fun us => and_congr Iff.rfl cells_ren
theorem T.is_ren {t : T} {v : Value} : (t.ren ρ).is β w v ↔ t.is (β ∘ ρ) w v := by
  induction t generalizing v with
  | one c => exact C.is_ren
  | ag cs => exact exists_congr fun us => and_congr Iff.rfl cells_ren
  | tup us => exact exists_congr fun _ => and_congr Iff.rfl (all2_map.trans (all2_congr fun _ _ => U.is_ren))
  | opt b u ih => exact and_congr (imp_congr Iff.rfl ih) Iff.rfl
  | any => exact Iff.rfl
theorem Own.is_ren {o : Own} : (o.ren ρ).is β V w v ↔ o.is (β ∘ ρ) V w v := by
  cases o with
  | box ty cs => exact exists_congr fun b => exists_congr fun us => and_congr Iff.rfl (and_congr Iff.rfl cells_ren)
  | _ => exact Iff.rfl
end
theorem blks_ren {β : Env} {ρ : Nat → Nat} {H : HL} : blks β (renH ρ H) = blks (β ∘ ρ) H := by
  simp only [blks, renH, List.filterMap_map]
  rfl
theorem View_ren {β : Env} {ρ : Nat → Nat} {H : HL} {S : List Nat} {w : World} : View β (renH ρ H) S w = View (β ∘ ρ) H S w := by unfold View; rw [blks_ren]
/-- Less is known, under other names. -/
theorem Hold.conv {cx : Cx} {β : Env} {n n' : Nat} {F F' : FL} {H H' : HL} {a : Act} {w : World} (h : Hold cx β n F H a w) (ρ : Nat → Nat) (h0 : ∀ κ, κ < cx.n0 → ρ κ = κ) (hn : cx.n0 ≤ n')
    (hF : ∀ t s, look F' t = some s → Bel n' s.keys ∧ look F t = some (s.ren ρ)) (hH : ∀ e ∈ H', e.1 < n' ∧ Bel n' e.2.keys ∧ (ρ e.1, e.2.ren ρ) ∈ H) (hinj : ∀ e ∈ H', ∀ e' ∈ H', e.1 ≠ e'.1 → ρ e.1 ≠ ρ e'.1) : Hold cx (β ∘ ρ) n' F' H' a w := by
  have hb : ∀ b ∈ blks (β ∘ ρ) H', b ∈ blks β H := fun b hb => by
    obtain ⟨e, he, hb⟩ := mem_blks.1 hb
    exact mem_blks.2 ⟨_, (hH e he).2.2, hb⟩
  have hV : Sub (View β H cx.S w) (View (β ∘ ρ) H' cx.S w) := hide_sub (Kept.refl [] w) fun k _ hk => ⟨by simp, fun hm => hk ((List.mem_append.1 hm).elim (fun h => List.mem_append_left _ (hb k h)) (List.mem_append_right _))⟩
  refine ⟨h.size, h.defers, hn, fun κ hκ => (congrArg β (h0 κ hκ)).trans (h.env κ hκ), h.kept, fun t s hs => ?_, ⟨fun e he => ?_, fun e he e' he' hne b h1 h2 => ?_, fun b hm => h.ow.out b (hb b hm), h.ow.lt⟩, fun b hm => h.own b (hb b hm), h.gl⟩
  · obtain ⟨h1, h2⟩ := hF t s hs
    exact ⟨h1, T.keep (fun _ _ => rfl) hV (T.is_ren.1 (h.tm t _ h2).2)⟩
  · obtain ⟨h1, h2, h3⟩ := hH e he
    exact ⟨h1, h2, Own.keep (fun _ _ => rfl) hV (fun _ _ _ h => h) (Own.is_ren.1 (h.ow.is _ h3).2.2)⟩
  · exact h.ow.apart _ (hH e he).2.2 _ (hH e' he').2.2 (hinj e he e' he' hne) b h1 h2

/-- What a function makes of its arguments, and of what one owns that it is told of. -/
def Enters (P : Program) (f : FuncId) : Prop := ∀ args w, (callFunc f args).run P w = .ok (.enter f args) w
def Con (P : Program) (f : FuncId) (args : List T) (H0 : HL) (n0 : Nat) (out : T) (H1 : HL) (n1 : Nat) : Prop :=
  Enters P f ∧ n0 ≤ n1 ∧ ∀ (β : Env) (S : List Nat) (w : World) (vs : Array Value), All2 (fun t v => t.is β (View β H0 S w) v) args vs.toList → OwnsG P β n0 S H0 w → Calls P f vs w fun e w' =>
    ∃ v β', e = .returned v ∧ Kept (blks β H0) w w' ∧ (∀ κ, κ < n0 → β' κ = β κ) ∧ Bel n1 out.keys ∧ out.is β' (View β' H1 S w') v ∧ Owns β' n1 S H1 w' ∧ ∀ b ∈ blks β' H1, b ∈ blks β H0 ∨ w.heap.size ≤ b
def Post (cx : Cx) (out : T) (H1 : HL) (n1 : Nat) (e : Ending) (w' : World) : Prop :=
  ∃ v β', e = .returned v ∧ Kept cx.X cx.w0 w' ∧ (∀ κ, κ < cx.n0 → β' κ = cx.β0 κ) ∧ Bel n1 out.keys ∧ out.is β' (View β' H1 cx.S w') v ∧ Owns β' n1 cx.S H1 w' ∧ ∀ b ∈ blks β' H1, b ∈ cx.X ∨ cx.w0.heap.size ≤ b
def frame : Nat → List T → FL
  | _, [] => []
  | i, t :: l => (i, t) :: frame (i + 1) l
theorem frame_at : ∀ {l : List T} {i t : Nat} {s : T}, look (frame i l) t = some s → ∃ j, t = i + j ∧ l[j]? = some s
  | [], _, _, _, h => by cases h
  | x :: l, i, t, s, h => by
    simp only [frame, look_cons] at h
    split at h
    · rename_i he; exact ⟨0, he.symm, h⟩
    · obtain ⟨j, h1, h2⟩ := frame_at h
      exact ⟨j + 1, by omega, h2⟩
/-- The way in. -/
theorem Con.enter {P : Program} {f : FuncId} {fn : Func} {c : Code} {args : List T} {H0 H1 : HL} {n0 n1 : Nat} {out : T} (hf : P.funcs[f]? = some fn) (hb : fn.body = some c) (hnm : (fn.name == "runtime.NumGoroutine") = false) (hn : args.length ≤ fn.ntmps) (hn1 : n0 ≤ n1) (hk : ∀ t ∈ args, Bel n0 t.keys)
    (h : ∀ cx : Cx, cx.P = P → cx.N = fn.ntmps → cx.n0 = n0 → Wk cx n0 (frame 0 args) H0 (c.wp P (bodyPost P fn (Post cx out H1 n1)))) : Con P f args H0 n0 out H1 n1 := by
  refine ⟨fun args w => by simp only [callFunc, Sem.run_bind, run_program, Result.andThen_ok, hf, hb, hnm, Option.isNone, Bool.false_eq_true, if_false, Sem.run_pure], hn1, fun β S w vs hv hO => calls_of_wp hf hb ?_⟩
  have hlen : args.length = vs.size := by simpa using hv.len
  refine h ⟨P, S, w, n0, β, blks β H0, fn.ntmps⟩ rfl rfl rfl β _ w ⟨by simp; omega, rfl, Nat.le_refl _, fun _ _ => rfl, Kept.refl _ _, fun t s hs => ?_, hO.toOwns, fun b hb => .inl hb, hO.gl⟩
  obtain ⟨j, rfl, hj⟩ := frame_at hs
  obtain ⟨v, h1, h2⟩ := hv.get hj
  refine ⟨hk s (List.mem_of_getElem? hj), ?_⟩
  have hjv : j < vs.size := by
    have := (List.getElem?_eq_some_iff.1 hj).1
    omega
  have : (vs ++ Array.replicate (fn.ntmps - vs.size) undef).getD (0 + j) undef = v := by
    rw [Nat.zero_add, Array.getD_eq_getD_getElem?, Array.getElem?_append_left hjv]
    have : vs[j]? = some v := by simpa using h1
    rw [this]; rfl
  show s.is β _ ((vs ++ Array.replicate (fn.ntmps - vs.size) undef).getD (0 + j) undef)
  rw [this]
  exact h2

/-- How a type lies in memory: a struct or not, and how many cells. -/
def shp (P : Program) (ty : TypeId) : Option (Bool × Nat) := match P.underlying ty, P.info? ty with
  | some (.struct _), some i => some (true, i.size)
  | some (.array _ _), some i => some (true, i.size)
  | some _, some i => some (false, i.size)
  | _, _ => none
theorem load_many {P : Program} {ty k : Nat} {w : World} {b o : Nat} {us : List Value} (h : shp P ty = some (true, k)) (hl : Lie w b o us) (hk : us.length = k) : (loadVar ty ⟨b, o, none⟩).run P w = .ok (.agg us.toArray) w := by
  unfold shp at h
  split at h
  · rename_i d i hu hi
    cases h
    exact run_loadVar_mid w b o ty us _ hl hu rfl (by rw [hi, hk]; rfl)
  · rename_i d i hu hi
    cases h
    exact run_loadVar_mid w b o ty us _ hl hu rfl (by rw [hi, hk]; rfl)
  · simp at h
  · cases h
theorem load_one {P : Program} {ty k : Nat} {w : World} {b o : Nat} {u : Value} (h : shp P ty = some (false, k)) (hl : w.cell? ⟨b, o, none⟩ = some u) : (loadVar ty ⟨b, o, none⟩).run P w = .ok u w := by
  unfold shp at h
  split at h
  · cases h
  · cases h
  · rename_i d i h1 h2 hu hi
    have hagg : (isAgg ty).run P w = .ok false w := by
      unfold isAgg
      rw [Sem.run_bind, run_underlying hu w]
      cases d <;> simp_all
    simp [loadVar, Sem.run_bind, hagg, hl]
  · cases h
def resU (P : Program) (F : FL) (H : HL) : ResultVar → Option U
  | .tmp t => match look F t with
    | some (.one c) => some (.one c)
    | some (.ag cs) => some (.ag cs)
    | _ => none
  | .cell p ty => match look F p with
    | some (.one (.key κ)) => match look H κ with
      | some (.box _ cs) => match shp P ty with
        | some (true, k) => if cs.length = k then some (.ag cs) else none
        | some (false, _) => match cs with
          | [c] => some (.one c)
          | _ => none
        | none => none
      | _ => none
    | _ => none
def U.t : U → T
  | .one c => .one c
  | .ag cs => .ag cs
def rv1 (tmps : Array Value) : ResultVar → Sem Value
  | .tmp t => pure (tmps.getD t undef)
  | .cell a t => do loadVar t (← asAddr (tmps.getD a undef))
theorem lie_all {w : World} {b : Nat} {us : List Value} {ty : TypeId} (h : w.heap[b]? = some (.cells us.toArray ty (0, 0))) : Lie w b 0 us := fun i u hi => by
  rw [Nat.zero_add, cell_of_row _ _ _ _ _ _ h]
  simpa using hi
theorem rv_run {cx : Cx} {β : Env} {n : Nat} {F : FL} {H : HL} {a : Act} {w : World} (h : Hold cx β n F H a w) {r : ResultVar} {u : U} (hr : resU cx.P F H r = some u) : ∃ v, (rv1 a.tmps r).run cx.P w = .ok v w ∧ u.is β (View β H cx.S w) v := by
  cases r with
  | tmp t =>
    simp only [resU] at hr
    cases hl : look F t with
    | none => rw [hl] at hr; cases hr
    | some s =>
      rw [hl] at hr
      have := (h.tm t s hl).2
      cases s with
      | one c => cases hr; exact ⟨_, rfl, this⟩
      | ag cs => cases hr; exact ⟨_, rfl, this⟩
      | tup us => cases hr
      | opt b u => cases hr
      | any => cases hr
  | cell p ty =>
    simp only [resU] at hr
    split at hr
    · rename_i κ hl
      split at hr
      · rename_i ty' cs hl2
        have h1 := (h.tm p _ hl).2.1
        obtain ⟨b, us, h2, h3, h4⟩ := (h.ow.is _ (look_mem hl2)).2.2
        rw [h2] at h1
        have hrun : ∀ v, (loadVar ty ⟨b, 0, none⟩).run cx.P w = .ok v w → (rv1 a.tmps (.cell p ty)).run cx.P w = .ok v w := fun v hv => by
          simp only [rv1, Sem.run_bind, h1, asAddr, Sem.run_pure, Result.andThen_ok, hv]
        split at hr
        · rename_i k hs
          split at hr
          · rename_i hk
            cases hr
            exact ⟨_, hrun _ (load_many hs (lie_all h3) (by rw [← hk]; exact h4.len.symm)), us, rfl, h4⟩
          · cases hr
        · rename_i k hs
          split at hr
          · cases hr
            cases us with
            | nil => exact h4.elim
            | cons u us => exact ⟨u, hrun _ (load_one hs (lie_all h3 0 u rfl)), h4.1⟩
          · cases hr
        · cases hr
      · cases hr
    · cases hr
theorem results_list {fn : Func} {tmps : Array Value} : results fn tmps = (do let vs ← fn.results.mapM (rv1 tmps); pure (if h : vs.size = 1 then vs[0] else .tuple vs)) := by
  unfold results
  congr 1
theorem rvs_run {cx : Cx} {β : Env} {n : Nat} {F : FL} {H : HL} {a : Act} {w : World} (h : Hold cx β n F H a w) : ∀ {rs : List ResultVar} {us : List U}, rs.map (resU cx.P F H) = us.map some → ∃ vs, (rs.mapM (rv1 a.tmps)).run cx.P w = .ok vs w ∧ All2 (fun t u => U.is β (View β H cx.S w) t u) us vs
  | [], [], _ => ⟨[], rfl, trivial⟩
  | r :: rs, u :: us, he => by
    simp only [List.map_cons, List.cons.injEq] at he
    obtain ⟨v, h1, h2⟩ := rv_run h he.1
    obtain ⟨vs, h3, h4⟩ := rvs_run h he.2
    exact ⟨v :: vs, by simp [List.mapM_cons, h1, h3], h2, h4⟩
  | [], _ :: _, he => by cases he
  | _ :: _, [], he => by cases he
/-- What is handed back. -/
def outT : List U → T
  | [u] => u.t
  | us => .tup us
theorem res_run {cx : Cx} {β : Env} {n : Nat} {F : FL} {H : HL} {a : Act} {w : World} (h : Hold cx β n F H a w) {fn : Func} {us : List U} (hr : fn.results.toList.map (resU cx.P F H) = us.map some) : ∃ v, (results fn a.tmps).run cx.P w = .ok v w ∧ (outT us).is β (View β H cx.S w) v := by
  obtain ⟨vs, h1, h2⟩ := rvs_run h hr
  have h3 : (fn.results.mapM (rv1 a.tmps)).run cx.P w = .ok vs.toArray w := by
    have : fn.results.mapM (rv1 a.tmps) = List.toArray <$> fn.results.toList.mapM (rv1 a.tmps) := by
      rw [Array.mapM_eq_mapM_toList]
    rw [this, Sem.run_map, h1]; rfl
  rw [results_list, Sem.run_bind, h3]
  match us, vs, h2 with
  | [], [], _ => exact ⟨_, rfl, [], rfl, trivial⟩
  | [u], [v], h2 =>
    refine ⟨v, rfl, ?_⟩
    cases u with
    | one c => exact h2.1
    | ag cs => exact h2.1
  | u :: u' :: us, v :: v' :: vs, h2 => exact ⟨.tuple (v :: v' :: vs).toArray, by simp, _, rfl, h2⟩
/-- The way out. -/
theorem W.fin {cx : Cx} {n : Nat} {F : FL} {H : HL} {fn : Func} {us : List U} {H1 : HL} {n1 : Nat} (hr : fn.results.toList.map (resU cx.P F H) = us.map some) (hk : Bel n1 (outT us).keys) (hH : ∀ e ∈ H1, e.1 < n1 ∧ Bel n1 e.2.keys ∧ e ∈ H) : Wk cx n F H (bodyPost cx.P fn (Post cx (outT us) H1 n1) .ret) := fun β a w h => by
  obtain ⟨v, h1, h2⟩ := res_run h hr
  have hb : ∀ b ∈ blks β H1, b ∈ blks β H := fun b hb => by
    obtain ⟨e, he, hb⟩ := mem_blks.1 hb
    exact mem_blks.2 ⟨_, (hH e he).2.2, hb⟩
  have hV : Sub (View β H cx.S w) (View β H1 cx.S w) := hide_sub (Kept.refl [] w) fun k _ hk => ⟨by simp, fun hm => hk ((List.mem_append.1 hm).elim (fun h => List.mem_append_left _ (hb k h)) (List.mem_append_right _))⟩
  exact ⟨h.defers, v, h1, v, β, rfl, h.kept, h.env, hk, T.keep (fun _ _ => rfl) hV h2, ⟨fun e he => ⟨(hH e he).1, (hH e he).2.1, Own.keep (fun _ _ => rfl) hV (fun _ _ _ h => h) (h.ow.is e (hH e he).2.2).2.2⟩,
    fun e he e' he' => h.ow.apart e (hH e he).2.2 e' (hH e' he').2.2, fun b hm => h.ow.out b (hb b hm), h.ow.lt⟩, fun b hm => h.own b (hb b hm)⟩
end Go.Sv
namespace Go.Sv
open Go Go.RowKit

inductive ZK where
  | int (k : IntKind) | str | bool | slice | ptr | map | func
def ZK.val : ZK → Value
  | .int k => .int k 0 | .str => .string ByteArray.empty | .bool => .bool false | .slice => .slice none 0 0 | .ptr => .pointer none | .map => .map none | .func => .nilFunc
theorem ZK.one (z : ZK) : z.val.oneCell' = true := by cases z <;> rfl
def zkB : ZK → Value → Bool
  | .int k, .int k' n => decide (k = k') && n == 0
  | .str, .string s => s.size == 0
  | .bool, .bool b => !b
  | .slice, .slice none n c => Nat.beq n 0 && Nat.beq c 0
  | .ptr, .pointer none => true
  | .map, .map none => true
  | .func, .nilFunc => true
  | _, _ => false
def zksB : List ZK → List Value → Bool
  | [], [] => true
  | z :: l, v :: m => zkB z v && zksB l m
  | _, _ => false
def pairsB : List (Nat × Nat) → List (Nat × Nat) → Bool
  | [], [] => true
  | a :: l, b :: m => Nat.beq a.1 b.1 && Nat.beq a.2 b.2 && pairsB l m
  | _, _ => false
theorem zkB_eq {z : ZK} {v : Value} (h : zkB z v = true) : v = z.val := by
  unfold zkB at h
  split at h
  · simp only [Bool.and_eq_true, decide_eq_true_eq, beq_iff_eq] at h; obtain ⟨rfl, rfl⟩ := h; rfl
  · rename_i s
    have : s = ByteArray.empty := by
      have : s.size = 0 := by simpa using h
      obtain ⟨d⟩ := s
      have : d.size = 0 := this
      have : d = #[] := Array.eq_empty_of_size_eq_zero this
      subst this; rfl
    rw [this]; rfl
  · rename_i b; cases b <;> first | rfl | cases h
  · rename_i n c
    simp only [Bool.and_eq_true] at h
    rw [Nat.eq_of_beq_eq_true h.1, Nat.eq_of_beq_eq_true h.2]; rfl
  · rfl
  · rfl
  · rfl
  · cases h
theorem zksB_eq : ∀ {l : List ZK} {m : List Value}, zksB l m = true → m = l.map ZK.val
  | [], [], _ => rfl
  | z :: l, v :: m, h => by
    simp only [zksB, Bool.and_eq_true] at h
    rw [zkB_eq h.1, zksB_eq h.2]; rfl
  | [], _ :: _, h => by cases h
  | _ :: _, [], h => by cases h
theorem pairsB_eq : ∀ {l m : List (Nat × Nat)}, pairsB l m = true → l = m
  | [], [], _ => rfl
  | (a, b) :: l, (c, d) :: m, h => by
    simp only [pairsB, Bool.and_eq_true] at h
    rw [Nat.eq_of_beq_eq_true h.1.1, Nat.eq_of_beq_eq_true h.1.2, pairsB_eq h.2]
  | [], _ :: _, h => by cases h
  | _ :: _, [], h => by cases h
inductive LK where
  | prim | str | int (k : IntKind) | struct | array (e : Nat) | slice (e : Nat) | ptr (e : Nat) | map (k e : Nat)
def LK.agg : LK → Bool
  | .struct => true
  | .array _ => true
  | _ => false
def lkB : LK → TypeDesc → List (Nat × Nat) → Bool
  | .struct, .struct fs, l => pairsB (fs.toList.map fun f => (f.offset, f.type)) l
  | .array e, .array _ e', _ => Nat.beq e e'
  | .slice e, .slice e', _ => Nat.beq e e'
  | .ptr e, .pointer e', _ => Nat.beq e e'
  | .map k e, .map k' e', _ => Nat.beq k k' && Nat.beq e e'
  | .prim, .bool, _ => true
  | .int k, .int k', _ => decide (k = k')
  | .str, .string, _ => true
  | .prim, .func .., _ => true
  | _, _, _ => false
/-- How a type lies in memory: what it is; its cells; the fields' places and types; its zero. -/
structure Lay where
  kind : LK
  size : Nat
  flds : List (Nat × Nat)
  zero : List ZK
def fitLay (P : Program) (t : Nat) (l : Lay) : Bool := match P.underlying t, P.info? t with
  | some d, some i => Nat.beq i.size l.size && Nat.ble i.bytes 4096 && lkB l.kind d l.flds && (match i.zero with
      | some (.agg cs) => l.kind.agg && zksB l.zero cs.toList
      | some v => !l.kind.agg && zksB l.zero [v]
      | none => false)
  | _, _ => false
class Lays (P : Program) where
  L : List (Nat × Lay)
  ok : (L.all fun e => fitLay P e.1 e.2) = true
abbrev lay (P : Program) [Lays P] (t : Nat) : Option Lay := look (Lays.L P) t
section
variable {P : Program} [Lays P] {t : Nat} {l : Lay}
theorem lay_all (h : lay P t = some l) : ∃ d i z, P.underlying t = some d ∧ P.info? t = some i ∧ (i.size = l.size ∧ i.bytes ≤ 4096) ∧ lkB l.kind d l.flds = true ∧ i.zero = some z ∧ z.cells.toList = l.zero.map ZK.val ∧ (l.kind.agg = true ↔ ∃ cs, z = .agg cs) := by
  have : fitLay P t l = true := List.all_eq_true.1 (Lays.ok (P := P)) _ (look_mem h)
  unfold fitLay at this
  split at this
  · rename_i d i hd hi
    simp only [Bool.and_eq_true] at this
    obtain ⟨⟨⟨h1, h1b⟩, h2⟩, h3⟩ := this
    cases hz : i.zero with
    | none => rw [hz] at h3; cases h3
    | some z =>
      rw [hz] at h3
      refine ⟨d, i, z, hd, hi, ⟨Nat.eq_of_beq_eq_true h1, Nat.le_of_ble_eq_true h1b⟩, h2, hz, ?_, ?_⟩
      · cases z <;> simp only [Bool.and_eq_true] at h3 <;> exact zksB_eq h3.2
      · cases z <;> simp_all
  · cases this
theorem lay_shp (h : lay P t = some l) : shp P t = some (l.kind.agg, l.size) := by
  obtain ⟨d, i, z, hd, hi, ⟨h1, _⟩, h2, _⟩ := lay_all h
  obtain ⟨k, n, f, zs⟩ := l
  unfold shp
  rw [hd, hi]
  cases k <;> cases d <;> simp_all [lkB, LK.agg]
theorem lay_struct {k : Nat} {fl : List (Nat × Nat)} {z : List ZK} (h : lay P t = some ⟨.struct, k, fl, z⟩) : ∃ fs, P.underlying t = some (.struct fs) ∧ fs.toList.map (fun f => (f.offset, f.type)) = fl := by
  obtain ⟨d, i, z, hd, hi, ⟨h1, _⟩, h2, _⟩ := lay_all h
  cases d <;> simp only [lkB] at h2 <;> first | (cases h2; done) | exact ⟨_, hd, pairsB_eq h2⟩
theorem lay_slice {k e : Nat} {fl : List (Nat × Nat)} {z : List ZK} (h : lay P t = some ⟨.slice e, k, fl, z⟩) : P.underlying t = some (.slice e) := by
  obtain ⟨d, i, z, hd, hi, ⟨h1, _⟩, h2, _⟩ := lay_all h
  cases d <;> simp only [lkB] at h2 <;> first | (cases h2; done) | rw [hd, Nat.eq_of_beq_eq_true h2]
theorem lay_str {k : Nat} {fl : List (Nat × Nat)} {z : List ZK} (h : lay P t = some ⟨.str, k, fl, z⟩) : P.underlying t = some .string := by
  obtain ⟨d, i, z, hd, hi, _, h2, _⟩ := lay_all h
  cases d <;> simp only [lkB] at h2 <;> first | (cases h2; done) | exact hd
theorem lay_int {k : Nat} {ki : IntKind} {fl : List (Nat × Nat)} {z : List ZK} (h : lay P t = some ⟨.int ki, k, fl, z⟩) : P.underlying t = some (.int ki) := by
  obtain ⟨d, i, z, hd, hi, _, h2, _⟩ := lay_all h
  cases d <;> simp only [lkB] at h2 <;> first | (cases h2; done) | (simp only [decide_eq_true_eq] at h2; rw [hd, h2])
theorem lay_size (h : lay P t = some l) (w : World) : (sizeOf t).run P w = .ok l.size w := by
  obtain ⟨d, i, z, hd, hi, ⟨h1, _⟩, h2, _⟩ := lay_all h
  simp [sizeOf, typeInfo, Sem.run_bind, hi, h1]
theorem lay_zero (h : lay P t = some l) (w : World) : ∃ z, (zeroValue t).run P w = .ok z w ∧ z.cells.toList = l.zero.map ZK.val := by
  obtain ⟨d, i, z, hd, hi, _, _, hz, hc, _⟩ := lay_all h
  exact ⟨z, by simp [zeroValue, typeInfo, Sem.run_bind, hi, hz], hc⟩
end
end Go.Sv
