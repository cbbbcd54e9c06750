/- Part 15 of what TransFills asks: for every input it returns true, and its input reads as it did. No condition. -/
import Derived.Test.YtddddgbboipfeaaGreatDoorPt14
namespace Go.Sv
open Go Go.RowKit

theorem row_sl {β : Env} {V V' w : World} {v : Value} {e k : Nat} {ls : List (List D)} (hV : Sub V V') (ho : Own.is β V w (.row e k ls) v) (hb : ∀ g, blk v = some g → V'.heap[g]? = w.heap[g]?) : (sl k ls).is V' v := by
  obtain ⟨hk, hrow⟩ := ho
  rcases hrow with ⟨h1, rfl⟩ | ⟨g, c, cur, us, h1, h2, h3, h4, h5, h6, h7⟩
  · rw [h1]
    exact ⟨none, 0, rfl, Nat.le_refl _, by unfold maxLen; decide, by simp⟩
  · have hvis : V'.heap[g]? = some (.cells cur e) := (hb g (by rw [h1]; rfl)).trans h2
    rw [h1]
    refine ⟨_, c, rfl, h3, h4, fun j l hj => ?_⟩
    have hlk := hk l (List.mem_of_getElem? hj)
    refine ⟨hlk, g, 0, (us.drop (j * k)).take k, rfl, fun i u hi => ?_, ?_⟩
    · rw [cell_of_row _ _ _ _ _ _ hvis]
      rw [List.getElem?_take] at hi
      split at hi
      · rw [List.getElem?_drop, ← h6, List.getElem?_take] at hi
        split at hi
        · simpa using hi
        · cases hi
      · cases hi
    · have h8 : Cells _ ((ls.flatten.drop (j * k)).take k) ((us.drop (j * k)).take k) := All2.take k (All2.drop (j * k) (Cells.mono hV h7))
      have h9 : (ls.flatten.drop (j * k)).take k = l := by
        obtain ⟨l1, l2, rfl, rfl⟩ := split_at hj
        rw [List.flatten_append, List.flatten_cons, List.drop_append, List.drop_of_length_le (by rw [flat_len fun l hl => hk l (List.mem_append_left _ hl)]; exact Nat.le_refl _), flat_len (fun l hl => hk l (List.mem_append_left _ hl)), Nat.sub_self, List.nil_append, List.drop_zero, ← hlk, List.take_left]
      rwa [h9] at h8
theorem Con.data {P : Program} {f : FuncId} {args : List T} {e k : Nat} {ls : List (List D)} (h : Con P f args [] 0 (.one (.key 0)) [(0, .row e k ls)] 1) : ∀ n, Con P f args [] n (dT (sl k ls)) [] n :=
  Con.up rfl ⟨h.1, Nat.le_refl _, fun β S w vs hv hO => (h.2.2 β S w vs hv hO).mono fun _ w' ⟨v, β', h1, h2, h3, h4, h5, h6, h7⟩ => by
    obtain ⟨_, _, h8⟩ := h6.is (0, _) (List.mem_cons_self ..)
    have hv : v = β' 0 := h5.1
    refine ⟨v, β, h1, h2, fun _ _ => rfl, bel0 rfl, ?_, ⟨nofun, nofun, nofun, h6.lt⟩, fun b hb => by cases hb⟩
    subst hv
    refine row_sl (V := View β' [(0, Own.row e k ls)] S w') (hide_sub (Kept.refl [] w') fun q _ hq => ⟨by simp, fun hm => hq (List.mem_append_right _ hm)⟩) h8 fun g hg => ?_
    have hn := h6.out g (mem_blks.2 ⟨_, List.mem_cons_self .., hg⟩)
    show (hide ([] ++ S) w').heap[g]? = _
    rw [hide_at, List.nil_append]
    cases w'.heap[g]? with
    | none => rfl
    | some x => simp [hn]⟩
section
variable {P : Program} [Lays P] {ops : Array Oper} {n : Nat} {d : Option Tmp} {dd : Tmp} {ty t : TypeId} {pos : String} {af : Array Edge} {x y : Operand} {κ e k we : Nat} {fl : List (Nat × Nat)} {z : List ZK} {ls ls2 : List (List D)} {le : Lay}
/-- append of whatever row of data. -/
theorem OpT.appendA (hb : ls.length + ls2.length ≤ 34359738368) (ht : lay P t = some ⟨.slice e, we, fl, z⟩) (he : lay P e = some le) (hk : le.size = k) (hz : le.zero.length = k) : OpT P ops (mkO d (.call ⟨.builtin .append, #[y, x], #[t, t]⟩) ty pos af) n [(y, .one (.key κ)), (x, dT (sl k ls2))] [] [(κ, .row e k ls)] (.one (.key n)) [(n, .row e k (ls ++ ls2))] (n + 1) := by
  by_cases hm : 0 < ls2.length
  · exact .append ht he hk hz (by simpa using hm) hb
  obtain rfl : ls2 = [] := List.eq_nil_of_length_eq_zero (by omega)
  rw [List.append_nil]
  refine ⟨Nat.le_succ n, fun β S w A K htin hbl hO hK => ?_⟩
  refine (OpT.appendE (P := P) (ops := ops) (n := n) (d := d) (ty := ty) (pos := pos) (af := af) (q := e) (k := k) (ls := ls) ht he).run β S w A K htin hbl hO fun v β' w' k1 k2 k3 k4 k5 k6 => ?_
  obtain ⟨β2, hβ⟩ : ∃ β2 : Env, β2 = fun i => if i = n then β' κ else β' i := ⟨_, rfl⟩
  have h1 : β2 n = β' κ := by rw [hβ]; exact if_pos rfl
  have h2 : ∀ i, i < n → β2 i = β' i := fun i hi => by rw [hβ]; exact if_neg (by omega)
  have h3 : blks β2 ([] ++ [(n, Own.row e k ls)]) = blks β' ([(κ, Own.row e k ls)] ++ []) := by show List.filterMap _ [_] = List.filterMap _ [_]; simp only [List.filterMap_cons, h1, List.filterMap_nil]
  obtain ⟨h4, h5, h6⟩ := k5.is (κ, _) (List.mem_cons_self ..)
  refine hK v β2 w' ⟨k1.os, k1.tape, k1.output, k1.size, fun q hq _ => k1.block q hq nofun⟩ (fun i hi => (h2 i hi).trans (k2 i hi)) (fun i hi => by rw [List.mem_singleton.1 hi]; exact Nat.lt_succ_self n) ⟨k4.1.trans h1.symm, k4.2⟩ ⟨fun f hf => ?_, fun f hf f' hf' hne => ?_, fun b hm => k5.out b (h3 ▸ hm), k5.lt⟩ fun b hm => ?_
  · cases List.mem_singleton.1 hf
    refine ⟨Nat.lt_succ_self n, nofun, ?_⟩
    show Own.is β2 (hide (blks β2 ([] ++ [(n, Own.row e k ls)]) ++ S) w') w' _ (β2 n)
    rw [h1, h3]
    exact h6
  · cases List.mem_singleton.1 hf
    cases List.mem_singleton.1 hf'
    exact absurd rfl hne
  · have hm' : b ∈ blks β' ([(κ, Own.row e k ls)] ++ []) := h3 ▸ hm
    refine .inl ?_
    obtain ⟨f, hf, hfb⟩ := mem_blks.1 hm'
    cases List.mem_singleton.1 hf
    exact mem_blks.2 ⟨_, List.mem_cons_self .., by rw [← k2 κ h4]; exact hfb⟩
variable {F : FL} {H H2 : HL} {acc : List Acc} {l : List Oper} {Fin : Nat → FL → HL → List Acc → Prop}
theorem Ch.apA (hF : Tin F [(y, .one (.key κ)), (x, dT (sl k ls2))] := by exact ⟨rfl, rfl, trivial⟩) (hO : Out κ (.row e k ls) H H2 := by (repeat (first | exact Out.here (by rfl) | (apply Out.there; rfl)))) (ht : lay P t = some ⟨.slice e, we, fl, z⟩ := by rfl) (he : lay P e = some le := by rfl) (hk : le.size = k := by rfl) (hz : le.zero.length = k := by rfl) (hb : ls.length + ls2.length ≤ 34359738368)
    (r : Ch P ops Fin l (n + 1) ((dd, .one (.key n)) :: F) ((n, .row e k (ls ++ ls2)) :: H2) (acc ++ [Rec.acc ⟨[(y, .one (.key κ)), (x, dT (sl k ls2))], [], [(κ, .row e k ls)], .one (.key n), [(n, .row e k (ls ++ ls2))], n, n + 1⟩ (some dd)])) : Ch P ops Fin (mkO (some dd) (.call ⟨.builtin .append, #[y, x], #[t, t]⟩) ty pos af :: l) n F H acc :=
  .step _ [] _ _ _ _ (.appendA hb ht he hk hz) hF.all (fun f hf => by rw [List.nil_append, List.mem_singleton] at hf; subst hf; exact hO.mem.1) _ (OutL.upd (l' := [(n, .row e k (ls ++ ls2))]) (.cons hO .nil)) r
end
end Go.Sv
namespace Go.Sv
open Go Go.RowKit

/-- Whatever text. -/
def strA : D := ⟨fun _ v => ∃ s, v = .string s, fun _ h => h, fun ⟨_, h⟩ => h ▸ rfl⟩
/-- At most m texts. -/
def strsU (m : Nat) : D where
  is w v := ∃ l : List D, l.length ≤ m ∧ (sl 1 (l.map fun x => [x])).is w v
  mono := by rintro w w' v hS ⟨l, h1, h2⟩; exact ⟨l, h1, (sl _ _).mono hS h2⟩
  one := by rintro w v ⟨_, _, h⟩; exact (sl _ _).one h
theorem strsU_up {m m' : Nat} (h : m ≤ m') {w : World} {v : Value} (hv : (strsU m).is w v) : (strsU m').is w v := by
  obtain ⟨l, h1, h2⟩ := hv
  exact ⟨l, Nat.le_trans h1 h, h2⟩
section
variable {P : Program} {ops : Array Oper} {n : Nat} {d : Option Tmp} {ty : TypeId} {pos : String} {af : Array Edge} {x : Operand}
theorem OpT.moveW {a b : D} (hw : ∀ w v, a.is w v → b.is w v) : OpT P ops (mkO d (.move x) ty pos af) n [(x, dT a)] [] [] (dT b) [] n := .runs rfl (fun _ => bel0 rfl) fun _ _ _ _ _ h => ⟨_, rfl, hw _ _ (in1 h)⟩
theorem OpT.assignW {a b : D} (hw : ∀ w v, a.is w v → b.is w v) : OpT P ops (mkO d (.assign x) ty pos af) n [(x, dT a)] [] [] (dT b) [] n := .runs rfl (fun _ => bel0 rfl) fun _ _ _ _ _ h => ⟨_, rfl, hw _ _ (in1 h)⟩
variable {cx : Cx} {F : FL} {H : HL} {K : Act → World → Prop}
/-- Less is known of a slot. -/
theorem W.less (t : Nat) {a : D} (b : D) (ht : look F t = some (dT a)) (hw : ∀ w v, a.is w v → b.is w v) (h : Wk cx n ((t, dT b) :: F) H K) : Wk cx n F H K := fun β A w hh => h β A w ⟨hh.size, hh.defers, hh.le, hh.env, hh.kept, fun t' s hs => by
  rw [look_cons] at hs
  split at hs
  · rename_i he
    simp only at he
    subst he
    cases hs
    exact ⟨bel0 rfl, hw _ _ (hh.tm t _ ht).2⟩
  · exact hh.tm t' s hs, hh.ow, hh.own, hh.gl⟩
/-- What a slot's texts are. -/
theorem W.opn (t : Nat) {m : Nat} (ht : look F t = some (dT (strsU m))) (h : ∀ l : List D, l.length ≤ m → Wk cx n ((t, dT (sl 1 (l.map fun x => [x]))) :: F) H K) : Wk cx n F H K := fun β A w hh => by
  obtain ⟨l, h1, h2⟩ := (hh.tm t _ ht).2
  refine h l h1 β A w ⟨hh.size, hh.defers, hh.le, hh.env, hh.kept, fun t' s hs => ?_, hh.ow, hh.own, hh.gl⟩
  rw [look_cons] at hs
  split at hs
  · rename_i he
    simp only at he
    subst he
    cases hs
    exact ⟨bel0 rfl, h2⟩
  · exact hh.tm t' s hs
end
section
variable {cx : Cx} {n n' : Nat} {F : FL} {H : HL} {Q : Exit → Act → World → Prop} {K : Act → World → Prop} {c : Code}
/-- What holds where two ways meet. -/
def Mid (cx : Cx) (n : Nat) (F : FL) (H : HL) : Act → World → Prop := fun a w => ∃ β, Hold cx β n F H a w
/-- A statement whose ways meet behind it: dF and dH turn, Fk and Hk stay. -/
theorem W.mid (n' : Nat) (dF Fk : FL) (dH Hk : HL) (_ : SubF F Fk := by (repeat (first | exact SubF.nil | refine SubF.cons rfl ?_))) (_ : SubH H Hk := by (repeat (first | exact SubH.nil | refine SubH.cons rfl ?_))) (h1 : Wk cx n F H (c.wp cx.P (Exit.then (Mid cx n' (dF ++ Fk) (dH ++ Hk)) Q))) (h2 : Wk cx n' (dF ++ Fk) (dH ++ Hk) K) : Wk cx n F H (c.wp cx.P (Exit.then K Q)) := fun β a w hh => wp_mono (h1 β a w hh) fun e A' w' hq => by
  cases e with
  | normal => obtain ⟨β', h⟩ := hq; exact h2 β' _ _ h
  | _ => exact hq
theorem W.meet {F' : FL} {H' : HL} (hF : SubF F F' := by (repeat (first | exact SubF.nil | refine SubF.cons rfl ?_))) (hH : SubH H H' := by (repeat (first | exact SubH.nil | refine SubH.cons rfl ?_))) (h0 : Nat.ble cx.n0 n' = true := by rfl)
    (hb : belF n' F' := by (repeat (first | exact belF_nil | refine belF_cons (by first | exact bel0 rfl | exact bel0 agD_keys | exact belR (by rfl)) ?_))) (hb' : belH n' H' := by (repeat (first | exact belH_nil | refine belH_cons (blt_of (by rfl)) (by first | exact bel0 rfl | exact bel0 agD_keys | exact belR (by rfl)) ?_))) : Wk cx n F H (Mid cx n' F' H') :=
  fun β _ _ h => ⟨β, h.weak (Nat.le_of_ble_eq_true h0) hF hH hb hb'⟩
end
/-- A function of data, shown in the library's words. -/
theorem Con.raw {P : Program} {f : FuncId} {args : List T} {x : D} (hE : Enters P f) (h : ∀ (β : Env) (S : List Nat) (w : World) (vs : Array Value), All2 (fun t v => t.is β (hide S w) v) args vs.toList → Gl P (hide S w) → Calls P f vs w fun e w' => ∃ v, e = .returned v ∧ Kept [] w w' ∧ x.is (hide S w') v) : ∀ n, Con P f args [] n (dT x) [] n :=
  Con.up rfl ⟨hE, Nat.le_refl _, fun β S w vs hv hO => (h β S w vs hv hO.gl).mono fun _ w' ⟨v, h1, h2, h3⟩ => ⟨v, β, h1, h2, fun _ _ => rfl, bel0 rfl, h3, ⟨nofun, nofun, nofun, fun b hb => Nat.lt_of_lt_of_le (hO.lt b hb) h2.size⟩, fun b hb => by cases hb⟩⟩
/-- Less is told of what a function makes. -/
theorem Con.less {P : Program} {f : FuncId} {args : List T} {H0 H1 : HL} {n0 n1 : Nat} {x y : D} (hw : ∀ w v, x.is w v → y.is w v) (h : Con P f args H0 n0 (dT x) H1 n1) : Con P f args H0 n0 (dT y) H1 n1 :=
  ⟨h.1, h.2.1, fun β S w vs hv hO => (h.2.2 β S w vs hv hO).mono fun _ _ ⟨v, β', h1, h2, h3, _, h5, h6, h7⟩ => ⟨v, β', h1, h2, h3, bel0 rfl, hw _ _ h5, h6, h7⟩⟩
/-- Less is told of what a function takes. -/
inductive ArgW : List T → List T → Prop
  | nil : ArgW [] []
  | same {t : T} {l m : List T} (h : ArgW l m) : ArgW (t :: l) (t :: m)
  | less {a b : D} {l m : List T} (hw : ∀ w v, a.is w v → b.is w v) (h : ArgW l m) : ArgW (dT a :: l) (dT b :: m)
theorem ArgW.is {β : Env} {w : World} {l m : List T} (h : ArgW l m) : ∀ {vs : List Value}, All2 (fun t v => T.is β w t v) l vs → All2 (fun t v => T.is β w t v) m vs := by
  induction h with
  | nil => exact fun h => h
  | same _ ih => intro vs; cases vs with
    | nil => exact fun h => h
    | cons v vs => exact fun h => ⟨h.1, ih h.2⟩
  | less hw _ ih => intro vs; cases vs with
    | nil => exact fun h => h
    | cons v vs => exact fun h => ⟨hw _ _ h.1, ih h.2⟩
theorem Con.arg {P : Program} {f : FuncId} {args args' : List T} {H0 H1 : HL} {n0 n1 : Nat} {out : T} (h : Con P f args' H0 n0 out H1 n1) (ha : ArgW args args') : Con P f args H0 n0 out H1 n1 :=
  ⟨h.1, h.2.1, fun β S w vs hv hO => h.2.2 β S w vs (ha.is hv) hO⟩
theorem nil_strsU {h1 : Value.oneCell' (.slice none 0 0) = true} (w : World) (v : Value) (h : (lit (.slice none 0 0) h1).is w v) : (strsU 0).is w v := ⟨[], Nat.le_refl _, none, 0, h, Nat.le_refl _, by unfold maxLen; decide, by simp⟩
theorem sl_less1 {k : Nat} {l l' : List D} (hl : l'.length = l.length) (h : ∀ w us, Cells w l us → Cells w l' us) (w : World) (v : Value) (hv : (sl k [l]).is w v) : (sl k [l']).is w v := by
  obtain ⟨a, c, h1, h2, h3, h4⟩ := hv
  refine ⟨a, c, h1, h2, h3, fun j x hx => ?_⟩
  obtain ⟨rfl, rfl⟩ : j = 0 ∧ x = l' := by
    cases j with
    | zero => simpa [eq_comm] using hx
    | succ j => simp at hx
  obtain ⟨h5, b, o, us, h6, h7, h8⟩ := h4 0 l rfl
  exact ⟨hl.trans h5, b, o, us, h6, h7, h _ _ h8⟩
end Go.Sv
namespace Go.Sv
open Go Go.RowKit

theorem blks_env {β β' : Env} {H : HL} (h : ∀ e ∈ H, β' e.1 = β e.1) : blks β' H = blks β H := by
  unfold blks
  induction H with
  | nil => rfl
  | cons e H ih =>
    rw [List.filterMap_cons, List.filterMap_cons, h e (List.mem_cons_self ..), ih fun f hf => h f (List.mem_cons_of_mem _ hf)]
/-- Other values for keys that are not in use. -/
theorem Hold.env_up {cx cx' : Cx} {β β' : Env} {n n' : Nat} {F : FL} {H : HL} {a : Act} {w : World} (hc : cx'.S = cx.S ∧ cx'.w0 = cx.w0 ∧ cx'.X = cx.X ∧ cx'.N = cx.N ∧ cx'.P = cx.P) (h : Hold cx β n F H a w) (hn : n ≤ n') (hβ : ∀ κ, κ < n → β' κ = β κ) (h0 : cx'.n0 ≤ n') (he : ∀ κ, κ < cx'.n0 → β' κ = cx'.β0 κ) : Hold cx' β' n' F H a w := by
  obtain ⟨c1, c2, c3, c4, c5⟩ := hc
  have hb : blks β' H = blks β H := blks_env fun e hm => hβ _ (h.ow.is e hm).1
  have hV : ∀ S, View β' H S w = View β H S w := fun S => by unfold View; rw [hb]
  refine ⟨h.size.trans c4.symm, h.defers, h0, he, ?_, fun t s hs => ?_, ⟨fun e hm => ?_, fun e hm e' hm' => ?_, ?_, ?_⟩, ?_, by rw [c1, c2, c3, c5]; exact h.gl⟩
  · rw [c2, c3]; exact h.kept
  · obtain ⟨h1, h2⟩ := h.tm t s hs
    rw [hV, c1]
    exact ⟨Bel.up hn h1, T.keep (fun κ hκ => hβ κ (h1 κ hκ)) (Sub.refl _) h2⟩
  · obtain ⟨h1, h2, h3⟩ := h.ow.is e hm
    rw [hV, c1, hβ _ h1]
    exact ⟨Nat.lt_of_lt_of_le h1 hn, Bel.up hn h2, Own.keep (fun κ hκ => hβ κ (h2 κ hκ)) (Sub.refl _) (fun _ _ _ h => h) h3⟩
  · rw [hβ _ (h.ow.is e hm).1, hβ _ (h.ow.is e' hm').1]
    exact h.ow.apart e hm e' hm'
  · rw [hb, c1]; exact h.ow.out
  · rw [c1]; exact h.ow.lt
  · rw [hb, c2, c3]; exact h.own
/-- What is under κ, under a new name. -/
theorem W.dup {cx : Cx} {n : Nat} {F : FL} {H : HL} {K : Act → World → Prop} (κ : Nat) (hκ : Nat.blt κ n = true := by rfl)
    (h : Wk cx (n + 1) (F.map fun f => (f.1, f.2.ren (swp κ n))) (H.map fun f => (swp κ n f.1, f.2.ren (swp κ n))) K) : Wk cx n F H K := fun β a w hh => by
  have hκ : κ < n := by simpa using hκ
  obtain ⟨β2, hβ⟩ : ∃ β2 : Env, β2 = fun i => if i = n then β κ else β i := ⟨_, rfl⟩
  have hn : β2 n = β κ := by rw [hβ]; exact if_pos rfl
  have hlt : ∀ i, i < n → β2 i = β i := fun i hi => by rw [hβ]; exact if_neg (by omega)
  have h2 : Hold { cx with n0 := 0 } β2 (n + 1) F H a w := Hold.env_up (cx := cx) ⟨rfl, rfl, rfl, rfl, rfl⟩ hh (Nat.le_succ _) hlt (Nat.zero_le _) fun i hi => absurd hi (Nat.not_lt_zero _)
  have hs := swp_swp κ n
  have hsl : ∀ i, i < n → swp κ n i < n + 1 := fun i hi => by
    unfold swp
    cases Nat.beq i κ with
    | true => exact Nat.lt_succ_self n
    | false => cases hq : Nat.beq i n with
      | true => exact Nat.lt_succ_of_lt hκ
      | false => exact Nat.lt_succ_of_lt hi
  have hbel : ∀ l : List Nat, Bel n l → Bel (n + 1) (l.map (swp κ n)) := fun l hl q hq => by
    obtain ⟨r, hr, he⟩ := List.mem_map.1 hq
    exact he ▸ hsl r (hl r hr)
  have h3 := h2.conv (n' := n + 1) (F' := F.map fun f => (f.1, f.2.ren (swp κ n))) (H' := H.map fun f => (swp κ n f.1, f.2.ren (swp κ n))) (swp κ n) (fun i hi => absurd hi (Nat.not_lt_zero _)) (Nat.zero_le _) (fun t s hts => ?_) (fun e he => ?_) fun e he e' he' hne hq => hne ?_
  · refine h (β2 ∘ swp κ n) a w (Hold.env_up (cx := { cx with n0 := 0 }) ⟨rfl, rfl, rfl, rfl, rfl⟩ h3 (Nat.le_refl _) (fun _ _ => rfl) (Nat.le_succ_of_le hh.le) fun i hi => ?_)
    rw [← hh.env i hi]
    have hin : i < n := Nat.lt_of_lt_of_le hi hh.le
    show β2 (swp κ n i) = β i
    unfold swp
    cases hb : Nat.beq i κ with
    | true =>
      have := Nat.eq_of_beq_eq_true hb
      subst this
      exact hn
    | false => cases hq : Nat.beq i n with
      | true => have := Nat.eq_of_beq_eq_true hq; omega
      | false => exact hlt i hin
  · rw [look_map] at hts
    obtain ⟨s0, h1, rfl⟩ := Option.map_eq_some_iff.1 hts
    exact ⟨by rw [t_keys_ren]; exact hbel _ (hh.tm t s0 h1).1, by rw [T.ren_ren hs]; exact h1⟩
  · obtain ⟨g, hg, rfl⟩ := List.mem_map.1 he
    obtain ⟨h1, h2, _⟩ := hh.ow.is g hg
    exact ⟨hsl _ h1, by rw [o_keys_ren]; exact hbel _ h2, by simp only [hs, Own.ren_ren hs]; exact hg⟩
  · have := congrArg (swp κ n) hq
    rwa [hs, hs] at this
section
variable {cx : Cx} {n n1 : Nat} {F : FL} {H H1 : HL} {fn : Func}
theorem finH0 (hr : fn.results = #[] := by rfl) (hH : SubH H H1 := by (repeat (first | exact SubH.nil | refine SubH.cons rfl ?_)))
    (hb : belH n1 H1 := by (repeat (first | exact belH_nil | refine belH_cons (blt_of (by rfl)) (by first | exact bel0 rfl | exact bel0 agD_keys | exact belR (by rfl)) ?_))) : Wk cx n F H (bodyPost cx.P fn (Post cx (.tup []) H1 n1) .ret) :=
  W.fin (us := []) (by rw [hr]; rfl) (bel0 rfl) fun e he => ⟨(hb e he).1, (hb e he).2, hH.mem e he⟩
theorem finH0n (hr : fn.results = #[] := by rfl) (hH : SubH H H1 := by (repeat (first | exact SubH.nil | refine SubH.cons rfl ?_)))
    (hb : belH n1 H1 := by (repeat (first | exact belH_nil | refine belH_cons (blt_of (by rfl)) (by first | exact bel0 rfl | exact bel0 agD_keys | exact belR (by rfl)) ?_))) : Wk cx n F H (bodyPost cx.P fn (Post cx (.tup []) H1 n1) .normal) := finH0 (fn := fn) hr hH hb
end
end Go.Sv
namespace Go.Sv
open Go
theorem all2_less {α β : Type} {R S : α → β → Prop} : ∀ {l m : List α}, All2 (fun a b => ∀ v, R a v → S b v) l m → ∀ {vs : List β}, All2 R l vs → All2 S m vs
  | [], [], _, [], _ => trivial
  | _ :: _, _ :: _, h, _ :: _, h2 => ⟨h.1 _ h2.1, all2_less h.2 h2.2⟩
def T.Less (s t : T) : Prop := ∀ β w v, T.is β w s v → T.is β w t v
theorem T.Less.refl (t : T) : T.Less t t := fun _ _ _ h => h
theorem T.Less.ag {cs ds : List D} (hw : ∀ w us, Cells w cs us → Cells w ds us) : T.Less (agD cs) (agD ds) := fun _ _ _ ⟨us, h1, h2⟩ => ⟨us, h1, all2_map.2 (hw _ _ (all2_map.1 h2))⟩
theorem Con.argL {P : Program} {f : FuncId} {args args' : List T} {H0 H1 : HL} {n0 n1 : Nat} {out : T} (h : Con P f args' H0 n0 out H1 n1) (ha : All2 T.Less args args') : Con P f args H0 n0 out H1 n1 :=
  ⟨h.1, h.2.1, fun β S w vs hv hO => h.2.2 β S w vs (all2_less (ha.mono fun _ _ h v => h _ _ v) hv) hO⟩
abbrev nilD : D := lit (.slice none 0 0) rfl
theorem nil_sl (k : Nat) (w : World) (v : Value) (h : nilD.is w v) : (sl k []).is w v := ⟨none, 0, h, Nat.le_refl _, by unfold maxLen; decide, fun j l h => by simp at h⟩
section
variable {P : Program} [Lays P] {ops : Array Oper} {n : Nat} {d : Option Tmp} {ty : TypeId} {pos : String} {af : Array Edge} {x : Operand}
theorem OpT.fieldG {t k f off ft : Nat} {fl : List (Nat × Nat)} {z : List ZK} {lf : Lay} {cs : List C} (ht : lay P t = some ⟨.struct, k, fl, z⟩ := by rfl) (hf : fl[f]? = some (off, ft) := by rfl) (hl : lay P ft = some lf := by rfl) (ha : lf.kind.agg = true := by rfl) :
    OpT P ops (mkO d (.field t x f) ty pos af) n [(x, .ag cs)] [] [] (.ag ((cs.drop off).take lf.size)) [] n := .runs rfl (fun h κ hκ => h _ (List.mem_singleton.2 rfl) κ (mem_drop_take hκ)) fun β V w A _ h => by
  obtain ⟨us, e1, h3⟩ := in1 h
  refine ⟨.agg ((us.drop off).take lf.size).toArray, ?_, _, rfl, All2.take _ (All2.drop off h3)⟩
  obtain ⟨fs, h6, h7⟩ := lay_struct ht
  rw [← h7] at hf
  simp only [List.getElem?_map, Option.map_eq_some_iff, Array.getElem?_toList] at hf
  obtain ⟨g, h8, h9⟩ := hf
  have h10 : g.offset = off := congrArg (·.1) h9
  have h11 : g.type = ft := congrArg (·.2) h9
  have hag : (isAgg ft).run P w = .ok true w := by
    obtain ⟨d', i, z', hd, hi, ⟨h1, _⟩, h2, _⟩ := lay_all hl
    obtain ⟨kk, nn, ff, zz⟩ := lf
    cases kk <;> cases d' <;> simp_all [isAgg, Sem.run_bind, run_underlying hd w, LK.agg, lkB]
  simp [execOp, e1, Instr.field, Sem.run_bind, run_underlying h6 w, h8, asAgg, part, h11, h10, hag, lay_size hl w, List.take_drop, Nat.add_comm]
end
section
variable {P : Program} {ops : Array Oper} {n : Nat} {d : Option Tmp} {ty : TypeId} {pos : String} {af : Array Edge} {x : Operand}
theorem OpT.mth {f : FuncId} {xs : List Operand} {cs : List Cap} (hl : xs.length = cs.length := by rfl) : OpT P ops (mkO d (.makeFunc (.func f) xs.toArray #[]) ty pos af) n (xs.zip (cs.map capU)) [] [] (.one (.mth f cs)) [] n := .runs rfl (fun h κ hκ => by
    obtain ⟨c, hc, hκ⟩ := List.mem_flatMap.1 hκ
    obtain ⟨i, hi, rfl⟩ := List.mem_iff_getElem.1 hc
    refine h (xs[i]'(by omega), capU cs[i]) (List.mem_iff_getElem.2 ⟨i, by simp; omega, by simp⟩) κ ?_
    cases hcc : cs[i] with
    | key κ' => rw [hcc] at hκ; exact hκ
    | one x => rw [hcc] at hκ; cases hκ
    | ag xs => rw [hcc] at hκ; cases hκ) fun β V w A _ h =>
  ⟨.func (.func f) (xs.map A.eval).toArray #[], by simp [execOp, Instr.makeFunc], _, rfl, zip_all (fun c v => cap_is) hl h⟩
/-- A method value's call. -/
theorem OpT.dynM {f : FuncId} {xs : List Operand} {ts : List T} {cs : List Cap} {H0 H1 : HL} {out : T} {n0 n1 : Nat} {tys : Array TypeId} (ks : List Nat) (hc : Con P f (cs.map capU ++ ts) H0 n0 out H1 n1) (hl : xs.length = ts.length) (hks : ks.length = n0) (hkn : ∀ k ∈ ks, k < n) (hnd : ks.Nodup) (hB : belH n0 H0) (hcs : ∀ c ∈ cs, ∀ κ, c = .key κ → κ ∈ keys H0) :
    OpT P ops (mkO d (.call ⟨.value x, xs.toArray, tys⟩) ty pos af) n ((x, .one (.mth f (cs.map (Cap.ren (sig n0 n ks))))) :: xs.zip (ts.map (T.ren (sig n0 n ks)))) [] (renH (sig n0 n ks) H0) (out.ren (sig n0 n ks)) (renH (sig n0 n ks) H1) (n + (n1 - n0)) :=
  ⟨Nat.le_add_right _ _, fun β S w A K htin hb hO hK => by
    rw [if_pos (by simp [Region.wanted])]
    have hargs := zip_is (by simpa using hl) fun e he => htin e (List.mem_cons_of_mem _ he)
    obtain ⟨us, e1, h2⟩ := htin _ (List.mem_cons_self ..)
    have hcaps := caps_all h2 fun c hc κ hκ => by
      obtain ⟨c', hc', rfl⟩ := List.mem_map.1 hc
      cases c' with
      | key κ' =>
        cases hκ
        obtain ⟨e, he, rfl⟩ := mem_keys.1 (hcs _ hc' κ' rfl)
        exact own_one (hO.is (sig n0 n ks e.1, e.2.ren (sig n0 n ks)) (List.mem_map.2 ⟨e, he, rfl⟩)).2.2
      | one x => cases hκ
      | ag xs => cases hκ
    have hcm : (cs.map (Cap.ren (sig n0 n ks))).map capU = (cs.map capU).map (T.ren (sig n0 n ks)) := by
      rw [List.map_map, List.map_map]
      refine List.map_congr_left fun c _ => ?_
      cases c with
      | key κ => rfl
      | one x => rfl
      | ag xs => simp [capU, Cap.ren, T.ren, agD, C.ren, Function.comp_def]
    rw [hcm] at hcaps
    have hall := hcaps.append hargs
    have hcall := hc.at hks hkn hnd hB (β := β) (S := S) (w := w) (vs := us.toArray ++ xs.toArray.map A.eval) (by rw [List.map_append]; simpa using hall) hO
    unfold Oper.wp
    have he : (execOp A.eval (mkO d (.call ⟨.value x, xs.toArray, tys⟩) ty pos af)).run P w = .ok (.enter f (us.toArray ++ xs.toArray.map A.eval)) w := by
      simp only [execOp, resolve, e1, Deferred.ofValue, invoke, Sem.run_bind, Sem.run_pure, Result.andThen_ok, Array.append_empty, hc.1 _ w]
    rw [he]
    refine hcall.mono ?_
    rintro e w' ⟨v, β', rfl, k1, k2, k3, k4, k5, k6⟩
    exact hK v β' w' k1 k2 k3 k4 k5 k6⟩
theorem equal_func {w : World} {t : TypeId} {ps rs : Array TypeId} {v : Bool} (h : P.underlying t = some (.func ps rs v)) (d : Nat) (f : Fn) (us vs : Array Value) : (Op.equalIn (d + 1) t (.func f us vs) .nilFunc).run P w = .ok false w := by simp [Op.equalIn, run_underlying h]
theorem equal_func0 {w : World} {t : TypeId} {ps rs : Array TypeId} {v : Bool} (h : P.underlying t = some (.func ps rs v)) (d : Nat) : (Op.equalIn (d + 1) t .nilFunc .nilFunc).run P w = .ok true w := by simp [Op.equalIn, run_underlying h]
theorem OpT.eqNilM {f : FuncId} {cs : List Cap} {t t' : TypeId} {y : Operand} {h1 : Value.oneCell' .nilFunc = true} {ps rs : Array TypeId} {v : Bool} (ht : P.underlying t = some (.func ps rs v)) : OpT P ops (mkO d (.binOp .eql t x y t') ty pos af) n [(x, .one (.mth f cs)), (y, dT (lit .nilFunc h1))] [] [] (bT false) [] n := .runs rfl (fun _ => bel0 rfl) fun β V w A _ h => by
  obtain ⟨⟨us, e1, _⟩, h4⟩ := in2 h
  have hu : (Op.equal t (.func (.func f) us.toArray #[]) .nilFunc).run P w = .ok false w := equal_func ht 9999 _ _ _
  have e2 : A.eval y = .nilFunc := h4
  exact ⟨.bool false, by simp [execOp, e1, e2, eqGuard, binOp, hu], rfl⟩
theorem OpT.eqNilN {t t' : TypeId} {y : Operand} {h1 h2 : Value.oneCell' .nilFunc = true} {ps rs : Array TypeId} {v : Bool} (ht : P.underlying t = some (.func ps rs v)) : OpT P ops (mkO d (.binOp .eql t x y t') ty pos af) n [(x, dT (lit .nilFunc h1)), (y, dT (lit .nilFunc h2))] [] [] (bT true) [] n := .runs rfl (fun _ => bel0 rfl) fun β V w A _ h => by
  obtain ⟨h3, h4⟩ := in2 h
  have hu : (Op.equal t .nilFunc .nilFunc).run P w = .ok true w := equal_func0 ht 9999
  have e1 : A.eval x = .nilFunc := h3
  have e2 : A.eval y = .nilFunc := h4
  exact ⟨.bool true, by simp [execOp, e1, e2, eqGuard, binOp, hu], rfl⟩
end
section
variable {P : Program} {ops : Array Oper} {n : Nat} {d : Tmp} {ty : TypeId} {pos : String} {af : Array Edge} {x : Operand} {F : FL} {H H2 : HL} {acc : List Acc} {l : List Oper} {out : T} {Fin : Nat → FL → HL → List Acc → Prop}
theorem Ch.dynM {f : FuncId} {xs : List Operand} {ts : List T} {cs : List Cap} {H0 H1 : HL} {n0 n1 : Nat} {tys : Array TypeId} (ks : List Nat) (hc : Con P f (cs.map capU ++ ts) H0 n0 out H1 n1) (hl : xs.length = ts.length := by rfl) (hks : ks.length = n0 := by rfl) (hkn : ∀ k ∈ ks, k < n := by decide) (hnd : ks.Nodup := by decide) (hB : belH n0 H0 := by (repeat (first | exact belH_nil | refine belH_cons (blt_of (by rfl)) (by first | exact bel0 rfl | exact bel0 agD_keys | exact belR (by rfl)) ?_)))
    (hcs : ∀ c ∈ cs, ∀ κ, c = .key κ → κ ∈ keys H0 := by simp [keys])
    (hF : Tin F ((x, .one (.mth f (cs.map (Cap.ren (sig n0 n ks))))) :: xs.zip (ts.map (T.ren (sig n0 n ks)))) := by first | exact ⟨rfl, trivial⟩ | exact ⟨rfl, rfl, trivial⟩ | exact ⟨rfl, rfl, rfl, trivial⟩ | exact ⟨rfl, rfl, rfl, rfl, trivial⟩) (hO : OutL (renH (sig n0 n ks) H0) H H2 := by (repeat (first | exact OutL.nil | apply OutL.cons | exact Out.here (by rfl) | (apply Out.there; rfl))))
    (r : Ch P ops Fin l (n + (n1 - n0)) ((d, out.ren (sig n0 n ks)) :: F) (renH (sig n0 n ks) H1 ++ H2) (acc ++ [Rec.acc ⟨(x, .one (.mth f (cs.map (Cap.ren (sig n0 n ks))))) :: xs.zip (ts.map (T.ren (sig n0 n ks))), [], renH (sig n0 n ks) H0, out.ren (sig n0 n ks), renH (sig n0 n ks) H1, n, n + (n1 - n0)⟩ (some d)])) : Ch P ops Fin (mkO (some d) (.call ⟨.value x, xs.toArray, tys⟩) ty pos af :: l) n F H acc :=
  .step _ [] _ _ _ _ (.dynM ks hc hl hks hkn hnd hB hcs) hF.all (fun e he => hO.mem.1 e he) _ hO.upd r
end
/-- Whatever number. -/
def intA : D := ⟨fun _ v => ∃ n, v = .int .i64 n, fun _ h => h, fun ⟨_, h⟩ => h ▸ rfl⟩
theorem int_intA {n : Int} (w : World) (v : Value) (h : (i64 n).is w v) : intA.is w v := ⟨n, h⟩
end Go.Sv
