/- Part 27 of what StageOrder and StagePlans ask: for every input each returns true, and its input reads as it did. No condition. -/
import Derived.Test.YtelkpflpgpdkdaaGreatDoorPt25
import Derived.Test.YtelkpflpgpdkdaaGreatDoorPt26
import Derived.Laws.IdiomStrings
namespace Go.Sv
open Go Go.RowKit

/-- Whatever text. -/
def strA : D := ⟨fun _ v => ∃ s, v = .string s, fun _ h => h, fun ⟨_, h⟩ => h ▸ rfl⟩
/-- At most m texts. -/
def strsU (m : Nat) : D where
  is w v := ∃ l : List D, l.length ≤ m ∧ (sl 1 (l.map fun x => [x])).is w v
  mono := by rintro w w' v hS ⟨l, h1, h2⟩; exact ⟨l, h1, (sl _ _).mono hS h2⟩
  one := by rintro w v ⟨_, _, h⟩; exact (sl _ _).one h
theorem strsU_up {m m' : Nat} (h : m ≤ m') {w : World} {v : Value} (hv : (strsU m).is w v) : (strsU m').is w v := by
  obtain ⟨l, h1, h2⟩ := hv
  exact ⟨l, Nat.le_trans h1 h, h2⟩
section
variable {P : Program} {ops : Array Oper} {n : Nat} {d : Option Tmp} {ty : TypeId} {pos : String} {af : Array Edge} {x : Operand}
theorem OpT.moveW {a b : D} (hw : ∀ w v, a.is w v → b.is w v) : OpT P ops (mkO d (.move x) ty pos af) n [(x, dT a)] [] [] (dT b) [] n := .runs rfl (fun _ => bel0 rfl) fun _ _ _ _ _ h => ⟨_, rfl, hw _ _ (in1 h)⟩
variable {cx : Cx} {F : FL} {H : HL} {K : Act → World → Prop}
/-- Less is known of a slot. -/
theorem W.less (t : Nat) {a : D} (b : D) (ht : look F t = some (dT a)) (hw : ∀ w v, a.is w v → b.is w v) (h : Wk cx n ((t, dT b) :: F) H K) : Wk cx n F H K := fun β A w hh => h β A w ⟨hh.size, hh.defers, hh.le, hh.env, hh.kept, fun t' s hs => by
  rw [look_cons] at hs
  split at hs
  · rename_i he
    simp only at he
    subst he
    cases hs
    exact ⟨bel0 rfl, hw _ _ (hh.tm t _ ht).2⟩
  · exact hh.tm t' s hs, hh.ow, hh.own, hh.gl⟩
/-- What a slot's texts are. -/
theorem W.opn (t : Nat) {m : Nat} (ht : look F t = some (dT (strsU m))) (h : ∀ l : List D, l.length ≤ m → Wk cx n ((t, dT (sl 1 (l.map fun x => [x]))) :: F) H K) : Wk cx n F H K := fun β A w hh => by
  obtain ⟨l, h1, h2⟩ := (hh.tm t _ ht).2
  refine h l h1 β A w ⟨hh.size, hh.defers, hh.le, hh.env, hh.kept, fun t' s hs => ?_, hh.ow, hh.own, hh.gl⟩
  rw [look_cons] at hs
  split at hs
  · rename_i he
    simp only at he
    subst he
    cases hs
    exact ⟨bel0 rfl, h2⟩
  · exact hh.tm t' s hs
end
section
variable {cx : Cx} {n n' : Nat} {F : FL} {H : HL} {Q : Exit → Act → World → Prop} {K : Act → World → Prop} {c : Code}
/-- What holds where two ways meet. -/
def Mid (cx : Cx) (n : Nat) (F : FL) (H : HL) : Act → World → Prop := fun a w => ∃ β, Hold cx β n F H a w
/-- A statement whose ways meet behind it: dF and dH turn, Fk and Hk stay. -/
theorem W.mid (n' : Nat) (dF Fk : FL) (dH Hk : HL) (_ : SubF F Fk := by (repeat (first | exact SubF.nil | refine SubF.cons rfl ?_))) (_ : SubH H Hk := by (repeat (first | exact SubH.nil | refine SubH.cons rfl ?_))) (h1 : Wk cx n F H (c.wp cx.P (Exit.then (Mid cx n' (dF ++ Fk) (dH ++ Hk)) Q))) (h2 : Wk cx n' (dF ++ Fk) (dH ++ Hk) K) : Wk cx n F H (c.wp cx.P (Exit.then K Q)) := fun β a w hh => wp_mono (h1 β a w hh) fun e A' w' hq => by
  cases e with
  | normal => obtain ⟨β', h⟩ := hq; exact h2 β' _ _ h
  | _ => exact hq
theorem W.meet {F' : FL} {H' : HL} (hF : SubF F F' := by (repeat (first | exact SubF.nil | refine SubF.cons rfl ?_))) (hH : SubH H H' := by (repeat (first | exact SubH.nil | refine SubH.cons rfl ?_))) (h0 : Nat.ble cx.n0 n' = true := by rfl)
    (hb : belF n' F' := by (repeat (first | exact belF_nil | refine belF_cons (by first | exact bel0 rfl | exact bel0 agD_keys | exact belR (by rfl)) ?_))) (hb' : belH n' H' := by (repeat (first | exact belH_nil | refine belH_cons (blt_of (by rfl)) (by first | exact bel0 rfl | exact bel0 agD_keys | exact belR (by rfl)) ?_))) : Wk cx n F H (Mid cx n' F' H') :=
  fun β _ _ h => ⟨β, h.weak (Nat.le_of_ble_eq_true h0) hF hH hb hb'⟩
end
/-- A function of data, shown in the library's words. -/
theorem Con.raw {P : Program} {f : FuncId} {args : List T} {x : D} (hE : Enters P f) (h : ∀ (β : Env) (S : List Nat) (w : World) (vs : Array Value), All2 (fun t v => t.is β (hide S w) v) args vs.toList → Gl P (hide S w) → Calls P f vs w fun e w' => ∃ v, e = .returned v ∧ Kept [] w w' ∧ x.is (hide S w') v) : ∀ n, Con P f args [] n (dT x) [] n :=
  Con.up rfl ⟨hE, Nat.le_refl _, fun β S w vs hv hO => (h β S w vs hv hO.gl).mono fun _ w' ⟨v, h1, h2, h3⟩ => ⟨v, β, h1, h2, fun _ _ => rfl, bel0 rfl, h3, ⟨nofun, nofun, nofun, fun b hb => Nat.lt_of_lt_of_le (hO.lt b hb) h2.size⟩, fun b hb => by cases hb⟩⟩
/-- Less is told of what a function makes. -/
theorem Con.less {P : Program} {f : FuncId} {args : List T} {H0 H1 : HL} {n0 n1 : Nat} {x y : D} (hw : ∀ w v, x.is w v → y.is w v) (h : Con P f args H0 n0 (dT x) H1 n1) : Con P f args H0 n0 (dT y) H1 n1 :=
  ⟨h.1, h.2.1, fun β S w vs hv hO => (h.2.2 β S w vs hv hO).mono fun _ _ ⟨v, β', h1, h2, h3, _, h5, h6, h7⟩ => ⟨v, β', h1, h2, h3, bel0 rfl, hw _ _ h5, h6, h7⟩⟩
/-- Less is told of what a function takes. -/
inductive ArgW : List T → List T → Prop
  | nil : ArgW [] []
  | same {t : T} {l m : List T} (h : ArgW l m) : ArgW (t :: l) (t :: m)
  | less {a b : D} {l m : List T} (hw : ∀ w v, a.is w v → b.is w v) (h : ArgW l m) : ArgW (dT a :: l) (dT b :: m)
theorem ArgW.is {β : Env} {w : World} {l m : List T} (h : ArgW l m) : ∀ {vs : List Value}, All2 (fun t v => T.is β w t v) l vs → All2 (fun t v => T.is β w t v) m vs := by
  induction h with
  | nil => exact fun h => h
  | same _ ih => intro vs; cases vs with
    | nil => exact fun h => h
    | cons v vs => exact fun h => ⟨h.1, ih h.2⟩
  | less hw _ ih => intro vs; cases vs with
    | nil => exact fun h => h
    | cons v vs => exact fun h => ⟨hw _ _ h.1, ih h.2⟩
theorem Con.arg {P : Program} {f : FuncId} {args args' : List T} {H0 H1 : HL} {n0 n1 : Nat} {out : T} (h : Con P f args' H0 n0 out H1 n1) (ha : ArgW args args') : Con P f args H0 n0 out H1 n1 :=
  ⟨h.1, h.2.1, fun β S w vs hv hO => h.2.2 β S w vs (ha.is hv) hO⟩
theorem nil_strsU {h1 : Value.oneCell' (.slice none 0 0) = true} (w : World) (v : Value) (h : (lit (.slice none 0 0) h1).is w v) : (strsU 0).is w v := ⟨[], Nat.le_refl _, none, 0, h, Nat.le_refl _, by unfold maxLen; decide, by simp⟩
theorem sl_less1 {k : Nat} {l l' : List D} (hl : l'.length = l.length) (h : ∀ w us, Cells w l us → Cells w l' us) (w : World) (v : Value) (hv : (sl k [l]).is w v) : (sl k [l']).is w v := by
  obtain ⟨a, c, h1, h2, h3, h4⟩ := hv
  refine ⟨a, c, h1, h2, h3, fun j x hx => ?_⟩
  obtain ⟨rfl, rfl⟩ : j = 0 ∧ x = l' := by
    cases j with
    | zero => simpa [eq_comm] using hx
    | succ j => simp at hx
  obtain ⟨h5, b, o, us, h6, h7, h8⟩ := h4 0 l rfl
  exact ⟨hl.trans h5, b, o, us, h6, h7, h _ _ h8⟩
end Go.Sv
namespace Go.Proofs.YtelkpflpgpdkdaaGreatDoor
open Go.Sv
open Go.RowKit Go.Lib
theorem heap_alloc_size (w : World) (o : Obj) : (w.alloc o).heap.size = w.heap.size + 1 := by simp
theorem enters_of {P : Program} {f : FuncId} {fn : Go.Func} {c : Code} (hf : P.funcs[f]? = some fn) (hnm : (fn.name == "runtime.NumGoroutine") = false) (hb : fn.body = some c) : Enters P f := fun args w => by simp only [callFunc, Sem.run_bind, run_program, Result.andThen_ok, hf, hb, hnm, Option.isNone, Bool.false_eq_true, if_false, Sem.run_pure]
end Go.Proofs.YtelkpflpgpdkdaaGreatDoor

namespace Go.Proofs.YtelkpflpgpdkdaaGreatDoor
open Go.Sv
abbrev fltD (e : Int) : List D := [strsU 1000, i64 e]
abbrev fltsD (l : List Int) : D := sl 2 (l.map fltD)
theorem strsU_any {m : Nat} (h : m ≤ 1000) (w : World) (v : Value) : (strsU m).is w v → (strsU 1000).is w v := strsU_up h
/-- Right, and not too great. -/
structure Rt (d : Doc) : Prop where
  part : d.part = true
  size : d.size ≤ 512
theorem Rt.kid {d x : Doc} (h : Rt d) (hx : x ∈ d.kids) : Rt x := by
  have h1 := h.part
  rw [d.part_kids] at h1
  simp only [Bool.and_eq_true, List.all_eq_true] at h1
  exact ⟨h1.2 x hx, by have := mem_size hx; have := h.size; omega⟩
theorem Rt.keys {d : Doc} (h : Rt d) : d.keys.length ≤ d.kids.length ∧ d.kids.length ≤ 512 := by
  have h1 := h.part
  rw [d.part_kids, plain_bad] at h1
  have h3 : bad4 d = false := by grind
  have h2 := Doc.sizes_len d.kids
  have h4 := d.size_kids
  have h5 := h.size
  rw [bad4] at h3
  simp only [Bool.or_eq_false_iff, Bool.and_eq_false_iff, decide_eq_false_iff_not] at h3
  omega
theorem errs_len2 : ∀ (n : Nat) (t : Typ) (d : Doc), Rt d → (errs n t d).length ≤ t.size * (d.size * 514)
  | 0, _, _, _ => by simp [errs]
  | n + 1, t, d, hf => by
    have hts := Typ.size_parts t
    have hds := d.size_kids
    have hk := hf.keys
    have h1 : (if fitsE t d = 0 then ([] : List Int) else [fitsE t d]).length ≤ 1 := by split <;> simp
    have h2 : (if fitsE t d = 7 then ([] : List Int) else errsIn (errs n) t d).length ≤ (Typ.sizeFs t.fields + Typ.sizes t.of) * (d.size * 514) + 512 := by
      split
      · simp
      · unfold errsIn
        rw [Nat.add_mul]
        split
        · have h3 := flatMap_len (l := t.fields) (f := errsF (errs n) d) (g := fun f => f.typ.size * (d.size * 514)) fun f _ => by
            unfold errsF
            split
            · split
              · rename_i x hx
                have hm := List.mem_of_getElem? hx
                have h5 := Doc.size_le_sizes hm
                exact Nat.le_trans (errs_len2 n _ _ (hf.kid hm)) (Nat.mul_le_mul_left _ (Nat.mul_le_mul_right _ (by omega)))
              · simp
            · have := Typ.size_pos f.typ
              have h5 : 1 * 1 ≤ f.typ.size * (d.size * 514) := Nat.mul_le_mul this (by omega)
              split
              · simp
              · simp only [List.length_cons, List.length_nil]; omega
          have h4 := keys_flat d.keys t
          have h5 : (t.fields.map fun f => f.typ.size * (d.size * 514)).sum = Typ.sizeFs t.fields * (d.size * 514) := by rw [← sizeFs_sum, ← sum_mul, List.map_map]; rfl
          rw [List.length_append]
          omega
        · split
          · cases ho : t.of with
            | nil =>
              have : d.kids.flatMap (errsO (errs n) t) = [] := by
                rw [List.flatMap_eq_nil_iff]
                intro x _
                simp [errsO, ho]
              rw [this]; simp
            | cons o os =>
              have h3 := flatMap_len (l := d.kids) (f := errsO (errs n) t) (g := fun x => (o.size * 514) * x.size) fun x hx => by
                have h4 := errs_len2 n o x (hf.kid hx)
                rw [Nat.mul_comm x.size, ← Nat.mul_assoc] at h4
                simpa only [errsO, ho] using h4
              have h5 : (d.kids.map fun x => (o.size * 514) * x.size).sum = (o.size * 514) * Doc.sizes d.kids := by rw [← dsizes_sum, ← mul_sum, List.map_map]; rfl
              have h6 : (o.size * 514) * Doc.sizes d.kids ≤ Typ.sizes (o :: os) * (d.size * 514) := by
                rw [Nat.mul_assoc, Nat.mul_comm 514]
                exact Nat.mul_le_mul (by simp only [Typ.sizes]; omega) (Nat.mul_le_mul_right _ (by omega))
              omega
          · simp
    simp only [errs, List.length_append]
    rw [hts, Nat.add_mul, Nat.one_mul]
    omega
/-- Right, and not too deep. -/
structure RtT (n : Nat) (t : Typ) : Prop where
  right : t.right = true
  depth : t.depth ≤ n
theorem RtT.fld {n : Nat} {t : Typ} {f : Fld} (h : RtT (n + 1) t) (hf : f ∈ t.fields) : RtT n f.typ := ⟨(or_parts (.inl h.1)).1 f hf, by have := fld_depth hf; have := h.2; omega⟩
theorem RtT.kid {n : Nat} {t x : Typ} (h : RtT (n + 1) t) (hf : x ∈ t.of) : RtT n x := ⟨(or_parts (.inl h.1)).2 x hf, by have := of_depth hf; have := h.2; omega⟩
theorem RtT.facts {n : Nat} {t : Typ} (h : RtT n t) : t.size ≤ 128 ∧ t.part = true := by
  have := h.1
  simp only [Typ.right, Bool.and_eq_true, decide_eq_true_eq] at this
  exact ⟨this.1.1, this.2⟩
theorem errs_len3 {n : Nat} {t : Typ} {d : Doc} (ht : t.size ≤ 128) (hd : Rt d) : (errs n t d).length ≤ 40000000 := by
  have h1 := errs_len2 n t d hd
  have h2 : t.size * (d.size * 514) ≤ 128 * (512 * 514) := Nat.mul_le_mul ht (Nat.mul_le_mul_right _ hd.size)
  omega
theorem flat_le {α β : Type} (l : List α) (f : α → List β) (k : Nat) : ((l.take k).flatMap f).length ≤ (l.flatMap f).length := flat_take_le l f k
theorem Rt.keys2 {d : Doc} (h : Rt d) (hk : d.kind ≤ 2) : d.keys.length = d.kids.length := by
  have h1 := h.part
  rw [d.part_kids, plain_bad] at h1
  have h3 : bad4 d = false := by grind
  rw [bad4] at h3
  simp only [Bool.or_eq_false_iff, Bool.and_eq_false_iff, decide_eq_false_iff_not] at h3
  omega
end Go.Proofs.YtelkpflpgpdkdaaGreatDoor
namespace Go.Sv
open Go Go.RowKit

theorem blks_env {β β' : Env} {H : HL} (h : ∀ e ∈ H, β' e.1 = β e.1) : blks β' H = blks β H := by
  unfold blks
  induction H with
  | nil => rfl
  | cons e H ih =>
    rw [List.filterMap_cons, List.filterMap_cons, h e (List.mem_cons_self ..), ih fun f hf => h f (List.mem_cons_of_mem _ hf)]
/-- Other values for keys that are not in use. -/
theorem Hold.env_up {cx cx' : Cx} {β β' : Env} {n n' : Nat} {F : FL} {H : HL} {a : Act} {w : World} (hc : cx'.S = cx.S ∧ cx'.w0 = cx.w0 ∧ cx'.X = cx.X ∧ cx'.N = cx.N ∧ cx'.P = cx.P) (h : Hold cx β n F H a w) (hn : n ≤ n') (hβ : ∀ κ, κ < n → β' κ = β κ) (h0 : cx'.n0 ≤ n') (he : ∀ κ, κ < cx'.n0 → β' κ = cx'.β0 κ) : Hold cx' β' n' F H a w := by
  obtain ⟨c1, c2, c3, c4, c5⟩ := hc
  have hb : blks β' H = blks β H := blks_env fun e hm => hβ _ (h.ow.is e hm).1
  have hV : ∀ S, View β' H S w = View β H S w := fun S => by unfold View; rw [hb]
  refine ⟨h.size.trans c4.symm, h.defers, h0, he, ?_, fun t s hs => ?_, ⟨fun e hm => ?_, fun e hm e' hm' => ?_, ?_, ?_⟩, ?_, by rw [c1, c2, c3, c5]; exact h.gl⟩
  · rw [c2, c3]; exact h.kept
  · obtain ⟨h1, h2⟩ := h.tm t s hs
    rw [hV, c1]
    exact ⟨Bel.up hn h1, T.keep (fun κ hκ => hβ κ (h1 κ hκ)) (Sub.refl _) h2⟩
  · obtain ⟨h1, h2, h3⟩ := h.ow.is e hm
    rw [hV, c1, hβ _ h1]
    exact ⟨Nat.lt_of_lt_of_le h1 hn, Bel.up hn h2, Own.keep (fun κ hκ => hβ κ (h2 κ hκ)) (Sub.refl _) (fun _ _ _ h => h) h3⟩
  · rw [hβ _ (h.ow.is e hm).1, hβ _ (h.ow.is e' hm').1]
    exact h.ow.apart e hm e' hm'
  · rw [hb, c1]; exact h.ow.out
  · rw [c1]; exact h.ow.lt
  · rw [hb, c2, c3]; exact h.own
/-- What is under κ, under a new name. -/
theorem W.dup {cx : Cx} {n : Nat} {F : FL} {H : HL} {K : Act → World → Prop} (κ : Nat) (hκ : Nat.blt κ n = true := by rfl)
    (h : Wk cx (n + 1) (F.map fun f => (f.1, f.2.ren (swp κ n))) (H.map fun f => (swp κ n f.1, f.2.ren (swp κ n))) K) : Wk cx n F H K := fun β a w hh => by
  have hκ : κ < n := by simpa using hκ
  obtain ⟨β2, hβ⟩ : ∃ β2 : Env, β2 = fun i => if i = n then β κ else β i := ⟨_, rfl⟩
  have hn : β2 n = β κ := by rw [hβ]; exact if_pos rfl
  have hlt : ∀ i, i < n → β2 i = β i := fun i hi => by rw [hβ]; exact if_neg (by omega)
  have h2 : Hold { cx with n0 := 0 } β2 (n + 1) F H a w := Hold.env_up (cx := cx) ⟨rfl, rfl, rfl, rfl, rfl⟩ hh (Nat.le_succ _) hlt (Nat.zero_le _) fun i hi => absurd hi (Nat.not_lt_zero _)
  have hs := swp_swp κ n
  have hsl : ∀ i, i < n → swp κ n i < n + 1 := fun i hi => by
    unfold swp
    cases Nat.beq i κ with
    | true => exact Nat.lt_succ_self n
    | false => cases hq : Nat.beq i n with
      | true => exact Nat.lt_succ_of_lt hκ
      | false => exact Nat.lt_succ_of_lt hi
  have hbel : ∀ l : List Nat, Bel n l → Bel (n + 1) (l.map (swp κ n)) := fun l hl q hq => by
    obtain ⟨r, hr, he⟩ := List.mem_map.1 hq
    exact he ▸ hsl r (hl r hr)
  have h3 := h2.conv (n' := n + 1) (F' := F.map fun f => (f.1, f.2.ren (swp κ n))) (H' := H.map fun f => (swp κ n f.1, f.2.ren (swp κ n))) (swp κ n) (fun i hi => absurd hi (Nat.not_lt_zero _)) (Nat.zero_le _) (fun t s hts => ?_) (fun e he => ?_) fun e he e' he' hne hq => hne ?_
  · refine h (β2 ∘ swp κ n) a w (Hold.env_up (cx := { cx with n0 := 0 }) ⟨rfl, rfl, rfl, rfl, rfl⟩ h3 (Nat.le_refl _) (fun _ _ => rfl) (Nat.le_succ_of_le hh.le) fun i hi => ?_)
    rw [← hh.env i hi]
    have hin : i < n := Nat.lt_of_lt_of_le hi hh.le
    show β2 (swp κ n i) = β i
    unfold swp
    cases hb : Nat.beq i κ with
    | true =>
      have := Nat.eq_of_beq_eq_true hb
      subst this
      exact hn
    | false => cases hq : Nat.beq i n with
      | true => have := Nat.eq_of_beq_eq_true hq; omega
      | false => exact hlt i hin
  · rw [look_map] at hts
    obtain ⟨s0, h1, rfl⟩ := Option.map_eq_some_iff.1 hts
    exact ⟨by rw [t_keys_ren]; exact hbel _ (hh.tm t s0 h1).1, by rw [T.ren_ren hs]; exact h1⟩
  · obtain ⟨g, hg, rfl⟩ := List.mem_map.1 he
    obtain ⟨h1, h2, _⟩ := hh.ow.is g hg
    exact ⟨hsl _ h1, by rw [o_keys_ren]; exact hbel _ h2, by simp only [hs, Own.ren_ren hs]; exact hg⟩
  · have := congrArg (swp κ n) hq
    rwa [hs, hs] at this
section
variable {cx : Cx} {n n1 : Nat} {F : FL} {H H1 : HL} {fn : Func}
theorem finH0 (hr : fn.results = #[] := by rfl) (hH : SubH H H1 := by (repeat (first | exact SubH.nil | refine SubH.cons rfl ?_)))
    (hb : belH n1 H1 := by (repeat (first | exact belH_nil | refine belH_cons (blt_of (by rfl)) (by first | exact bel0 rfl | exact bel0 agD_keys | exact belR (by rfl)) ?_))) : Wk cx n F H (bodyPost cx.P fn (Post cx (.tup []) H1 n1) .ret) :=
  W.fin (us := []) (by rw [hr]; rfl) (bel0 rfl) fun e he => ⟨(hb e he).1, (hb e he).2, hH.mem e he⟩
theorem finH0n (hr : fn.results = #[] := by rfl) (hH : SubH H H1 := by (repeat (first | exact SubH.nil | refine SubH.cons rfl ?_)))
    (hb : belH n1 H1 := by (repeat (first | exact belH_nil | refine belH_cons (blt_of (by rfl)) (by first | exact bel0 rfl | exact bel0 agD_keys | exact belR (by rfl)) ?_))) : Wk cx n F H (bodyPost cx.P fn (Post cx (.tup []) H1 n1) .normal) := finH0 (fn := fn) hr hH hb
end
end Go.Sv
namespace Go.Proofs.YtelkpflpgpdkdaaGreatDoor
open Go.Sv
abbrev belD : D := adr [cloD 234 []]
abbrev chAt : C := .clo 237 [.key 2, .key 4, .key 3, .one belD]
abbrev chFd : C := .clo 235 [.key 3, .one belD, .key 2]
abbrev fltR (l : List Int) : Own := .row 244 2 (l.map fltD)
/-- What the closures of check share: what is told; who tells; at; fields. -/
abbrev chH (r : Nat) (l : List Int) : HL := [(0, .box 263 [.key r]), (r, fltR l), (2, .box 282 [.clo 209 [.key 0]]), (3, .box 295 [chAt]), (4, .box 295 [chFd])]
set_option maxRecDepth 10000 in
theorem fitsC (t : Typ) (d : Doc) : ∀ n, Con Tryz.prog 238 [agD (typF t), agD (docF d)] [] n (iT (fitsE t d)) [] n := by
  refine fnI Tryz.func238 Tryz.ntmps238 (h := fun S w0 β0 X => ?_)
  refine GO ?_
  refine Ch.c (kindsC t d) (r := ?_)
  refine GO ?_
  cases h0 : kindsOk t d
  · refine GO ?_
    exact finI (he := by rw [fitsE, if_pos h0])
  have he : fitsE t d = if t.kind = 2 ∨ t.kind = 3 then withinE d.kids.length t else if t.kind = 4 then withinE d.num t else if t.kind = 6 then withinE d.str.size t else if t.kind = 7 then (if (t.names.any fun s => s.toList == d.str.toList) = true then 0 else 8) else 0 := by rw [fitsE, h0]; rfl
  by_cases k2 : t.kind = 2 ∨ t.kind = 3
  · rw [if_pos k2] at he
    rcases k2 with k2 | k2 <;> refine GO ?_
    all_goals refine Ch.c (withinC d.kids.length t) (r := ?_)
    all_goals refine GO ?_
    all_goals exact finI (he := by rw [he])
  rw [if_neg k2] at he
  by_cases k4 : t.kind = 4
  · rw [if_pos k4] at he
    refine GO ?_
    refine Ch.c (withinC d.num t) (r := ?_)
    refine GO ?_
    exact finI (he := by rw [he])
  rw [if_neg k4] at he
  by_cases k6 : t.kind = 6
  · rw [if_pos k6] at he
    refine GO ?_
    refine Ch.c (withinC d.str.size t) (r := ?_)
    refine GO ?_
    exact finI (he := by rw [he])
  rw [if_neg k6] at he
  by_cases k7 : t.kind = 7
  · rw [if_pos k7, show (fun s : Str => s.toList == d.str.toList) = fun s => d.str.toList == s.toList from funext fun s => Bool.beq_comm] at he
    refine GO ?_
    refine Ch.c (containsStrC t.names d.str) (r := ?_)
    refine GO ?_
    refine W.cond rfl (fun h => ?_) (fun h => ?_)
    · refine GO ?_
      exact finI (he := by rw [he, if_neg]; intro h2; rw [h2] at h; cases h)
    · refine GO ?_
      exact finI (he := by rw [he, if_pos]; simpa using h)
  rw [if_neg k7] at he
  refine GO ?_
  exact finI (he := by rw [he])
set_option maxRecDepth 10000 in
theorem belC (m M : Nat) (x : D) (hm : m + 1 ≤ M) (hM : M ≤ 1000000) : ∀ n, Con Tryz.prog 234 [dT (strsU m), dT x] [] n (dT (strsU M)) [] n := by
  refine fnI Tryz.func234 Tryz.ntmps234 (h := fun S w0 β0 X => ?_)
  refine W.opn 0 rfl (fun l hl => ?_)
  refine GO ?_
  refine Ch.ch [] (cloneStrC (l.map fun x => [x]) (by rw [List.length_map]; omega)) (r := ?_)
  refine GO ?_
  refine W.frz 1 (h := ?_)
  refine W.less 4 (strsU M) rfl (fun w v hv => ⟨l ++ [x], by rw [List.length_append, List.length_singleton]; omega, by rw [List.map_append]; exact hv⟩) ?_
  exact fin1
set_option maxRecDepth 10000 in
theorem tellC (l : List Int) (e : Int) (hl : l.length ≤ 300000000) : Con Tryz.prog 209 [dT (strsU 1000), iT e, .one (.key 0)] [(0, .box 263 [.key 1]), (1, .row 244 2 (l.map fltD))] 2 (.tup []) [(0, .box 263 [.key 2]), (2, .row 244 2 ((l ++ [e]).map fltD))] 3 := by
  refine fnH Tryz.func209 Tryz.ntmps209 (h := fun S w0 β0 X => ?_)
  refine GO ?_
  refine Ch.p (OpT.slice1' (hs := asAg (l := fltD e) rfl)) ⟨rfl, trivial⟩ ?_
  refine GO ?_
  rw [show l.map fltD ++ [fltD e] = (l ++ [e]).map fltD by rw [List.map_append]; rfl]
  exact finH0n
end Go.Proofs.YtelkpflpgpdkdaaGreatDoor
namespace Go.Proofs.YtelkpflpgpdkdaaGreatDoor
open Go.Sv
abbrev AtC (q : Nat) (t : Typ) (d : Doc) (m : Nat) (l : List Int) : Prop := Con Tryz.prog 237 ([agD (typF t), agD (docF d), dT (strsU m)] ++ [.key 2, .key 4, .key 3, .one belD].map capU) (chH 1 l) 5 (.tup []) (chH 5 (l ++ errs q t d)) 6
theorem keyIdx_sym (l : List Str) (s : Str) : idxOf (fun x : Str => s.toList == x.toList) l = keyIdx l s := by
  unfold keyIdx
  congr 1
  funext x
  exact Bool.beq_comm
set_option maxRecDepth 10000 in
set_option maxHeartbeats 4000000 in
theorem chFieldsC (q : Nat) (t : Typ) (d : Doc) (m : Nat) (l : List Int) (hr : ∀ f ∈ t.fields, RtT q f.typ) (hf : t.fields.length ≤ 1000000) (hd : Rt d) (hm : m + q + 1 ≤ 1000) (hl : l.length + (t.fields.flatMap (errsF (errs q) d)).length + 512 ≤ 300000000) (ih : ∀ t d m l, RtT q t → Rt d → m + q ≤ 1000 → l.length + (errs q t d).length + 512 ≤ 300000000 → AtC q t d m l) : Con Tryz.prog 235 [agD (typF t), agD (docF d), dT (strsU m), .one (.key 3), dT belD, .one (.key 2)] (chH 1 l) 5 (.tup []) (chH 5 (l ++ (t.fields.flatMap (errsF (errs q) d) ++ d.keys.flatMap (errsK t)))) 6 := by
  have hkl := hd.keys
  refine fnH Tryz.func235 Tryz.ntmps235 (h := fun S w0 β0 X => ?_)
  refine W.dup 1 (h := ?_)
  refine GO ?_
  have hl1 := flat_le t.fields (errsF (errs q) d)
  refine W.lpG ((· ≤ t.fields.length)) (fun k => [(17, iT k)]) [(2, _), (3, _), (4, _), (5, _), (6, _), (7, _), (15, _), (16, _)] (fun k => [(5, fltR (l ++ (t.fields.take k).flatMap (errsF (errs q) d)))]) [(0, _), (2, _), (3, _), (4, _), (6, _), (7, _)] (t.fields.length - ·) 0 (Nat.zero_le _) (hH := by simp only [List.take_zero, List.flatMap_nil, List.append_nil]; (repeat (first | exact SubH.nil | refine SubH.cons rfl ?_))) (round := fun k hk => ?_)
  have hl2 : (l ++ (t.fields.take k).flatMap (errsF (errs q) d)).length + 512 ≤ 300000000 := by have := hl1 k; rw [List.length_append]; omega
  by_cases hlt : k < t.fields.length
  · have hx := List.getElem?_eq_getElem hlt
    generalize t.fields[k] = x at hx
    have hmm := List.mem_of_getElem? hx
    have hft := flat_take (f := errsF (errs q) d) hx
    refine GO ?_
    refine Ch.c (indexStrC d.keys x.name) (r := ?_)
    refine GO ?_
    rw [keyIdx_sym]
    rcases keyIdx_cases d.keys x.name with hi | ⟨j, hj, hi⟩
    · rw [errsF_miss hi] at hft
      rw [hi]
      refine GO ?_
      refine W.cond rfl (fun ho => ?_) (fun ho => ?_)
      · have ho : x.opt = false := by simpa using ho
        rw [ho, if_neg Bool.false_ne_true] at hft
        refine GO ?_
        refine Ch.dy (ts := [_, _]) (cs := []) (belC m 1000 (str x.name) (by omega) (by omega)) (r := ?_)
        refine GO ?_
        refine Ch.dyn [0, 5] (ts := [_, _]) (cs := [.key 0]) (tellC (l ++ (t.fields.take k).flatMap (errsF (errs q) d)) 9 (by omega)) (r := ?_)
        refine GO ?_
        rw [show (l ++ (t.fields.take k).flatMap (errsF (errs q) d)) ++ [9] = l ++ (t.fields.take (k + 1)).flatMap (errsF (errs q) d) by rw [hft]; simp]
        refine W.swap 5 9 (h := ?_)
        exact W.ag (k + 1) (hlt) (by omega)
      · have ho : x.opt = true := by simpa using ho
        rw [ho, if_pos rfl, List.append_nil] at hft
        refine GO ?_
        rw [← hft]
        exact W.ag (k + 1) (hlt) (by omega)
    · have hy := List.getElem?_eq_getElem (show j < d.kids.length by omega)
      generalize d.kids[j]'(by omega) = y at hy
      have hym := List.mem_of_getElem? hy
      rw [errsF_at hi hy] at hft
      have hl3 : (l ++ (t.fields.take k).flatMap (errsF (errs q) d)).length + (errs q x.typ y).length + 512 ≤ 300000000 := by have := hl1 (k + 1); rw [hft] at this; rw [List.length_append] at this ⊢; omega
      rw [hi]
      refine GO ?_
      refine Ch.dy (ts := [_, _]) (cs := []) (belC m (m + 1) (str x.name) (by omega) (by omega)) (r := ?_)
      refine Ch.dyn [0, 5, 2, 3, 4] (ih x.typ y (m + 1) (l ++ (t.fields.take k).flatMap (errsF (errs q) d)) (hr x hmm) (hd.kid hym) (by omega) hl3) (r := ?_)
      refine GO ?_
      rw [show (l ++ (t.fields.take k).flatMap (errsF (errs q) d)) ++ errs q x.typ y = l ++ (t.fields.take (k + 1)).flatMap (errsF (errs q) d) by rw [hft]; simp]
      refine W.swap 5 9 (h := ?_)
      exact W.ag (k + 1) (hlt) (by omega)
  obtain rfl : k = t.fields.length := by omega
  rw [List.take_length] at hl2 ⊢
  clear hl1
  have hK : ∀ k, ((d.keys.take k).flatMap (errsK t)).length ≤ 512 := fun k => by have := keys_flat (d.keys.take k) t; rw [List.length_take] at this; omega
  rw [← List.append_assoc]
  generalize l ++ t.fields.flatMap (errsF (errs q) d) = E1 at *
  refine GO ?_
  refine W.lpG ((· ≤ d.keys.length)) (fun k => [(58, iT k)]) [(2, _), (4, _), (5, _), (6, _), (56, _), (57, _)] (fun k => [(5, fltR (E1 ++ (d.keys.take k).flatMap (errsK t)))]) [(0, _), (2, _), (3, _), (4, _), (6, _)] (d.keys.length - ·) 0 (Nat.zero_le _) (hH := by simp only [List.take_zero, List.flatMap_nil, List.append_nil]; (repeat (first | exact SubH.nil | refine SubH.cons rfl ?_))) (round := fun k hk => ?_)
  have hl3 : (E1 ++ (d.keys.take k).flatMap (errsK t)).length ≤ 300000000 := by have := hK k; rw [List.length_append]; omega
  by_cases hlt : k < d.keys.length
  · have hx := List.getElem?_eq_getElem hlt
    generalize d.keys[k] = x at hx
    have hft := flat_take (f := errsK t) hx
    refine GO ?_
    refine Ch.c (fieldC t x) (r := ?_)
    refine GO ?_
    by_cases hi : fieldIdx t x < 0
    · rw [errsK, if_pos hi] at hft
      refine GO ?_
      refine Ch.dy (ts := [_, _]) (cs := []) (belC m 1000 (str x) (by omega) (by omega)) (r := ?_)
      refine GO ?_
      refine Ch.dyn [0, 5] (ts := [_, _]) (cs := [.key 0]) (tellC (E1 ++ (d.keys.take k).flatMap (errsK t)) 10 (by omega)) (r := ?_)
      refine GO ?_
      rw [show (E1 ++ (d.keys.take k).flatMap (errsK t)) ++ [10] = E1 ++ (d.keys.take (k + 1)).flatMap (errsK t) by rw [hft]; simp]
      refine W.swap 5 8 (h := ?_)
      exact W.ag (k + 1) (hlt) (by omega)
    · rw [errsK, if_neg hi, List.append_nil] at hft
      refine GO ?_
      rw [← hft]
      exact W.ag (k + 1) (hlt) (by omega)
  obtain rfl : k = d.keys.length := by omega
  rw [List.take_length]
  refine GO ?_
  exact finH0n
end Go.Proofs.YtelkpflpgpdkdaaGreatDoor
