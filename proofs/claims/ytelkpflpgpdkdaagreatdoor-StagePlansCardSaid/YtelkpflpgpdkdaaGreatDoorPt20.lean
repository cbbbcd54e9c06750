/- Part 20 of what StageOrder and StagePlans ask: for every input each returns true, and its input reads as it did. No condition. -/
import Derived.Test.YtelkpflpgpdkdaaGreatDoorPt19
import Derived.Laws.Cover3
namespace Go.Sv
open Go Go.RowKit

/-- Keys change their places. -/
def swp (i j κ : Nat) : Nat := bif Nat.beq κ i then j else bif Nat.beq κ j then i else κ
theorem swp_swp (i j κ : Nat) : swp i j (swp i j κ) = κ := by
  unfold swp
  cases h1 : Nat.beq κ i with
  | true =>
    have := Nat.eq_of_beq_eq_true h1; subst this
    simp only [cond_true]
    cases h2 : Nat.beq j κ with
    | true => have := Nat.eq_of_beq_eq_true h2; subst this; rfl
    | false => simp only [cond_false, Nat.beq_refl, cond_true]
  | false =>
    simp only [cond_false]
    cases h2 : Nat.beq κ j with
    | true =>
      have := Nat.eq_of_beq_eq_true h2; subst this
      simp only [cond_true, Nat.beq_refl]
    | false => simp only [cond_false, h1, h2]
theorem Cap.ren_ren {ρ : Nat → Nat} (h : ∀ κ, ρ (ρ κ) = κ) (c : Cap) : (c.ren ρ).ren ρ = c := by cases c <;> simp [Cap.ren, h]
theorem C.ren_ren {ρ : Nat → Nat} (h : ∀ κ, ρ (ρ κ) = κ) (c : C) : (c.ren ρ).ren ρ = c := by
  cases c with
  | clo f cs =>
    simp only [C.ren, List.map_map]
    congr 1
    conv => rhs; rw [← List.map_id cs]
    exact List.map_congr_left fun c _ => Cap.ren_ren h c
  | mth f cs =>
    simp only [C.ren, List.map_map]
    congr 1
    conv => rhs; rw [← List.map_id cs]
    exact List.map_congr_left fun c _ => Cap.ren_ren h c
  | _ => simp [C.ren, h]
theorem cs_ren_ren {ρ : Nat → Nat} (h : ∀ κ, ρ (ρ κ) = κ) (cs : List C) : (cs.map (C.ren ρ)).map (C.ren ρ) = cs := by
  rw [List.map_map]
  conv => rhs; rw [← List.map_id cs]
  exact List.map_congr_left fun c _ => C.ren_ren h c
theorem U.ren_ren {ρ : Nat → Nat} (h : ∀ κ, ρ (ρ κ) = κ) (u : U) : (u.ren ρ).ren ρ = u := by
  cases u with
  | one c => simp only [U.ren, C.ren_ren h]
  | ag cs => simp only [U.ren, cs_ren_ren h]
theorem T.ren_ren {ρ : Nat → Nat} (h : ∀ κ, ρ (ρ κ) = κ) (t : T) : (t.ren ρ).ren ρ = t := by
  induction t with
  | one c => simp only [T.ren, C.ren_ren h]
  | ag cs => simp only [T.ren, cs_ren_ren h]
  | tup us =>
    simp only [T.ren, List.map_map]
    congr 1
    conv => rhs; rw [← List.map_id us]
    exact List.map_congr_left fun u _ => U.ren_ren h u
  | opt b t ih => simp only [T.ren, ih]
  | any => rfl
theorem Own.ren_ren {ρ : Nat → Nat} (h : ∀ κ, ρ (ρ κ) = κ) (o : Own) : (o.ren ρ).ren ρ = o := by
  cases o with
  | box ty cs => simp only [Own.ren, cs_ren_ren h]
  | _ => rfl
theorem cs_keys_ren {ρ : Nat → Nat} {cs : List C} : (cs.map (C.ren ρ)).flatMap C.keys = (cs.flatMap C.keys).map ρ := by
  rw [List.flatMap_map, List.map_flatMap]
  congr 1
  funext c
  cases c with
  | clo f cs =>
    simp only [C.ren, C.keys, List.flatMap_map, List.map_flatMap]
    congr 1
    funext c
    cases c <;> rfl
  | mth f cs =>
    simp only [C.ren, C.keys, List.flatMap_map, List.map_flatMap]
    congr 1
    funext c
    cases c <;> rfl
  | _ => rfl
theorem c_keys_ren {ρ : Nat → Nat} (c : C) : (c.ren ρ).keys = c.keys.map ρ := by
  have := cs_keys_ren (ρ := ρ) (cs := [c])
  simpa using this
theorem u_keys_ren {ρ : Nat → Nat} (u : U) : (u.ren ρ).keys = u.keys.map ρ := by
  cases u with
  | one c => exact c_keys_ren c
  | ag cs => exact cs_keys_ren
theorem t_keys_ren {ρ : Nat → Nat} (t : T) : (t.ren ρ).keys = t.keys.map ρ := by
  induction t with
  | one c => exact c_keys_ren c
  | ag cs => exact cs_keys_ren
  | tup us =>
    simp only [T.ren, T.keys, List.flatMap_map, List.map_flatMap]
    congr 1
    funext u
    exact u_keys_ren u
  | opt b t ih => exact ih
  | any => rfl
theorem o_keys_ren {ρ : Nat → Nat} (o : Own) : (o.ren ρ).keys = o.keys.map ρ := by
  cases o with
  | box ty cs => exact cs_keys_ren
  | _ => rfl
theorem W.swap {cx : Cx} {n : Nat} {F : FL} {H : HL} {K : Act → World → Prop} (i j : Nat) (hi : (Nat.ble cx.n0 i && Nat.blt i n) = true := by rfl) (hj : (Nat.ble cx.n0 j && Nat.blt j n) = true := by rfl)
    (h : Wk cx n (F.map fun f => (f.1, f.2.ren (swp i j))) (H.map fun f => (swp i j f.1, f.2.ren (swp i j))) K) : Wk cx n F H K := fun β a w hh => by
  simp only [Bool.and_eq_true, Nat.ble_eq, Nat.blt_eq] at hi hj
  have hs := swp_swp i j
  have hlt : ∀ κ, κ < n → swp i j κ < n := fun κ hκ => by
    unfold swp
    cases Nat.beq κ i with
    | true => exact hj.2
    | false => cases Nat.beq κ j with
      | true => exact hi.2
      | false => exact hκ
  have hbel : ∀ l : List Nat, Bel n l → Bel n (l.map (swp i j)) := fun l hl κ hκ => by
    obtain ⟨q, hq, rfl⟩ := List.mem_map.1 hκ
    exact hlt q (hl q hq)
  refine h (β ∘ swp i j) a w (hh.conv (swp i j) (fun κ hκ => ?_) hh.le (fun t s hts => ?_) (fun e he => ?_) fun e he e' he' hne hq => hne ?_)
  · unfold swp
    rw [show Nat.beq κ i = false from Bool.eq_false_iff.2 fun hb => by have := Nat.eq_of_beq_eq_true hb; omega, show Nat.beq κ j = false from Bool.eq_false_iff.2 fun hb => by have := Nat.eq_of_beq_eq_true hb; omega]
    rfl
  · rw [look_map] at hts
    obtain ⟨s0, h1, rfl⟩ := Option.map_eq_some_iff.1 hts
    exact ⟨by rw [t_keys_ren]; exact hbel _ (hh.tm t s0 h1).1, by rw [T.ren_ren hs]; exact h1⟩
  · obtain ⟨g, hg, rfl⟩ := List.mem_map.1 he
    obtain ⟨h1, h2, _⟩ := hh.ow.is g hg
    exact ⟨hlt _ h1, by rw [o_keys_ren]; exact hbel _ h2, by simp only [hs, Own.ren_ren hs]; exact hg⟩
  · have := congrArg (swp i j) hq
    rwa [hs, hs] at this
/-- What is nil is an empty row of one's own. -/
theorem Hold.nil {cx : Cx} {β : Env} {n : Nat} {F F' : FL} {H H' : HL} {a : Act} {w : World} (h : Hold cx β n F H a w) (e k : Nat)
    (hF : ∀ t s, look F' t = some s → look F t = some s ∨ (s = .one (.key n) ∧ ∃ h1, look F t = some (dT (lit (.slice none 0 0) h1))))
    (hH : ∀ f ∈ H', f = (n, .row e k []) ∨ f ∈ H ∨ ∃ ty cs cs' q, (f.1, Own.box ty cs) ∈ H ∧ f.2 = .box ty cs' ∧ (∃ h1, cs[q]? = some (.d (lit (.slice none 0 0) h1))) ∧ cs' = cs.set q (.key n)) : ∃ β', Hold cx β' (n + 1) F' H' a w := by
  obtain ⟨β', hβ'⟩ : ∃ β' : Env, β' = fun κ => if κ = n then .slice none 0 0 else β κ := ⟨_, rfl⟩
  have hn : β' n = .slice none 0 0 := by rw [hβ']; exact if_pos rfl
  have hlt : ∀ κ, κ < n → β' κ = β κ := fun κ hκ => by rw [hβ']; exact if_neg (by omega)
  have hold : ∀ f ∈ H', f.1 = n ∧ f.2 = .row e k [] ∨ (f.1 < n ∧ ∃ g ∈ H, g.1 = f.1) := fun f hf => by
    rcases hH f hf with rfl | hf | ⟨ty, cs, cs', q, hf, _⟩
    · exact .inl ⟨rfl, rfl⟩
    · exact .inr ⟨(h.ow.is f hf).1, f, hf, rfl⟩
    · exact .inr ⟨(h.ow.is _ hf).1, _, hf, rfl⟩
  have hbl : ∀ f ∈ H', ∀ b, blk (β' f.1) = some b → ∃ g ∈ H, g.1 = f.1 ∧ blk (β g.1) = some b := fun f hf b hb => by
    rcases hold f hf with ⟨h1, _⟩ | ⟨h1, g, hg, h2⟩
    · rw [h1, hn] at hb; cases hb
    · exact ⟨g, hg, h2, by rw [h2, ← hlt _ h1]; exact hb⟩
  have hV : Sub (View β H cx.S w) (View β' H' cx.S w) := hide_sub (Kept.refl [] w) fun q _ hq => ⟨by simp, fun hm => hq ((List.mem_append.1 hm).elim (fun h' => by
    obtain ⟨f, hf, hb⟩ := mem_blks.1 h'
    obtain ⟨g, hg, _, hb⟩ := hbl f hf q hb
    exact List.mem_append_left _ (mem_blks.2 ⟨g, hg, hb⟩)) (List.mem_append_right _))⟩
  refine ⟨β', h.size, h.defers, Nat.le_succ_of_le h.le, fun κ hκ => (hlt κ (Nat.lt_of_lt_of_le hκ h.le)).trans (h.env κ hκ), h.kept, fun t s hs => ?_, ⟨fun f hf => ?_, fun f hf f' hf' hne b h1 h2 => ?_, fun b hb => ?_, h.ow.lt⟩, fun b hb => ?_, h.gl⟩
  · rcases hF t s hs with hs | ⟨rfl, h1, hs⟩
    · obtain ⟨h1, h2⟩ := h.tm t s hs
      exact ⟨Bel.up (Nat.le_succ n) h1, T.keep (fun κ hκ => hlt κ (h1 κ hκ)) hV h2⟩
    · have h2 : a.tmps.getD t undef = .slice none 0 0 := (h.tm t _ hs).2
      refine ⟨fun κ hκ => by rw [List.mem_singleton.1 hκ]; exact Nat.lt_succ_self n, ?_⟩
      rw [h2]
      exact ⟨hn.symm, rfl⟩
  · rcases hH f hf with rfl | hf | ⟨ty, cs, cs', q, hf, h2, ⟨h3, h4⟩, rfl⟩
    · exact ⟨Nat.lt_succ_self n, nofun, nofun, .inl ⟨hn, rfl⟩⟩
    · obtain ⟨h1, h2, h3⟩ := h.ow.is f hf
      exact ⟨Nat.lt_succ_of_lt h1, Bel.up (Nat.le_succ n) h2, by rw [hlt _ h1]; exact Own.keep (fun κ hκ => hlt κ (h2 κ hκ)) hV (fun _ _ _ h => h) h3⟩
    · obtain ⟨h5, h6, b, us, h7, h8, h9⟩ := h.ow.is _ hf
      refine ⟨Nat.lt_succ_of_lt h5, ?_, ?_⟩
      · rw [h2]
        intro κ hκ
        obtain ⟨c, hc, hκ⟩ := List.mem_flatMap.1 hκ
        rcases List.mem_or_eq_of_mem_set hc with hc | rfl
        · exact Nat.lt_succ_of_lt (h6 κ (List.mem_flatMap.2 ⟨c, hc, hκ⟩))
        · rw [List.mem_singleton.1 hκ]; exact Nat.lt_succ_self n
      · rw [h2, hlt _ h5]
        refine ⟨b, us, h7, h8, ?_⟩
        have h10 : CellsC β' (View β' H' cx.S w) cs us := CellsC.keep (fun κ hκ => hlt κ (h6 κ hκ)) hV h9
        have : ∀ {cs : List C} {us : List Value} {q : Nat} {h3 : Value.oneCell' (.slice none 0 0) = true}, cs[q]? = some (.d (lit (.slice none 0 0) h3)) → CellsC β' (View β' H' cx.S w) cs us → CellsC β' (View β' H' cx.S w) (cs.set q (.key n)) us := by
          intro cs
          induction cs with
          | nil => intro us q h3 hq _; simp at hq
          | cons c cs ih =>
            intro us q h3 hq hc
            cases us with
            | nil => exact hc.elim
            | cons u us =>
              cases q with
              | zero =>
                simp at hq; subst hq
                have : u = .slice none 0 0 := hc.1
                exact ⟨by subst this; exact ⟨hn.symm, rfl⟩, hc.2⟩
              | succ q => exact ⟨hc.1, ih (h3 := h3) (by simpa using hq) hc.2⟩
        exact this h4 h10
  · obtain ⟨g, hg, e1, h3⟩ := hbl f hf b h1
    obtain ⟨g', hg', e2, h4⟩ := hbl f' hf' b h2
    exact h.ow.apart g hg g' hg' (by rw [e1, e2]; exact hne) b h3 h4
  · obtain ⟨f, hf, hb⟩ := mem_blks.1 hb
    obtain ⟨g, hg, _, h3⟩ := hbl f hf b hb
    exact h.ow.out b (mem_blks.2 ⟨g, hg, h3⟩)
  · obtain ⟨f, hf, hb⟩ := mem_blks.1 hb
    obtain ⟨g, hg, _, h3⟩ := hbl f hf b hb
    exact h.own b (mem_blks.2 ⟨g, hg, h3⟩)
/-- A temporary that is nil. -/
theorem W.nilT {cx : Cx} {n : Nat} {F : FL} {H : HL} {K : Act → World → Prop} (t e k : Nat) {h1 : Value.oneCell' (.slice none 0 0) = true} (ht : look F t = some (dT (lit (.slice none 0 0) h1)) := by rfl) (h : Wk cx (n + 1) ((t, .one (.key n)) :: F) ((n, .row e k []) :: H) K) : Wk cx n F H K := fun β a w hh => by
  obtain ⟨β', hh'⟩ := hh.nil (F' := (t, .one (.key n)) :: F) (H' := (n, .row e k []) :: H) e k (fun t' s hs => by
    rw [look_cons] at hs
    split at hs
    · rename_i he; simp only at he; subst he; cases hs; exact .inr ⟨rfl, h1, ht⟩
    · exact .inl hs) fun f hf => by
    rcases List.mem_cons.1 hf with rfl | hf
    · exact .inl rfl
    · exact .inr (.inl hf)
  exact h β' a w hh'
/-- A box's cell that is nil. -/
theorem W.nilB {cx : Cx} {n : Nat} {F : FL} {H H2 : HL} {K : Act → World → Prop} (κ q e k : Nat) {ty : TypeId} {cs cs' : List C} {h1 : Value.oneCell' (.slice none 0 0) = true} (hR : Rep κ (.box ty cs) (.box ty cs') H H2 := by (repeat (first | exact Rep.here (by rfl) | (apply Rep.there; rfl)))) (hq : cs[q]? = some (.d (lit (.slice none 0 0) h1)) := by rfl) (hcs : cs.set q (.key n) = cs' := by rfl) (h : Wk cx (n + 1) F ((n, .row e k []) :: H2) K) : Wk cx n F H K := fun β a w hh => by
  obtain ⟨hm, hsub⟩ := hR.mem
  obtain ⟨β', hh'⟩ := hh.nil (F' := F) (H' := (n, .row e k []) :: H2) e k (fun t' s hs => .inl hs) fun f hf => by
    rcases List.mem_cons.1 hf with rfl | hf
    · exact .inl rfl
    · rcases (mem_upd f).1 ((hsub f).1 hf) with hf | ⟨hf, _⟩
      · cases List.mem_singleton.1 hf
        exact .inr (.inr ⟨ty, cs, cs', q, hm, rfl, ⟨h1, hq⟩, hcs.symm⟩)
      · exact .inr (.inl hf)
  exact h β' a w hh'
end Go.Sv
namespace Go.Sv
open Go Go.RowKit

theorem Out.mem' {κ : Nat} {o : Own} {H H2 : HL} (h : Out κ o H H2) : ∀ e, e ∈ H2 ↔ e ∈ H ∧ e.1 ≠ κ := fun e => ⟨h.mem.2 e, by
  induction h with
  | here h => rintro ⟨h1, h2⟩; exact (List.mem_cons.1 h1).resolve_left fun e => h2 (e ▸ rfl)
  | there hne h ih =>
    rintro ⟨h1, h2⟩
    rcases List.mem_cons.1 h1 with rfl | h1
    · exact List.mem_cons_self ..
    · exact List.mem_cons_of_mem _ (ih ⟨h1, h2⟩)⟩
inductive OutL : HL → HL → HL → Prop
  | nil {H : HL} : OutL [] H H
  | cons {κ : Nat} {o : Own} {l H H1 H2 : HL} (h : Out κ o H H1) (r : OutL l H1 H2) : OutL ((κ, o) :: l) H H2
theorem OutL.mem {l H H2 : HL} (h : OutL l H H2) : (∀ e ∈ l, e ∈ H) ∧ ∀ e, e ∈ H2 ↔ e ∈ H ∧ e.1 ∉ keys l := by
  induction h with
  | nil => exact ⟨nofun, fun e => by simp [keys]⟩
  | @cons κ o l H H1 H2 h r ih =>
    obtain ⟨h1, h2⟩ := ih
    refine ⟨fun e he => ?_, fun e => ?_⟩
    · rcases List.mem_cons.1 he with rfl | he
      · exact h.mem.1
      · exact ((h.mem' e).1 (h1 e he)).1
    · rw [h2, h.mem']
      simp only [keys, List.map_cons, List.mem_cons, not_or]
      exact ⟨fun ⟨⟨a, b⟩, c⟩ => ⟨a, b, c⟩, fun ⟨a, b, c⟩ => ⟨⟨a, b⟩, c⟩⟩
theorem OutL.upd {l l' H H2 : HL} (h : OutL l H H2) (e : Nat × Own) : e ∈ l' ++ H2 ↔ e ∈ upd H l l' := by rw [List.mem_append, mem_upd, h.mem.2]

/-- The caller's keys for those of a contract. -/
def sig (n0 n : Nat) (ks : List Nat) (κ : Nat) : Nat := bif Nat.blt κ n0 then ks.getD κ 0 else n + (κ - n0)
section
variable {P : Program} {ops : Array Oper} {n : Nat} {d : Option Tmp} {ty t : TypeId} {pos : String} {af : Array Edge} {x y : Operand}
theorem Con.at {f : FuncId} {ts : List T} {H0 H1 : HL} {out : T} {n0 n1 : Nat} (hc : Con P f ts H0 n0 out H1 n1) {ks : List Nat} (hks : ks.length = n0) (hkn : ∀ k ∈ ks, k < n) (hnd : ks.Nodup) (hB : belH n0 H0) {β : Env} {S : List Nat} {w : World} {vs : Array Value}
    (hv : All2 (fun t v => T.is β (View β (renH (sig n0 n ks) H0) S w) t v) (ts.map (T.ren (sig n0 n ks))) vs.toList) (hO : OwnsG P β n S (renH (sig n0 n ks) H0) w) :
    Calls P f vs w fun e w' => ∃ v β', e = .returned v ∧ Kept (blks β (renH (sig n0 n ks) H0)) w w' ∧ (∀ κ, κ < n → β' κ = β κ) ∧ Bel (n + (n1 - n0)) (out.ren (sig n0 n ks)).keys ∧ (out.ren (sig n0 n ks)).is β' (View β' (renH (sig n0 n ks) H1) S w') v ∧ Owns β' (n + (n1 - n0)) S (renH (sig n0 n ks) H1) w' ∧
      ∀ b ∈ blks β' (renH (sig n0 n ks) H1), b ∈ blks β (renH (sig n0 n ks) H0) ∨ w.heap.size ≤ b := by
  have hlt : ∀ κ, κ < n0 → sig n0 n ks κ < n ∧ sig n0 n ks κ = ks.getD κ 0 := fun κ hκ => by
    have h1 : sig n0 n ks κ = ks.getD κ 0 := by unfold sig; rw [show Nat.blt κ n0 = true by simpa using hκ]; rfl
    refine ⟨?_, h1⟩
    rw [h1]
    have : κ < ks.length := by omega
    simp only [List.getD_eq_getElem?_getD, List.getElem?_eq_getElem this, Option.getD_some]
    exact hkn _ (List.getElem_mem this)
  have hge : ∀ κ, n0 ≤ κ → sig n0 n ks κ = n + (κ - n0) := fun κ hκ => by
    unfold sig
    rw [Bool.eq_false_iff.2 fun h : Nat.blt κ n0 = true => by have := blt_of h; omega]; rfl
  have hinj : ∀ κ κ', κ < n0 → κ' < n0 → κ ≠ κ' → sig n0 n ks κ ≠ sig n0 n ks κ' := fun κ κ' h1 h2 hne he => by
    rw [(hlt κ h1).2, (hlt κ' h2).2] at he
    have e1 : κ < ks.length := by omega
    have e2 : κ' < ks.length := by omega
    simp only [List.getD_eq_getElem?_getD, List.getElem?_eq_getElem e1, List.getElem?_eq_getElem e2, Option.getD_some] at he
    exact hne ((List.getElem_inj hnd).1 he)
  obtain ⟨_, hn01, hc⟩ := hc
  refine (hc (β ∘ sig n0 n ks) S w vs (all2_map.1 hv |>.mono fun t v h => by
    have := T.is_ren.1 h
    rwa [View_ren] at this) ⟨⟨fun e he => ?_, fun e he e' he' hne b h1 h2 => ?_, fun b hb => ?_, hO.lt⟩, by rw [← View_ren]; exact hO.gl⟩).mono ?_
  · obtain ⟨h1, h2⟩ := hB e he
    have h3 := (hO.is (sig n0 n ks e.1, e.2.ren (sig n0 n ks)) (List.mem_map.2 ⟨e, he, rfl⟩)).2.2
    rw [View_ren] at h3
    exact ⟨h1, h2, Own.is_ren.1 h3⟩
  · exact hO.apart _ (List.mem_map.2 ⟨e, he, rfl⟩) _ (List.mem_map.2 ⟨e', he', rfl⟩) (hinj _ _ (hB e he).1 (hB e' he').1 hne) b h1 h2
  · rw [← blks_ren] at hb
    exact hO.out b hb
  · rintro e w' ⟨v, β1, rfl, k1, k2, k3, k4, k5, k6⟩
    obtain ⟨β', hβ'⟩ : ∃ β' : Env, β' = fun κ => if n ≤ κ then β1 (n0 + (κ - n)) else β κ := ⟨_, rfl⟩
    have e1 : ∀ κ, κ < n → β' κ = β κ := fun κ hκ => by rw [hβ']; exact if_neg (by omega)
    have e2 : ∀ κ, κ < n1 → (β' ∘ sig n0 n ks) κ = β1 κ := fun κ hκ => by
      by_cases h : κ < n0
      · exact (e1 _ (hlt κ h).1).trans (k2 κ h).symm
      · show β' (sig n0 n ks κ) = _
        rw [hge κ (by omega), hβ']
        have : n ≤ n + (κ - n0) := by omega
        simp only [this, if_true]
        congr 1; omega
    have hkeys : ∀ l : List Nat, Bel n1 l → Bel (n + (n1 - n0)) (l.map (sig n0 n ks)) := fun l hl κ hκ => by
      obtain ⟨q, hq, rfl⟩ := List.mem_map.1 hκ
      have := hl q hq
      by_cases h : q < n0
      · have := (hlt q h).1; omega
      · rw [hge q (by omega)]; omega
    have hbl : ∀ b, b ∈ blks β' (renH (sig n0 n ks) H1) ↔ b ∈ blks β1 H1 := fun b => by
      rw [blks_ren, mem_blks, mem_blks]
      exact ⟨fun ⟨e, he, hb⟩ => ⟨e, he, by rw [← e2 _ (k5.is e he).1]; exact hb⟩, fun ⟨e, he, hb⟩ => ⟨e, he, by rw [e2 _ (k5.is e he).1]; exact hb⟩⟩
    have hV : View β' (renH (sig n0 n ks) H1) S w' = View β1 H1 S w' := hide_congr (fun k => by simp only [List.mem_append, hbl]) w'
    refine ⟨v, β', rfl, by rw [blks_ren]; exact k1, e1, by rw [t_keys_ren]; exact hkeys _ k3, ?_, ⟨fun f hf => ?_, fun f hf f' hf' hne b h1 h2 => ?_, fun b hb => k5.out b ((hbl b).1 hb), k5.lt⟩, fun b hb => ?_⟩
    · rw [hV]
      exact T.is_ren.2 (T.keep (fun κ hκ => e2 κ (k3 κ hκ)) (Sub.refl _) k4)
    · obtain ⟨g, hg, rfl⟩ := List.mem_map.1 hf
      obtain ⟨h1, h2, h3⟩ := k5.is g hg
      refine ⟨?_, by rw [o_keys_ren]; exact hkeys _ h2, ?_⟩
      · have := hkeys [g.1] (fun κ hκ => by rw [List.mem_singleton.1 hκ]; exact h1)
        exact this _ (List.mem_singleton.2 rfl)
      · rw [hV]
        refine Own.is_ren.2 ?_
        show Own.is (β' ∘ sig n0 n ks) _ w' g.2 ((β' ∘ sig n0 n ks) g.1)
        rw [e2 _ h1]
        exact Own.keep (fun κ hκ => e2 κ (h2 κ hκ)) (Sub.refl _) (fun _ _ _ h => h) h3
    · obtain ⟨g, hg, rfl⟩ := List.mem_map.1 hf
      obtain ⟨g', hg', rfl⟩ := List.mem_map.1 hf'
      have hne' : g.1 ≠ g'.1 := fun h => hne (by simp only [h])
      have h1' : blk ((β' ∘ sig n0 n ks) g.1) = some b := h1
      have h2' : blk ((β' ∘ sig n0 n ks) g'.1) = some b := h2
      rw [e2 _ (k5.is g hg).1] at h1'
      rw [e2 _ (k5.is g' hg').1] at h2'
      exact k5.apart g hg g' hg' hne' b h1' h2'
    · rw [blks_ren]
      exact k6 b ((hbl b).1 hb)
theorem zip_is {β : Env} {V : World} {A : Act} : ∀ {xs : List Operand} {ts : List T}, xs.length = ts.length → (∀ e ∈ xs.zip ts, e.2.is β V (A.eval e.1)) → All2 (fun t v => T.is β V t v) ts (xs.map A.eval)
  | [], [], _, _ => trivial
  | x :: xs, t :: ts, hl, h => ⟨h (x, t) (by simp), zip_is (by simpa using hl) fun e he => h e (by simp only [List.zip_cons_cons, List.mem_cons]; exact .inr he)⟩
  | [], _ :: _, hl, _ => by simp at hl
  | _ :: _, [], hl, _ => by simp at hl
/-- A call that may write what one owns. -/
theorem OpT.callH {f : FuncId} {xs : List Operand} {ts : List T} {H0 H1 : HL} {out : T} {n0 n1 : Nat} {tys : Array TypeId} (ks : List Nat) (hc : Con P f ts H0 n0 out H1 n1) (hl : xs.length = ts.length) (hks : ks.length = n0) (hkn : ∀ k ∈ ks, k < n) (hnd : ks.Nodup) (hB : belH n0 H0) :
    OpT P ops (mkO d (.call ⟨.value (.func f), xs.toArray, tys⟩) ty pos af) n (xs.zip (ts.map (T.ren (sig n0 n ks)))) [] (renH (sig n0 n ks) H0) (out.ren (sig n0 n ks)) (renH (sig n0 n ks) H1) (n + (n1 - n0)) :=
  ⟨Nat.le_add_right _ _, fun β S w A K htin hb hO hK => by
    rw [if_pos (by simp [Region.wanted])]
    have hargs := zip_is (by simpa using hl) htin
    have hcall := hc.at hks hkn hnd hB (β := β) (S := S) (w := w) (vs := xs.toArray.map A.eval) (by simpa using hargs) hO
    unfold Oper.wp
    have e0 : A.eval (.func f) = .func (.func f) #[] #[] := rfl
    have he : (execOp A.eval (mkO d (.call ⟨.value (.func f), xs.toArray, tys⟩) ty pos af)).run P w = .ok (.enter f (xs.toArray.map A.eval)) w := by
      simp [execOp, resolve, e0, Deferred.ofValue, invoke, hc.1 _ w]
    rw [he]
    refine hcall.mono ?_
    rintro e w' ⟨v, β', rfl, k1, k2, k3, k4, k5, k6⟩
    exact hK v β' w' k1 k2 k3 k4 k5 k6⟩
theorem caps_all {β : Env} {V : World} : ∀ {cs : List Cap} {us : List Value}, All2 (fun c u => Cap.is β V c u) cs us → (∀ c ∈ cs, ∀ κ, c = .key κ → (β κ).oneCell' = true) → All2 (fun t v => T.is β V t v) (cs.map capU) us
  | [], [], _, _ => trivial
  | c :: cs, u :: us, h, hk => ⟨by
      cases c with
      | key κ => exact ⟨h.1, by rw [h.1]; exact hk _ (List.mem_cons_self ..) κ rfl⟩
      | one x => exact h.1
      | ag xs => obtain ⟨vs, h1, h2⟩ := h.1; exact ⟨vs, h1, all2_map.2 h2⟩, caps_all h.2 fun c hc => hk c (List.mem_cons_of_mem _ hc)⟩
  | [], _ :: _, h, _ => h.elim
  | _ :: _, [], h, _ => h.elim
theorem own_one {β : Env} {V w : World} {o : Own} {v : Value} (h : o.is β V w v) : v.oneCell' = true := by
  cases o with
  | box ty cs => obtain ⟨b, us, rfl, _⟩ := h; rfl
  | row ty k ls => rcases h.2 with ⟨rfl, _⟩ | ⟨g, c, cur, us, rfl, _⟩ <;> rfl
  | map m => obtain ⟨r, o, rfl, _⟩ := h; rfl
  | rowc ty k ls m c => obtain ⟨_, g, cur, us, rfl, _⟩ := h; rfl
/-- A closure's call. -/
theorem OpT.dynH {f : FuncId} {xs : List Operand} {ts : List T} {cs : List Cap} {H0 H1 : HL} {out : T} {n0 n1 : Nat} {tys : Array TypeId} (ks : List Nat) (hc : Con P f (ts ++ cs.map capU) H0 n0 out H1 n1) (hl : xs.length = ts.length) (hks : ks.length = n0) (hkn : ∀ k ∈ ks, k < n) (hnd : ks.Nodup) (hB : belH n0 H0) (hcs : ∀ c ∈ cs, ∀ κ, c = .key κ → κ ∈ keys H0) :
    OpT P ops (mkO d (.call ⟨.value x, xs.toArray, tys⟩) ty pos af) n ((x, .one (.clo f (cs.map (Cap.ren (sig n0 n ks))))) :: xs.zip (ts.map (T.ren (sig n0 n ks)))) [] (renH (sig n0 n ks) H0) (out.ren (sig n0 n ks)) (renH (sig n0 n ks) H1) (n + (n1 - n0)) :=
  ⟨Nat.le_add_right _ _, fun β S w A K htin hb hO hK => by
    rw [if_pos (by simp [Region.wanted])]
    have hargs := zip_is (by simpa using hl) fun e he => htin e (List.mem_cons_of_mem _ he)
    obtain ⟨us, e1, h2⟩ := htin _ (List.mem_cons_self ..)
    have hcaps := caps_all h2 fun c hc κ hκ => by
      obtain ⟨c', hc', rfl⟩ := List.mem_map.1 hc
      cases c' with
      | key κ' =>
        cases hκ
        obtain ⟨e, he, rfl⟩ := mem_keys.1 (hcs _ hc' κ' rfl)
        exact own_one (hO.is (sig n0 n ks e.1, e.2.ren (sig n0 n ks)) (List.mem_map.2 ⟨e, he, rfl⟩)).2.2
      | one x => cases hκ
      | ag xs => cases hκ
    have hcm : (cs.map (Cap.ren (sig n0 n ks))).map capU = (cs.map capU).map (T.ren (sig n0 n ks)) := by
      rw [List.map_map, List.map_map]
      refine List.map_congr_left fun c _ => ?_
      cases c with
      | key κ => rfl
      | one x => rfl
      | ag xs => simp [capU, Cap.ren, T.ren, agD, C.ren, Function.comp_def]
    rw [hcm] at hcaps
    have hall := hargs.append hcaps
    have hcall := hc.at hks hkn hnd hB (β := β) (S := S) (w := w) (vs := xs.toArray.map A.eval ++ us.toArray) (by rw [List.map_append]; simpa using hall) hO
    unfold Oper.wp
    have he : (execOp A.eval (mkO d (.call ⟨.value x, xs.toArray, tys⟩) ty pos af)).run P w = .ok (.enter f (xs.toArray.map A.eval ++ us.toArray)) w := by
      simp only [execOp, resolve, e1, Deferred.ofValue, invoke, Sem.run_bind, Sem.run_pure, Result.andThen_ok, Array.empty_append, hc.1 _ w]
    rw [he]
    refine hcall.mono ?_
    rintro e w' ⟨v, β', rfl, k1, k2, k3, k4, k5, k6⟩
    exact hK v β' w' k1 k2 k3 k4 k5 k6⟩
end
end Go.Sv
namespace Go.Sv
open Go Go.RowKit

section
variable {P : Program} {ops : Array Oper} {n : Nat} {d : Option Tmp} {ty t : TypeId} {pos : String} {af : Array Edge} {x : Operand} {F : FL} {H : HL} {acc : List Acc} {l : List Oper} {tin0 : TL} {out : T} {Fin : Nat → FL → HL → List Acc → Prop}
theorem OpT.cloD {f : FuncId} {xs : List Operand} {cs : List D} (hl : xs.length = cs.length := by rfl) : OpT P ops (mkO d (.makeFunc (.func f) #[] xs.toArray) ty pos af) n (xs.zip (cs.map dT)) [] [] (dT (Sv.cloD f cs)) [] n := .runs rfl (fun _ => bel0 rfl) fun β V w A _ h =>
  ⟨.func (.func f) #[] (xs.map A.eval).toArray, by simp [execOp, Instr.makeFunc], _, rfl, zip_all (g := dT) (fun c v h => h) hl h⟩
theorem OpT.cloD1 {f : FuncId} {c : D} : OpT P ops (mkO d (.makeFunc (.func f) #[] #[x]) ty pos af) n [(x, dT c)] [] [] (dT (Sv.cloD f [c])) [] n := .cloD (xs := [x]) (cs := [c])
theorem OpT.cloD0 {f : FuncId} : OpT P ops (mkO d (.makeFunc (.func f) #[] #[]) ty pos af) n [] [] [] (dT (Sv.cloD f [])) [] n := .cloD (xs := []) (cs := [])
theorem OpT.nilFD {f : FuncId} {cs : List D} : OpT P ops (mkO d (.nilCheck x) ty pos af) n [(x, dT (Sv.cloD f cs))] [] [] (dT (Sv.cloD f cs)) [] n := .runs rfl (fun h => h _ (List.mem_singleton.2 rfl)) fun β V w A _ h => by
  obtain ⟨us, e1, h2⟩ := in1 h
  exact ⟨A.eval x, by simp only [execOp, e1, Sem.run_pure], us, e1, h2⟩
/-- A function value's call. -/
theorem OpT.dynD {f : FuncId} {xs : List Operand} {ts : List T} {cs : List D} {tys : Array TypeId} (hc : ∀ n, Con P f (ts ++ cs.map dT) [] n out [] n) (hl : xs.length = ts.length := by rfl) : OpT P ops (mkO d (.call ⟨.value x, xs.toArray, tys⟩) ty pos af) n ((x, dT (Sv.cloD f cs)) :: xs.zip ts) [] [] out [] n :=
  ⟨Nat.le_refl n, fun β S w A K htin hb hO hK => by
    rw [if_pos (by simp [Region.wanted])]
    have hargs := zip_is hl fun e he => htin e (List.mem_cons_of_mem _ he)
    obtain ⟨us, e1, h2⟩ := htin _ (List.mem_cons_self ..)
    have hall := All2.append hargs (all2_map (R := fun t v => T.is β (hide S w) t v) (f := dT).2 h2)
    have hcall := (hc n).2.2 β S w (xs.toArray.map A.eval ++ us.toArray) (by simpa using hall) hO
    unfold Oper.wp
    have he : (execOp A.eval (mkO d (.call ⟨.value x, xs.toArray, tys⟩) ty pos af)).run P w = .ok (.enter f (xs.toArray.map A.eval ++ us.toArray)) w := by
      simp only [execOp, resolve, e1, Deferred.ofValue, invoke, Sem.run_bind, Sem.run_pure, Result.andThen_ok, Array.empty_append, (hc n).1 _ w]
    rw [he]
    refine hcall.mono ?_
    rintro e w' ⟨v, β', rfl, k1, k2, k3, k4, k5, k6⟩
    exact hK v β' w' k1 k2 k3 k4 k5 k6⟩
theorem Ch.dy {d : Tmp} {f : FuncId} {xs : List Operand} {ts : List T} {cs : List D} {tys : Array TypeId} (hc : ∀ n, Con P f (ts ++ cs.map dT) [] n out [] n) (hl : xs.length = ts.length := by rfl) (hF : Tin F ((x, dT (Sv.cloD f cs)) :: xs.zip ts) := by first | exact ⟨rfl, trivial⟩ | exact ⟨rfl, rfl, trivial⟩ | exact ⟨rfl, rfl, rfl, trivial⟩ | exact ⟨rfl, rfl, rfl, rfl, trivial⟩)
    (r : Ch P ops Fin l n ((d, out) :: F) H (acc ++ [Rec.acc ⟨(x, dT (Sv.cloD f cs)) :: xs.zip ts, [], [], out, [], n, n⟩ (some d)])) : Ch P ops Fin (mkO (some d) (.call ⟨.value x, xs.toArray, tys⟩) ty pos af :: l) n F H acc := .p (.dynD hc hl) hF r
end
end Go.Sv
namespace Go.Sv
open Go Go.RowKit

/-- A slice without room behind it. -/
def slF (k : Nat) (ls : List (List D)) : D where
  is w v := (∃ a, v = .slice a ls.length ls.length) ∧ (sl k ls).is w v
  mono := by rintro w w' v hS ⟨h1, h2⟩; exact ⟨h1, (sl k ls).mono hS h2⟩
  one := by rintro w v ⟨_, h⟩; exact (sl k ls).one h
theorem slice_is {V : World} {a : Option Addr} {c l h m k : Nat} {ls : List (List D)} (hx : (sl k ls).is V (.slice a ls.length c)) (hlh : l ≤ h) (hh : h ≤ ls.length) (hhm : h ≤ m) (hmc : m ≤ c) : (sl k ((ls.take h).drop l)).is V (.slice (if m = l then a else a.map (·.add (l * k))) (h - l) (m - l)) := by
  obtain ⟨a', c', he, h1, h2, h3⟩ := hx
  cases he
  have hlen : ((ls.take h).drop l).length = h - l := by rw [List.length_drop, List.length_take, Nat.min_eq_left hh]
  refine ⟨_, _, by rw [hlen], by omega, by omega, fun j l' hj => ?_⟩
  have hjl := (List.getElem?_eq_some_iff.1 hj).1
  rw [hlen] at hjl
  rw [List.getElem?_drop, List.getElem?_take, if_pos (by omega)] at hj
  obtain ⟨h4, b, o, us, rfl, h5, h6⟩ := h3 (l + j) l' hj
  refine ⟨h4, b, o + l * k, us, ?_, ?_, h6⟩
  · rw [if_neg (by omega)]; simp [Addr.add_mid]
  · rw [show o + l * k + j * k = o + (l + j) * k by rw [Nat.add_mul]; omega]; exact h5
theorem bound_run {P : Program} {w : World} {i y : Nat} {code : BoundsCode} (h : i ≤ y) : (Instr.sliceBound (.int .i64 i) y code).run P w = .ok i w := by
  simp [Instr.sliceBound, asIntOf, h]
section
variable {P : Program} [Lays P] {ops : Array Oper} {n : Nat} {d : Option Tmp} {ty t : TypeId} {pos : String} {af : Array Edge} {x y z : Operand} {e k we : Nat} {fl : List (Nat × Nat)} {zs : List ZK} {ls : List (List D)} {le : Lay}
theorem OpT.clip (ht : lay P t = some ⟨.slice e, we, fl, zs⟩ := by rfl) (he : lay P e = some le := by rfl) (hk : le.size = k := by rfl) : OpT P ops (mkO d (.slice t x none (some y) (some z)) ty pos af) n [(x, dT (sl k ls)), (y, iT ls.length), (z, iT ls.length)] [] [] (dT (slF k ls)) [] n := .runD rfl fun β V w A _ h => by
  obtain ⟨h1, h2, h3⟩ := in3 h
  obtain ⟨a, c, e1, hc, hm, hl⟩ := id h1
  have e2 : A.eval y = .int .i64 ls.length := h2
  have e3 : A.eval z = .int .i64 ls.length := h3
  have h1' : (sl k ls).is V (.slice a ls.length c) := e1 ▸ h1
  have h4 := slice_is h1' (l := 0) (h := ls.length) (m := ls.length) (Nat.zero_le _) (Nat.le_refl _) (Nat.le_refl _) hc
  rw [List.take_length, List.drop_zero, Nat.sub_zero] at h4
  refine ⟨_, ?_, ⟨_, rfl⟩, h4⟩
  simp [execOp, e1, e2, e3, Instr.sliceAt, Instr.slice, Instr.sliceBounds, Sem.run_bind, run_underlying (lay_slice ht) w, lay_size he w, hk, bound_run, hc]
theorem OpT.from (i : Nat) (hi : i ≤ ls.length) (ht : lay P t = some ⟨.slice e, we, fl, zs⟩ := by rfl) (he : lay P e = some le := by rfl) (hk : le.size = k := by rfl) : OpT P ops (mkO d (.slice t x (some y) none none) ty pos af) n [(x, dT (sl k ls)), (y, iT i)] [] [] (dT (sl k (ls.drop i))) [] n := .runD rfl fun β V w A _ h => by
  obtain ⟨h1, h2⟩ := in2 h
  obtain ⟨a, c, e1, hc, hm, hl⟩ := id h1
  have e2 : A.eval y = .int .i64 i := h2
  have h1' : (sl k ls).is V (.slice a ls.length c) := e1 ▸ h1
  have h4 := slice_is h1' (l := i) (h := ls.length) (m := c) hi (Nat.le_refl _) hc (Nat.le_refl _)
  rw [List.take_length] at h4
  refine ⟨_, ?_, h4⟩
  simp [execOp, e1, e2, Instr.sliceAt, Instr.slice, Instr.sliceBounds, Sem.run_bind, run_underlying (lay_slice ht) w, lay_size he w, hk, bound_run, hi]
end
/-- Is it nil? If so, it is empty. -/
def nilOf (ls : List (List D)) : D where
  is _ v := ∃ b, v = .bool b ∧ (b = true → ls = [])
  mono _ h := h
  one := by rintro w v ⟨b, rfl, _⟩; rfl
section
variable {P : Program} [Lays P] {ops : Array Oper} {n : Nat} {d : Option Tmp} {ty t : TypeId} {pos : String} {af : Array Edge} {x y z : Operand} {k e we : Nat} {fl : List (Nat × Nat)} {zs : List ZK} {ls : List (List D)}
theorem nil_run {w : World} {A : Act} {a : Option Addr} {l c : Nat} (t' : TypeId) (ht : lay P t = some ⟨.slice e, we, fl, zs⟩) (e1 : A.eval x = .slice a l c) (e2 : A.eval y = .slice none 0 0) : (execOp A.eval (mkO d (.binOp .eql t x y t') ty pos af)).run P w = .ok (.value (.bool a.isNone)) w := by
  simp [execOp, e1, e2, eqGuard, binOp, run_equal_slice_nil w t e a l c (lay_slice ht)]
theorem OpT.eqNil {t' : TypeId} {h1 : Value.oneCell' (.slice none 0 0) = true} (ht : lay P t = some ⟨.slice e, we, fl, zs⟩ := by rfl) : OpT P ops (mkO d (.binOp .eql t x y t') ty pos af) n [(x, dT (sl k ls)), (y, dT (lit (.slice none 0 0) h1))] [] [] (dT (nilOf ls)) [] n := .runD rfl fun β V w A _ h => by
  obtain ⟨⟨a, c, e1, h2, h3, h4⟩, e2⟩ := in2 h
  refine ⟨_, nil_run t' ht e1 e2, _, rfl, fun hb => ?_⟩
  cases ls with
  | nil => rfl
  | cons l ls =>
    obtain ⟨_, b, o, us, rfl, _⟩ := h4 0 l rfl
    cases hb
theorem OpT.eqNilO {κ q : Nat} {t' : TypeId} {h1 : Value.oneCell' (.slice none 0 0) = true} (ht : lay P t = some ⟨.slice e, we, fl, zs⟩ := by rfl) : OpT P ops (mkO d (.binOp .eql t x y t') ty pos af) n [(x, .one (.key κ)), (y, dT (lit (.slice none 0 0) h1))] [(κ, .row q k ls)] [] (dT (nilOf ls)) [] n :=
  ⟨Nat.le_refl n, fun β S w A K htin hb hO hK => by
    rw [if_pos (by simp [Region.wanted])]
    obtain ⟨_, _, hr⟩ := hO.is (κ, Own.row q k ls) (List.mem_cons_self ..)
    obtain ⟨hx, e2⟩ := in2 htin
    have h2 : A.eval x = β κ := hx.1
    have h3 : ∃ a c, A.eval x = .slice a ls.length c ∧ (a = none → ls = []) := by
      rw [h2]
      rcases hr.2 with ⟨h, rfl⟩ | ⟨g, c, _, _, h, _⟩
      · exact ⟨none, 0, h, fun _ => rfl⟩
      · exact ⟨_, _, h, nofun⟩
    obtain ⟨a, c, e1, h4⟩ := h3
    unfold Oper.wp
    rw [nil_run t' ht e1 e2]
    exact hK _ β w (Kept.refl _ _) (fun _ _ => rfl) (bel0 rfl) ⟨_, rfl, fun hb => h4 (by cases a <;> simp_all)⟩ hO.toOwns nofun⟩
end
theorem W.condNil {cx : Cx} {n : Nat} {F : FL} {H : HL} {Q : Exit → Act → World → Prop} {c : Operand} {x y : Code} {ls : List (List D)} (hc : opT F c = some (dT (nilOf ls))) (h1 : ls = [] → Wk cx n F H (x.wp cx.P Q)) (h2 : Wk cx n F H (y.wp cx.P Q)) : Wk cx n F H ((Code.cond c x y).wp cx.P Q) := fun β a w hh => by
  obtain ⟨b, hb, hn⟩ := opT_is hh hc
  refine wp_cond_split hb (fun he => h1 (hn he) β a w hh) fun _ => h2 β a w hh
end Go.Sv
