/- Part 29 of what StageOrder and StagePlans ask: for every input each returns true, and its input reads as it did. No condition. -/
import Derived.Test.YtelkpflpgpdkdaaGreatDoorPt21
import Derived.Test.YtelkpflpgpdkdaaGreatDoorPt28
namespace Go.Sv
open Go
open Go.RowKit
theorem dropNil {α : Type} (l : List α) {i : Nat} (h : l.length ≤ i) : l.drop i = [] := List.drop_eq_nil_of_le h
theorem Con.borrow {P : Program} {f : FuncId} {args args' : List T} {H0 : HL} {x : D} {n0 : Nat} (h : ∀ n, Con P f args' [] n (dT x) [] n) (ha : Lend args H0 args') (hx : ∀ w w' v, x.is w v → x.is w' v) : Con P f args H0 n0 (dT x) H0 n0 :=
  ⟨(h n0).1, Nat.le_refl _, fun β S w vs hv hO => by
    have hV : Sub (View β H0 S w) (View β [] S w) := hide_sub (Kept.refl [] w) fun q _ hq => ⟨by simp, fun hm => hq (List.mem_append_right _ hm)⟩
    refine ((h n0).2.2 β S w vs (ha.is hO.toOwns (fun _ h => h) hv) ⟨⟨nofun, nofun, nofun, hO.lt⟩, hO.gl.mono hV⟩).mono ?_
    rintro e w' ⟨v, β', h1, h2, h3, h4, h5, h6, h7⟩
    have hk : Kept [] w w' := ⟨h2.os, h2.tape, h2.output, h2.size, fun k hk _ => h2.block k hk (by simp [blks])⟩
    have hV2 : Sub (View β H0 S w) (View β H0 S w') := hide_sub hk fun q _ hq => ⟨by simp, hq⟩
    refine ⟨v, β, h1, ⟨hk.os, hk.tape, hk.output, hk.size, fun k hk' _ => hk.block k hk' (by simp)⟩, fun _ _ => rfl, bel0 rfl, hx _ _ _ h5, ⟨fun e he => ?_, hO.apart, hO.out, fun b hb => Nat.lt_of_lt_of_le (hO.lt b hb) hk.size⟩, fun b hb => .inl hb⟩
    obtain ⟨k1, k2, k3⟩ := hO.is e he
    exact ⟨k1, k2, Own.keep (fun _ _ => rfl) hV2 (fun b _ x hx => hk.heap (by simp) hx) k3⟩⟩
/-- What one owns, told otherwise. -/
theorem Hold.tell {cx : Cx} {β : Env} {n : Nat} {F : FL} {H H2 : HL} {a : Act} {w : World} (h : Hold cx β n F H a w) (κ : Nat) {o o' : Own} (hR : Rep κ o o' H H2) (hk : o'.keys = []) (hi : ∀ W, Own.is β W w o (β κ) → Own.is β W w o' (β κ)) : Hold cx β n F H2 a w := by
  obtain ⟨hm, hsub⟩ := hR.mem
  have hin : ∀ e ∈ H2, ∃ x, (e.1, x) ∈ H := fun e he => by
    rcases (mem_upd e).1 ((hsub e).1 he) with h1 | ⟨h1, _⟩
    · rw [List.mem_singleton.1 h1]; exact ⟨_, hm⟩
    · exact ⟨_, h1⟩
  have hout : ∀ e ∈ H, ∃ x, (e.1, x) ∈ H2 := fun e he => by
    by_cases hk : e.1 = κ
    · exact ⟨o', by rw [hk]; exact (hsub _).2 ((mem_upd _).2 (.inl (List.mem_singleton.2 rfl)))⟩
    · exact ⟨e.2, (hsub _).2 ((mem_upd _).2 (.inr ⟨he, fun h => hk (by simpa [keys] using h)⟩))⟩
  have hb : ∀ b, b ∈ blks β H2 ↔ b ∈ blks β H := fun b => by
    rw [mem_blks, mem_blks]
    constructor
    · rintro ⟨e, he, h1⟩; obtain ⟨x, hx⟩ := hin e he; exact ⟨_, hx, h1⟩
    · rintro ⟨e, he, h1⟩; obtain ⟨x, hx⟩ := hout e he; exact ⟨_, hx, h1⟩
  have hV : View β H2 cx.S w = View β H cx.S w := hide_congr (fun k => by simp only [List.mem_append, hb]) w
  refine ⟨h.size, h.defers, h.le, h.env, h.kept, fun t s hs => by rw [hV]; exact h.tm t s hs, ⟨fun e he => ?_, fun e he e' he' hne b h1 => ?_, fun b hm => h.ow.out b ((hb b).1 hm), h.ow.lt⟩, fun b hm => h.own b ((hb b).1 hm), h.gl⟩
  · rw [hV]
    rcases (mem_upd e).1 ((hsub e).1 he) with h1 | ⟨h1, _⟩
    · rw [List.mem_singleton.1 h1]
      obtain ⟨k1, _, k3⟩ := h.ow.is _ hm
      exact ⟨k1, by show Bel n o'.keys; rw [hk]; exact nofun, hi _ k3⟩
    · exact h.ow.is e h1
  · obtain ⟨x, hx⟩ := hin e he
    obtain ⟨x', hx'⟩ := hin e' he'
    exact h.ow.apart _ hx _ hx' hne b h1
/-- A row's room, named. -/
theorem W.cap {cx : Cx} {n : Nat} {F : FL} {H : HL} {H2 : Nat → HL} {K : Act → World → Prop} (κ : Nat) {e k : Nat} {ls : List (List D)} (hne : 0 < ls.length) (hR : ∀ c, Rep κ (.row e k ls) (.rowc e k ls 0 c) H (H2 c) := by intro c; (repeat (first | exact Rep.here (by rfl) | (apply Rep.there; rfl)))) (h : ∀ c, ls.length ≤ c → c ≤ maxLen → Wk cx n F (H2 c) K) : Wk cx n F H K := fun β a w hh => by
  obtain ⟨hm, _⟩ := (hR 0).mem
  obtain ⟨_, _, h1⟩ := hh.ow.is _ hm
  rcases h1.2 with ⟨_, rfl⟩ | ⟨g, c, cur, us, r1, r2, r3, r4, r5, r6, r7⟩
  · simp at hne
  refine h c r3 r4 β a w (hh.tell κ (hR c) rfl fun _ hi => ?_)
  obtain ⟨hk, ⟨h9, _⟩ | ⟨g', c', cur', us', q1, q2⟩⟩ := hi
  · rw [r1] at h9; cases h9
  · have e1 : Value.slice (some ⟨g, 0, none⟩) ls.length c = .slice (some ⟨g', 0, none⟩) ls.length c' := r1.symm.trans q1
    cases e1
    exact ⟨hk, g, cur', us', q1, q2⟩
theorem W.uncap {cx : Cx} {n : Nat} {F : FL} {H H2 : HL} {K : Act → World → Prop} (κ : Nat) {e k c : Nat} {ls : List (List D)} (hR : Rep κ (.rowc e k ls 0 c) (.row e k ls) H H2 := by (repeat (first | exact Rep.here (by rfl) | (apply Rep.there; rfl)))) (h : Wk cx n F H2 K) : Wk cx n F H K := fun β a w hh =>
  h β a w (hh.tell κ hR rfl fun _ ⟨hk, g, cur, us, q1, q2⟩ => ⟨hk, .inr ⟨g, c, cur, us, q1, q2⟩⟩)
/-- A temporary that holds a row: its address and its length are known, whatever is written into it. -/
theorem W.hdr {cx : Cx} {n : Nat} {F : FL} {H : HL} {K : Act → World → Prop} (t κ : Nat) {e k m c : Nat} {ls : List (List D)} (ht : look F t = some (.one (.key κ)) := by rfl) (hH : look H κ = some (.rowc e k ls m c) := by rfl) (h : Wk cx n ((t, .one (.sub κ 0 (ls.length + m) c)) :: F) H K) : Wk cx n F H K := fun β A w hh => h β A w ⟨hh.size, hh.defers, hh.le, hh.env, hh.kept, fun t' s hs => by
    rw [look_cons] at hs
    split at hs
    · rename_i he
      simp only at he; subst he; cases hs
      obtain ⟨h1, h2⟩ := hh.tm t _ ht
      refine ⟨h1, ?_⟩
      obtain ⟨_, _, _, g, cur, us, r1, _⟩ := hh.ow.is _ (look_mem hH)
      have r1 : β κ = _ := r1
      exact ⟨g, 0, by rw [r1]; rfl, h2.1.trans r1⟩
    · exact hh.tm t' s hs, hh.ow, hh.own, hh.gl⟩
section
variable {P : Program} [Lays P] {ops : Array Oper} {n : Nat} {d : Option Tmp} {ty t : TypeId} {pos : String} {af : Array Edge} {x y : Operand} {κ q e k we j o m c : Nat} {fl : List (Nat × Nat)} {z : List ZK} {ls : List (List D)} {le : Lay}
omit [Lays P] in
/-- What is read of a row's header. -/
theorem OpT.rd {op : Oper} {tin : TL} {out : T} {w1 : Own} (hg : op.guard = none) (hk : ∀ q ∈ out.keys, q = κ)
    (h : ∀ (β : Env) (V w : World) (A : Act), (∀ e ∈ tin, e.2.is β V (A.eval e.1)) → w1.is β V w (β κ) → ∃ v, (execOp A.eval op).run P w = .ok (.value v) w ∧ out.is β V v) : OpT P ops op n tin [(κ, w1)] [] out [] n :=
  ⟨Nat.le_refl n, fun β S w A K htin hb hO hK => by
    rw [if_pos (by simp [Region.wanted, hg])]
    obtain ⟨hκ, _, hr⟩ := hO.is (κ, w1) (List.mem_cons_self ..)
    obtain ⟨v, h1, h2⟩ := h β _ w A htin hr
    unfold Oper.wp
    rw [h1]
    exact hK v β w (Kept.refl _ _) (fun _ _ => rfl) (fun q hq => by rw [hk q hq]; exact hκ) h2 hO.toOwns nofun⟩
omit [Lays P] in
/-- The row has another header. -/
theorem OpT.rekey {op : Oper} {tin : TL} {w1 w2 : Own} (hg : op.guard = none) (hk2 : w2.keys = [])
    (h : ∀ (β : Env) (V w : World) (A : Act), (∀ e ∈ tin, e.2.is β V (A.eval e.1)) → w1.is β V w (β κ) → ∃ v, (execOp A.eval op).run P w = .ok (.value v) w ∧ (∀ β', w2.is β' V w v) ∧ blk v = blk (β κ) ∧ v.oneCell' = true) : OpT P ops op n tin [] [(κ, w1)] (.one (.key n)) [(n, w2)] (n + 1) :=
  ⟨Nat.le_succ n, fun β S w A K htin hb hO hK => by
    rw [if_pos (by simp [Region.wanted, hg])]
    obtain ⟨hκ, _, hr⟩ := hO.is (κ, w1) (List.mem_cons_self ..)
    obtain ⟨v, hrun, hrow, hblk, hone⟩ := h β _ w A htin hr
    unfold Oper.wp
    rw [hrun]
    obtain ⟨β', hβ'⟩ : ∃ β' : Env, β' = fun κ' => if κ' = n then v else β κ' := ⟨_, rfl⟩
    have hn : β' n = v := by rw [hβ']; exact if_pos rfl
    have hlt : ∀ κ, κ < n → β' κ = β κ := fun κ hκ => by rw [hβ']; exact if_neg (by omega)
    have hbl : blks β' ([] ++ [(n, w2)]) = blks β ([] ++ [(κ, w1)]) := by
      show blks β' [(n, _)] = blks β [(κ, _)]
      simp only [blks, List.filterMap_cons, List.filterMap_nil, hn, hblk]
    have hV : View β' ([] ++ [(n, w2)]) S w = View β ([] ++ [(κ, w1)]) S w := by unfold View; rw [hbl]
    refine hK v β' w (Kept.refl _ _) hlt ?_ ⟨hn.symm, hone⟩ ⟨fun f hf => ?_, fun f hf f' hf' hne => ?_, fun b hm => ?_, fun b hb => hO.lt b hb⟩ fun b hm => .inl (hbl ▸ hm)
    · intro κ hκ
      rw [List.mem_singleton.1 hκ]
      exact Nat.lt_succ_self n
    · cases List.mem_singleton.1 hf
      refine ⟨Nat.lt_succ_self n, by show Bel (n + 1) w2.keys; rw [hk2]; exact nofun, ?_⟩
      rw [hV, hn]
      exact hrow β'
    · cases List.mem_singleton.1 hf
      cases List.mem_singleton.1 hf'
      exact absurd rfl hne
    · rw [hbl] at hm
      exact hO.out b hm⟩
omit [Lays P] in
/-- A stretch of a row is written. -/
theorem OpT.wr {op : Oper} {tin : TL} {out : T} {hr : HL} {w1 w2 : Own} (hg : op.guard = none) (hk : out.keys = []) (hk2 : w2.keys = []) (hne : ∀ e ∈ hr, e.1 ≠ κ)
    (h : ∀ (β : Env) (V w : World) (A : Act), (∀ e ∈ tin, e.2.is β V (A.eval e.1)) → (∀ e ∈ hr, e.2.is β V w (β e.1)) → (∀ e ∈ hr, ∀ b, blk (β e.1) = some b → blk (β κ) ≠ some b) → w1.is β V w (β κ) →
      ∃ r g off vs, (execOp A.eval op).run P w = .ok r (w.setCells g off vs) ∧ blk (β κ) = some g ∧ (r = .skip ∧ out = .any ∨ ∃ v, r = .value v ∧ ∀ V', out.is β V' v) ∧ ∀ V', Sub V V' → w2.is β V' (w.setCells g off vs) (β κ)) : OpT P ops op n tin hr [(κ, w1)] out [(κ, w2)] n := by
  refine ⟨Nat.le_refl n, fun β S w A K htin hb hO hK => ?_⟩
  rw [if_pos (by simp [Region.wanted, hg])]
  have hmk : (κ, w1) ∈ hr ++ [(κ, w1)] := List.mem_append_right _ (List.mem_singleton.2 rfl)
  obtain ⟨h1, _, h3⟩ := hO.is _ hmk
  obtain ⟨r, g, off, vs, hrun, hbg, hr', how⟩ := h β _ w A htin (fun e he => (hO.is e (List.mem_append_left _ he)).2.2) (fun e he b hb => hO.apart e (List.mem_append_left _ he) _ hmk (hne e he) b hb) h3
  unfold Oper.wp
  rw [hrun]
  have hbl : blks β (hr ++ [(κ, w1)]) = blks β (hr ++ [(κ, w2)]) := by unfold blks; rw [List.filterMap_append, List.filterMap_append]; rfl
  have hbw : blks β [(κ, w1)] = [g] := by simp [blks, hbg]
  have hkept : Kept [g] w (w.setCells g off vs) := setCells_kept g _ _ w
  have hV : Sub (View β (hr ++ [(κ, w1)]) S w) (View β (hr ++ [(κ, w2)]) S (w.setCells g off vs)) := by
    unfold View
    rw [← hbl]
    exact hide_sub hkept fun b _ hn => ⟨fun hm => hn (List.mem_append_left _ (by rw [List.mem_singleton.1 hm]; exact mem_blks.2 ⟨_, hmk, hbg⟩)), hn⟩
  have fin : ∀ v, out.is β (View β (hr ++ [(κ, w2)]) S (w.setCells g off vs)) v → K (A.put op.dst v) (w.setCells g off vs) := fun v hv => by
    refine hK v β _ (hbw ▸ hkept) (fun _ _ => rfl) (bel0 hk) hv ⟨fun e he => ?_, fun e he e' he' hn b hb1 => ?_, fun b hm => ?_, fun b hb => ?_⟩ fun b hm => .inl (by
      have : blks β [(κ, w2)] = blks β [(κ, w1)] := rfl
      exact this ▸ hm)
    · rcases List.mem_append.1 he with he | he
      · obtain ⟨k1, k2, k3⟩ := hO.is e (List.mem_append_left _ he)
        exact ⟨k1, k2, Own.keep (fun _ _ => rfl) hV (fun b hb x hx => hkept.heap (fun hm => hO.apart e (List.mem_append_left _ he) _ hmk (hne e he) b hb (by rw [List.mem_singleton.1 hm]; exact hbg)) hx) k3⟩
      · rw [List.mem_singleton.1 he]
        exact ⟨h1, by show Bel n w2.keys; rw [hk2]; exact nofun, how _ hV⟩
    · have hin : ∀ e ∈ hr ++ [(κ, w2)], ∃ x, (e.1, x) ∈ hr ++ [(κ, w1)] := fun e he => by
        rcases List.mem_append.1 he with he | he
        · exact ⟨_, List.mem_append_left _ he⟩
        · rw [List.mem_singleton.1 he]; exact ⟨_, hmk⟩
      obtain ⟨x, hx⟩ := hin e he
      obtain ⟨x', hx'⟩ := hin e' he'
      exact hO.apart _ hx _ hx' hn b hb1
    · exact hO.out b (hbl ▸ hm)
    · rw [setCells_size]; exact hO.lt b hb
  rcases hr' with ⟨rfl, rfl⟩ | ⟨v, rfl, hv⟩
  · exact fin undef trivial
  · exact fin v (hv _)
theorem OpT.indexS {ki : IntKind} {i : Int} (hj : j < m) (hij : i = (j : Int) := by rfl) (ht : lay P t = some ⟨.slice e, we, fl, z⟩ := by rfl) (he : lay P e = some le := by rfl) (hk : le.size = k := by rfl) : OpT P ops (mkO d (.indexAddr t x y) ty pos af) n [(x, .one (.sub κ o m c)), (y, dT (lit (.int ki i)))] [] [] (.one (.ptr κ (o + j * k))) [] n := .runs rfl (fun h => h _ (List.mem_cons_self ..)) fun β V w A _ h => by
  obtain ⟨hx, hy⟩ := in2 h
  have e2 : A.eval y = .int ki i := hy
  obtain ⟨b, o', h1, e1⟩ := hx
  have hadd : (⟨b, o' + o, none⟩ : Addr).add (j * k) = ⟨b, o' + o + j * k, none⟩ := Addr.add_mid b _ _
  refine ⟨.pointer (some ⟨b, o' + o + j * k, none⟩), ?_, b, o', h1, by rw [Nat.add_assoc]⟩
  subst hij
  simp [execOp, e1, e2, Instr.indexAt, asIntOf, Sem.run_bind, run_underlying (lay_slice ht) w, lay_size he w, hk, hj, hadd]
/-- s[i:] that nothing wants. -/
theorem OpT.fromN {i : Nat} (hi : i ≤ ls.length) (ht : lay P t = some ⟨.slice e, we, fl, z⟩ := by rfl) (he : lay P e = some le := by rfl) (hk : le.size = k := by rfl) : OpT P ops (mkO d (.slice t x (some y) none none) ty pos af) n [(x, .one (.key κ)), (y, iT i)] [(κ, .row q k ls)] [] .any [] n := .rd rfl nofun fun β V w A h hr => by
  obtain ⟨hx, hy⟩ := in2 h
  have e2 : A.eval y = .int .i64 i := hy
  have e0 : A.eval x = β κ := hx.1
  obtain ⟨hkl, ⟨h1, rfl⟩ | ⟨g, c, cur, us, h1, h2, h3, _⟩⟩ := hr
  · have h1 : β κ = .slice none 0 0 := h1
    obtain rfl : i = 0 := by simpa using hi
    refine ⟨.slice none 0 0, ?_, trivial⟩
    have hb0 : ∀ c, (Instr.sliceBound (.int .i64 0) 0 c).run P w = .ok 0 w := fun c => bound_run (i := 0) (Nat.le_refl 0)
    simp [execOp, e0, h1, e2, Instr.sliceAt, Instr.slice, Instr.sliceBounds, Sem.run_bind, run_underlying (lay_slice ht) w, lay_size he w, hb0]
  · have h1 : β κ = .slice (some ⟨g, 0, none⟩) ls.length c := h1
    refine ⟨.slice (if c = i then (some ⟨g, 0, none⟩ : Option Addr) else (some ⟨g, 0, none⟩ : Option Addr).map (·.add (i * k))) (ls.length - i) (c - i), ?_, trivial⟩
    simp [execOp, e0, h1, e2, Instr.sliceAt, Instr.slice, Instr.sliceBounds, Sem.run_bind, run_underlying (lay_slice ht) w, lay_size he w, hk, bound_run, hi]
omit [Lays P] in
theorem run_clear_row (w : World) (ty te : TypeId) {zv : Value} (ht : P.underlying t = some (.slice e)) (hv : (zeroValue e).run P w = .ok zv w) (h1 : ∀ v ∈ zv.cells.toList, v.oneCell' = true) {g n c : Nat} {cur : Array Value} (hg : w.heap[g]? = some (.cells cur te (0, 0))) (hn : 0 < n)
    (ho : o + n * zv.cells.size ≤ cur.size) (hz : 0 < zv.cells.size) : (Builtin.clear_ #[t] ty #[.slice (some ⟨g, o, none⟩) n c]).run P w = .ok (.tuple #[]) (w.setCells g o (Builtin.zeroCells zv.cells n).toList) := by
  have hl : (Builtin.zeroCells zv.cells n).toList.length = n * zv.cells.size := by simp [Builtin.zeroCells]
  have hst := run_storeCells_cells (P := P) g o (Builtin.zeroCells zv.cells n).toList 0 w (fun j hj => by
      rw [hl] at hj
      rw [cell_of_row _ _ _ _ _ _ hg]
      simp; omega) (fun j _ => by simp [World.frozen?, hg]) (fun v hv => by
      simp only [Builtin.zeroCells, Array.toList_map, List.mem_map] at hv
      obtain ⟨i, _, rfl⟩ := hv
      have hlt : i % zv.cells.size < zv.cells.size := Nat.mod_lt _ hz
      rw [getElem!_pos zv.cells _ hlt]
      exact h1 _ (by simp))
  simp only [Nat.add_zero] at hst
  obtain ⟨m, rfl⟩ : ∃ m, n = m + 1 := ⟨n - 1, by omega⟩
  simp [Builtin.clear_, run_underlying ht, hv, hst]
theorem flat_take {α : Type} {k : Nat} : ∀ {ls : List (List α)} (i : Nat), (∀ l ∈ ls, l.length = k) → (ls.take i).flatten = ls.flatten.take (i * k)
  | [], i, _ => by simp
  | l :: ls, 0, _ => by simp
  | l :: ls, i + 1, h => by
    have h1 := h l (List.mem_cons_self ..)
    rw [List.take_succ_cons, List.flatten_cons, List.flatten_cons, flat_take i fun x hx => h x (List.mem_cons_of_mem _ hx), List.take_append, h1, Nat.succ_mul, Nat.add_sub_cancel, List.take_of_length_le (l := l) (by rw [h1]; exact Nat.le_add_left _ _)]
theorem rep_get {α : Type} {l : List α} : ∀ (m q : Nat), q < m * l.length → (List.replicate m l).flatten[q]? = l[q % l.length]?
  | 0, q, h => by simp at h
  | m + 1, q, h => by
    rw [List.replicate_succ, List.flatten_cons]
    by_cases hq : q < l.length
    · rw [List.getElem?_append_left hq, Nat.mod_eq_of_lt hq]
    · rw [List.getElem?_append_right (by omega), rep_get m (q - l.length) (by rw [Nat.succ_mul] at h; omega), Nat.mod_eq_sub_mod (a := q) (by omega)]
theorem zero_rep (cs : Array Value) (m : Nat) (hc : 0 < cs.size) : (Builtin.zeroCells cs m).toList = (List.replicate m cs.toList).flatten := by
  have hfl : (List.replicate m cs.toList).flatten.length = m * cs.size := by
    induction m with
    | zero => simp
    | succ m ih => rw [List.replicate_succ, List.flatten_cons, List.length_append, ih, Array.length_toList, Nat.succ_mul]; omega
  refine List.ext_getElem? fun q => ?_
  by_cases hq : q < m * cs.size
  · rw [rep_get m q (by simpa using hq)]
    have hlt : q % cs.size < cs.size := Nat.mod_lt _ hc
    simp [Builtin.zeroCells, hq, hlt]
  · rw [List.getElem?_eq_none (by simp [Builtin.zeroCells]; omega), List.getElem?_eq_none (by omega)]
def zeroD (zs : List ZK) : List D := zs.map fun z => lit z.val z.one
theorem zeroD_cells {V : World} : ∀ zs : List ZK, Cells V (zeroD zs) (zs.map ZK.val)
  | [] => trivial
  | _ :: l => ⟨rfl, zeroD_cells l⟩
theorem rep_cells {V : World} {l : List D} {us : List Value} (h : Cells V l us) : ∀ m : Nat, Cells V (List.replicate m l).flatten (List.replicate m us).flatten
  | 0 => trivial
  | m + 1 => by rw [List.replicate_succ, List.replicate_succ, List.flatten_cons, List.flatten_cons]; exact All2.append h (rep_cells h m)
/-- s[:i], and the row is that from now on. -/
theorem OpT.uptoO {i : Nat} (hi : i ≤ ls.length) (ht : lay P t = some ⟨.slice e, we, fl, z⟩ := by rfl) (he : lay P e = some le := by rfl) (hk : le.size = k := by rfl) : OpT P ops (mkO d (.slice t x none (some y) none) ty pos af) n [(x, .one (.key κ)), (y, iT i)] [] [(κ, .row q k ls)] (.one (.key n)) [(n, .row q k (ls.take i))] (n + 1) := .rekey rfl rfl fun β V w A h hr => by
  obtain ⟨hx, hy⟩ := in2 h
  have e2 : A.eval y = .int .i64 i := hy
  have e0 : A.eval x = β κ := hx.1
  obtain ⟨hkl, ⟨h1, rfl⟩ | ⟨g, c, cur, us, h1, h2, h3, h4, h5, h6, h7⟩⟩ := hr
  · have h1 : β κ = .slice none 0 0 := h1
    obtain rfl : i = 0 := by simpa using hi
    refine ⟨.slice none 0 0, ?_, fun _ => ⟨nofun, .inl ⟨rfl, rfl⟩⟩, by rw [h1], rfl⟩
    have hb0 : ∀ c, (Instr.sliceBound (.int .i64 0) 0 c).run P w = .ok 0 w := fun c => bound_run (i := 0) (Nat.le_refl 0)
    simp [execOp, e0, h1, e2, Instr.sliceAt, Instr.slice, Instr.sliceBounds, Sem.run_bind, run_underlying (lay_slice ht) w, lay_size he w, hb0]
  · have h1 : β κ = .slice (some ⟨g, 0, none⟩) ls.length c := h1
    have hadd : (⟨g, 0, none⟩ : Addr).add 0 = ⟨g, 0, none⟩ := by simpa using Addr.add_mid g 0 0
    have hlen : (ls.take i).length = i := by rw [List.length_take]; omega
    refine ⟨.slice (some ⟨g, 0, none⟩) i c, ?_, fun _ => ⟨fun l hl => hkl l (List.mem_of_mem_take hl), .inr ⟨g, c, cur, _, by rw [hlen], h2, by omega, h4, h5, rfl, ?_⟩⟩, by rw [h1]; rfl, rfl⟩
    · simp [execOp, e0, h1, e2, Instr.sliceAt, Instr.slice, Instr.sliceBounds, Sem.run_bind, run_underlying (lay_slice ht) w, lay_size he w, hk, bound_run, hadd, show i ≤ c by omega]
    · rw [hlen, flat_take i hkl, show cur.toList.take (i * k) = us.take (i * k) by rw [← h6, List.take_take, Nat.min_eq_left (Nat.mul_le_mul_right _ hi)]]
      exact All2.take _ h7
/-- s[:i], where the row has room for more. -/
theorem OpT.growC {i m' : Nat} (hi : i = ls.length + m') (hc : i ≤ c) (ht : lay P t = some ⟨.slice e, we, fl, z⟩ := by rfl) (he : lay P e = some le := by rfl) (hk : le.size = k := by rfl) : OpT P ops (mkO d (.slice t x none (some y) none) ty pos af) n [(x, .one (.key κ)), (y, iT i)] [] [(κ, .rowc q k ls m c)] (.one (.key n)) [(n, .rowc q k ls m' c)] (n + 1) := .rekey rfl rfl fun β V w A h hr => by
  obtain ⟨hx, hy⟩ := in2 h
  have e2 : A.eval y = .int .i64 i := hy
  have e0 : A.eval x = β κ := hx.1
  obtain ⟨hkl, g, cur, us, h1, h2, h3, h4, h5, h6, h7⟩ := hr
  have h1 : β κ = .slice (some ⟨g, 0, none⟩) (ls.length + m) c := h1
  have hadd : (⟨g, 0, none⟩ : Addr).add 0 = ⟨g, 0, none⟩ := by simpa using Addr.add_mid g 0 0
  refine ⟨.slice (some ⟨g, 0, none⟩) i c, ?_, fun _ => ⟨hkl, g, cur, us, by rw [hi], h2, by omega, h4, h5, h6, h7⟩, by rw [h1]; rfl, rfl⟩
  simp [execOp, e0, h1, e2, Instr.sliceAt, Instr.slice, Instr.sliceBounds, Sem.run_bind, run_underlying (lay_slice ht) w, lay_size he w, hk, bound_run, hadd, hc]
omit [Lays P] in
/-- A row, some of its cells written. -/
theorem rowc_set {β : Env} {V V' w : World} {v : Value} {ls ls' : List (List D)} {m' i : Nat} {ds : List D} {vs : List Value} {g : Nat} (hS : Sub V V') (ho : Own.is β V w (.rowc q k ls m c) v) (hg : blk v = some g) (hv : Cells V ds vs) (hm : ls'.length + m' = ls.length + m) (hkl : ∀ l ∈ ls', l.length = k) (hi : i * k ≤ ls.length * k) (hle : ls.length ≤ ls'.length)
    (hfl : ls'.flatten = ls.flatten.take (i * k) ++ ds ++ ls.flatten.drop (i * k + ds.length)) : Own.is β V' (w.setCells g (i * k) vs) (.rowc q k ls' m' c) v := by
  obtain ⟨hk0, g', cur, us, h1, h2, h3, h4, h5, h6, h7⟩ := ho
  obtain rfl : g' = g := by rw [h1] at hg; simpa [blk] using hg
  have hul : us.length = ls.length * k := by
    have := Nat.mul_le_mul_right k (show ls.length ≤ c by omega)
    rw [← h6, List.length_take]; exact Nat.min_eq_left (by rw [Array.length_toList (xs := cur), h5]; exact this)
  have hfl0 : ls.flatten.length = us.length := h7.len
  have hvl := hv.len
  have hfl' : ls'.flatten.length = ls'.length * k := flat_len hkl
  have hset : (setAll cur (i * k) vs) = (splice cur.toList (i * k) vs).toArray := by
    have := set_splice vs cur.toList (i * k)
    simpa using this
  have hcc : ls'.length * k ≤ cur.toList.length := by rw [Array.length_toList (xs := cur), h5]; exact Nat.mul_le_mul_right _ (by omega)
  have hlen : i * k + vs.length ≤ ls'.length * k := by
    have := congrArg List.length hfl
    rw [hfl', List.length_append, List.length_append, List.length_take, List.length_drop] at this
    omega
  refine ⟨hkl, g', _, _, by rw [hm]; exact h1, heap_setCells _ _ h2, by omega, h4, ?_, rfl, ?_⟩
  · rw [hset, List.size_toArray, splice_len, Array.length_toList (xs := cur), h5]
  · rw [hset]
    show Cells V' ls'.flatten ((splice cur.toList (i * k) vs).take (ls'.length * k))
    rw [take_splice hlen]
    have e3 : splice (cur.toList.take (ls'.length * k)) (i * k) vs = us.take (i * k) ++ vs ++ (us.drop (i * k + ds.length)) := by
      have e1 : (cur.toList.take (ls'.length * k)) = us ++ (cur.toList.take (ls'.length * k)).drop (ls.length * k) := by
        have h8 := List.take_append_drop (ls.length * k) (cur.toList.take (ls'.length * k))
        rw [List.take_take, Nat.min_eq_left (Nat.mul_le_mul_right _ hle), h6] at h8
        exact h8.symm
      obtain ⟨L, hL⟩ : ∃ L, L = (cur.toList.take (ls'.length * k)).drop (ls.length * k) := ⟨_, rfl⟩
      have hLl : us.length + L.length = ls'.length * k := by
        have := congrArg List.length e1
        rw [List.length_append, ← hL, List.length_take, Nat.min_eq_left hcc] at this
        omega
      rw [e1, ← hL]
      have h8 := splice_tail (a := us.take (i * k)) (r := us.drop (i * k) ++ L) (m := vs) (o := 0)
      rw [← List.append_assoc, List.take_append_drop, List.length_take, hul, Nat.min_eq_left hi, Nat.add_zero] at h8
      rw [h8, List.append_assoc]
      congr 1
      have h9 : (us.drop (i * k) ++ L) = (us.drop (i * k) ++ L).take vs.length ++ (us.drop (i * k) ++ L).drop vs.length := (List.take_append_drop _ _).symm
      rw [h9, splice_head (by rw [List.length_take, List.length_append, List.length_drop]; omega), ← hvl, List.drop_append, List.drop_drop]
      have e0 := congrArg List.length hfl
      rw [hfl', List.length_append, List.length_append, List.length_take, List.length_drop] at e0
      rw [show L.drop (ds.length - (us.drop (i * k)).length) = [] from List.drop_eq_nil_of_le (by rw [List.length_drop]; omega), List.append_nil]
    rw [e3, hfl]
    exact All2.append (All2.append (All2.take _ (h7.mono hS)) (hv.mono hS)) (All2.drop _ (h7.mono hS))
theorem flat_drop {α : Type} {k : Nat} : ∀ {ls : List (List α)} (i : Nat), (∀ l ∈ ls, l.length = k) → (ls.drop i).flatten = ls.flatten.drop (i * k)
  | [], i, _ => by simp
  | l :: ls, 0, _ => by simp
  | l :: ls, i + 1, h => by
    have h1 := h l (List.mem_cons_self ..)
    rw [List.drop_succ_cons, List.flatten_cons, flat_drop i fun x hx => h x (List.mem_cons_of_mem _ hx), List.drop_append, h1, Nat.succ_mul, Nat.add_sub_cancel, dropNil (l) (by rw [h1]; exact Nat.le_add_left _ _), List.nil_append]
omit [Lays P] in
theorem run_copy_rows (w : World) (ty elem : TypeId) (size b dLen dCap : Nat) (a : Addr) (sLen sCap : Nat) (cs : List Value)
    (hu : P.underlying t = some (.slice elem)) (hs : (P.info? elem).map (·.size) = some size) (hn : cs.length = Nat.min sLen dLen * size)
    (hsrc : ∀ j v, cs[j]? = some v → w.cell? (a.add j) = some v) (hc : ∀ j, j < cs.length → (w.cell? ⟨b, o + j, none⟩).isSome = true) (hf : ∀ j, j < cs.length → w.frozen? ⟨b, o + j, none⟩ = false) (h1 : ∀ v ∈ cs, v.oneCell' = true) :
    (Builtin.copy_ #[t, t] ty #[.slice (some ⟨b, o, none⟩) dLen dCap, .slice (some a) sLen sCap]).run P w = .ok (goInt (Nat.min sLen dLen)) (w.setCells b o cs) := by
  have hl := run_loadCells_list (P := P) w a cs hsrc
  have hst := run_storeCells_cells (P := P) b o cs 0 w (by simpa using hc) (by simpa using hf) h1
  cases hq : P.info? elem with
  | none => simp [hq] at hs
  | some i =>
    have hi : i.size = size := by simpa [hq] using hs
    simp [Builtin.copy_, run_underlying hu, Builtin.lenOf, Builtin.firstCells, sizeOf, typeInfo, hq, hi, ← hn, hl, hst]
theorem lay_info {l : Lay} (h : lay P e = some l) : (P.info? e).map (·.size) = some l.size := by
  obtain ⟨_, i, _, _, hi, ⟨h1, _⟩, _⟩ := lay_all h
  rw [hi]; exact congrArg some h1
omit [Lays P] in
theorem cells_one {V : World} {ds : List D} {us : List Value} (h : Cells V ds us) : ∀ u ∈ us, u.oneCell' = true := CellsC.one (β := fun _ => undef) (cs := ds.map C.d) (w := V) (all2_map.2 h)
omit [Lays P] in
theorem mul_sub_le {i b a : Nat} (h : i + a ≤ b) : i * k + a * k ≤ b * k := by rw [← Nat.add_mul]; exact Nat.mul_le_mul_right _ h
/-- clear(s[i:]). -/
theorem OpT.clearS {i c' : Nat} (hi : i + m = ls.length) (hm : 0 < m) (ht : lay P t = some ⟨.slice e, we, fl, z⟩ := by rfl) (he : lay P e = some le := by rfl) (hz : le.zero.length = k := by rfl) (hk0 : Nat.blt 0 k = true := by rfl) : OpT P ops (mkO d (.call ⟨.builtin .clear, #[x], #[t]⟩) ty pos af) n [(x, .one (.sub κ (i * k) m c'))] [] [(κ, .rowc q k ls 0 c)] (.tup []) [(κ, .rowc q k (ls.take i ++ List.replicate m (zeroD le.zero)) 0 c)] n := .wr rfl rfl rfl nofun fun β V w A h _ _ hr => by
  have hx := in1 h
  have hk0 : 0 < k := by simpa using hk0
  have hr0 := hr
  obtain ⟨hkl, g, cur, us, r1, r2, r3, r4, r5, r6, r7⟩ := hr
  obtain ⟨b, o', hbase, e1⟩ := hx
  have r1' : β κ = .slice (some ⟨g, 0, none⟩) (ls.length + 0) c := r1
  rw [r1'] at hbase
  cases hbase
  rw [Nat.zero_add] at e1
  obtain ⟨zv, hz1, hz2⟩ := lay_zero he w
  have hzs : zv.cells.size = k := by rw [← Array.length_toList, hz2, List.length_map, hz]
  have hcells : Cells V (List.replicate m (zeroD le.zero)).flatten (Builtin.zeroCells zv.cells m).toList := by
    rw [zero_rep _ _ (by omega), hz2]
    exact rep_cells (zeroD_cells _) m
  have hik : i * k + m * k ≤ ls.length * k := mul_sub_le (by omega)
  have hck : ls.length * k ≤ cur.size := by rw [r5]; exact Nat.mul_le_mul_right _ (by omega)
  have hrun := run_clear_row w ty q (lay_slice ht) hz1 (fun v hv => cells_one (V := V) (ds := zeroD le.zero) (us := zv.cells.toList) (hz2 ▸ zeroD_cells le.zero) v hv) (o := i * k) (c := c') r2 hm (by rw [hzs]; omega) (by omega)
  have hzl : (zeroD le.zero).length = k := by rw [zeroD, List.length_map, hz]
  refine ⟨_, g, i * k, _, ?_, by rw [r1']; rfl, .inr ⟨.tuple #[], rfl, fun _ => ⟨[], rfl, trivial⟩⟩, fun V' hV => rowc_set hV hr0 (by rw [r1']; rfl) hcells (by rw [List.length_append, List.length_take, List.length_replicate]; omega) (fun l hl => ?_) (by omega) (by rw [List.length_append, List.length_take, List.length_replicate]; omega) ?_⟩
  · simp [execOp, e1, resolve, invoke, builtin, hrun]
  · rcases List.mem_append.1 hl with h | h
    · exact hkl l (List.mem_of_mem_take h)
    · rw [(List.mem_replicate.1 h).2]; exact hzl
  · rw [List.flatten_append, flat_take i hkl, flat_len (ls := List.replicate m (zeroD le.zero)) (k := k) (fun l hl => by rw [(List.mem_replicate.1 hl).2]; exact hzl), List.length_replicate, dropNil (ls.flatten) (by rw [flat_len hkl, ← Nat.add_mul, hi]; exact Nat.le_refl _), List.append_nil]
/-- copy(s[i:], v[i2:]): from another row. -/
theorem OpT.copyS {i i2 m1 m2 c1 c2 m0 c0 q2 κ2 cnt : Nat} {ls2 : List (List D)} (hne : κ2 ≠ κ) (hm2 : i2 + m2 ≤ ls2.length) (hm1 : i + m1 ≤ ls.length) (hcnt : Nat.min m2 m1 = cnt) (ht : lay P t = some ⟨.slice e, we, fl, z⟩ := by rfl) (he : lay P e = some le := by rfl) (hk : le.size = k := by rfl) :
    OpT P ops (mkO d (.call ⟨.builtin .copy, #[x, y], #[t, t]⟩) ty pos af) n [(x, .one (.sub κ (i * k) m1 c1)), (y, .one (.sub κ2 (i2 * k) m2 c2))] [(κ2, .rowc q2 k ls2 m0 c0)] [(κ, .rowc q k ls m c)] (iT cnt) [(κ, .rowc q k (ls.take i ++ (ls2.drop i2).take cnt ++ ls.drop (i + cnt)) m c)] n := .wr rfl rfl rfl (fun e he => by rw [List.mem_singleton.1 he]; exact hne) fun β V w A h hr2 _ hr => by
  obtain ⟨hx, hy⟩ := in2 h
  have hr0 := hr
  obtain ⟨hkl, g, cur, us, r1, r2, r3, r4, r5, r6, r7⟩ := hr
  obtain ⟨hkl2, g2, cur2, us2, s1, s2, s3, s4, s5, s6, s7⟩ := hr2 _ (List.mem_singleton.2 rfl)
  obtain ⟨b, o', hbase, e1⟩ := hx
  obtain ⟨b2, o2', hbase2, e2⟩ := hy
  have r1' : β κ = .slice (some ⟨g, 0, none⟩) (ls.length + m) c := r1
  have s1' : β κ2 = .slice (some ⟨g2, 0, none⟩) (ls2.length + m0) c0 := s1
  rw [r1'] at hbase
  rw [s1'] at hbase2
  cases hbase
  cases hbase2
  rw [Nat.zero_add] at e1 e2
  have hc1 : cnt ≤ m1 := hcnt ▸ Nat.min_le_right _ _
  have hc2 : cnt ≤ m2 := hcnt ▸ Nat.min_le_left _ _
  have hn2 : i2 * k + cnt * k ≤ ls2.length * k := mul_sub_le (by omega)
  have hn1 : i * k + cnt * k ≤ ls.length * k := mul_sub_le (by omega)
  have hul2 : us2.length = ls2.length * k := by
    have := Nat.mul_le_mul_right k (show ls2.length ≤ c0 by omega)
    rw [← s6, List.length_take]; exact Nat.min_eq_left (by rw [Array.length_toList (xs := cur2), s5]; exact this)
  obtain ⟨cs, hcs⟩ : ∃ cs, cs = (us2.drop (i2 * k)).take (cnt * k) := ⟨_, rfl⟩
  have hcl : cs.length = cnt * k := by rw [hcs, List.length_take, List.length_drop]; omega
  have hkd : ∀ l ∈ ls2.drop i2, l.length = k := fun l hl => hkl2 l (List.mem_of_mem_drop hl)
  have hcells : Cells V ((ls2.drop i2).take cnt).flatten cs := by
    rw [flat_take cnt hkd, flat_drop i2 hkl2, hcs]
    exact All2.take _ (All2.drop _ s7)
  have hck : ls.length * k ≤ cur.size := by rw [r5]; exact Nat.mul_le_mul_right _ (by omega)
  have hrun := run_copy_rows (o := i * k) w ty e k g m1 c1 ⟨g2, i2 * k, none⟩ m2 c2 cs (lay_slice ht) (by rw [lay_info he, hk]) (by rw [hcl, hcnt]) (fun j v hj => by
    rw [hcs, List.getElem?_take] at hj
    split at hj
    · rw [List.getElem?_drop, ← s6, List.getElem?_take] at hj
      split at hj
      · rw [show (⟨g2, i2 * k, none⟩ : Addr).add j = ⟨g2, i2 * k + j, none⟩ from Addr.add_mid _ _ _, cell_of_row _ _ _ _ _ _ s2, ← Array.getElem?_toList]
        exact hj
      · cases hj
    · cases hj) (fun j hj => by
    rw [cell_of_row _ _ _ _ _ _ r2]
    simp; omega) (fun j _ => by simp [World.frozen?, r2]) (cells_one hcells)
  refine ⟨_, g, i * k, cs, ?_, by rw [r1']; rfl, .inr ⟨.int .i64 cnt, rfl, fun _ => rfl⟩, fun V' hV => rowc_set hV hr0 (by rw [r1']; rfl) hcells (by simp only [List.length_append, List.length_take, List.length_drop]; omega) (fun l hl => ?_) (by omega) (by simp only [List.length_append, List.length_take, List.length_drop]; omega) ?_⟩
  · simp [execOp, e1, e2, resolve, invoke, builtin, hrun, goInt, ← hcnt]
  · rcases List.mem_append.1 hl with h | h
    · rcases List.mem_append.1 h with h | h
      · exact hkl l (List.mem_of_mem_take h)
      · exact hkd l (List.mem_of_mem_take h)
    · exact hkl l (List.mem_of_mem_drop h)
  · have h5 : ((ls2.drop i2).take cnt).flatten.length = cnt * k := by rw [← hcl]; exact hcells.len
    rw [List.flatten_append, List.flatten_append, flat_take i hkl, flat_drop (i + cnt) hkl, h5, Nat.add_mul]
/-- copy(s[i + 1:], s[i:]): one place up, over the row's end. -/
theorem OpT.copyU {i c1 c2 cnt i1 m1 m2 : Nat} (hi : i < ls.length) (hi1 : i1 = (i + 1) * k) (hm1 : m1 = ls.length - i) (hm2 : m2 = ls.length + 1 - i) (hcnt : cnt = ls.length - i) (ht : lay P t = some ⟨.slice e, we, fl, z⟩ := by rfl) (he : lay P e = some le := by rfl) (hk : le.size = k := by rfl) :
    OpT P ops (mkO d (.call ⟨.builtin .copy, #[x, y], #[t, t]⟩) ty pos af) n [(x, .one (.sub κ i1 m1 c1)), (y, .one (.sub κ (i * k) m2 c2))] [] [(κ, .rowc q k ls 1 c)] (iT cnt) [(κ, .rowc q k (ls.take (i + 1) ++ ls.drop i) 0 c)] n := .wr rfl rfl rfl nofun fun β V w A h _ _ hr => by
  subst hi1 hm1 hm2
  obtain ⟨hx, hy⟩ := in2 h
  have hr0 := hr
  obtain ⟨hkl, g, cur, us, r1, r2, r3, r4, r5, r6, r7⟩ := hr
  obtain ⟨b, o', hbase, e1⟩ := hx
  obtain ⟨b2, o2', hbase2, e2⟩ := hy
  have r1' : β κ = .slice (some ⟨g, 0, none⟩) (ls.length + 1) c := r1
  rw [r1'] at hbase hbase2
  cases hbase
  cases hbase2
  rw [Nat.zero_add] at e1 e2
  have hmin : Nat.min (ls.length + 1 - i) (ls.length - i) = cnt := by rw [hcnt]; simp only [Nat.min_def]; split <;> omega
  have hn1 : (i + 1) * k + cnt * k ≤ (ls.length + 1) * k := mul_sub_le (by omega)
  have hn2 : i * k + cnt * k = ls.length * k := by rw [← Nat.add_mul]; congr 1; omega
  have hck : (ls.length + 1) * k ≤ cur.size := by rw [r5]; exact Nat.mul_le_mul_right _ (by omega)
  have hul : us.length = ls.length * k := by
    have := Nat.mul_le_mul_right k (show ls.length ≤ c by omega)
    rw [← r6, List.length_take]; exact Nat.min_eq_left (by rw [Array.length_toList (xs := cur), r5]; exact this)
  obtain ⟨cs, hcs⟩ : ∃ cs, cs = us.drop (i * k) := ⟨_, rfl⟩
  have hcl : cs.length = cnt * k := by rw [hcs, List.length_drop]; omega
  have hcells : Cells V (ls.drop i).flatten cs := by
    rw [flat_drop i hkl, hcs]
    exact All2.drop _ r7
  have hrun := run_copy_rows (o := (i + 1) * k) w ty e k g (ls.length - i) c1 ⟨g, i * k, none⟩ (ls.length + 1 - i) c2 cs (lay_slice ht) (by rw [lay_info he, hk]) (by rw [hcl, hmin]) (fun j v hj => by
    rw [hcs, List.getElem?_drop, ← r6, List.getElem?_take] at hj
    split at hj
    · rw [show (⟨g, i * k, none⟩ : Addr).add j = ⟨g, i * k + j, none⟩ from Addr.add_mid _ _ _, cell_of_row _ _ _ _ _ _ r2, ← Array.getElem?_toList]
      exact hj
    · cases hj) (fun j hj => by
    rw [cell_of_row _ _ _ _ _ _ r2]
    simp; omega) (fun j _ => by simp [World.frozen?, r2]) (cells_one hcells)
  have hll : (ls.take (i + 1) ++ ls.drop i).length = ls.length + 1 := by simp only [List.length_append, List.length_take, List.length_drop]; omega
  refine ⟨_, g, (i + 1) * k, cs, ?_, by rw [r1']; rfl, .inr ⟨.int .i64 cnt, rfl, fun _ => rfl⟩, fun V' hV => rowc_set hV hr0 (by rw [r1']; rfl) hcells (by rw [hll]) (fun l hl => ?_) (Nat.mul_le_mul_right _ hi) (by rw [hll]; omega) ?_⟩
  · simp [execOp, e1, e2, resolve, invoke, builtin, hrun, goInt, ← hmin]
  · rcases List.mem_append.1 hl with h | h
    · exact hkl l (List.mem_of_mem_take h)
    · exact hkl l (List.mem_of_mem_drop h)
  · have h5 : (ls.drop i).flatten.length = cnt * k := by rw [← hcl]; exact hcells.len
    rw [List.flatten_append, flat_take (i + 1) hkl, dropNil (ls.flatten) (by rw [flat_len hkl, h5, Nat.succ_mul]; omega), List.append_nil]
end
end Go.Sv
