/- Part 19 of what StageOrder and StagePlans ask: for every input each returns true, and its input reads as it did. No condition. -/
import Derived.Test.YtelkpflpgpdkdaaGreatDoorPt18
import Derived.Lib.AppendZeros
namespace Go.Sv
open Go Go.RowKit

/-- append: in its block, or into a new one. -/
theorem append_two {P : Program} (w : World) (t ty e : TypeId) {i : TypeInfo} {z : Value} (ht : P.underlying t = some (.slice e)) (hi : P.info? e = some i) (hz : i.zero = some z) (hzs : z.cells.size = i.size)
    (v : Value) (n : Nat) (xs : List Value) (hown : w.ownsRow 0 e i.size v n xs)
    (a : Addr) (m c : Nat) (news : List Value) (hl : news.length = m * i.size) (hnews : ∀ j u, news[j]? = some u → w.cell? (a.add j) = some u) (h1 : ∀ u ∈ news, u.oneCell' = true)
    (h63 : n + m ≤ maxLen) (hbytes : (n + m) * i.bytes ≤ 140737488355328) (hm : 0 < m) :
    ∃ v' w', (Builtin.append_ #[t, t] ty #[v, .slice (some a) m c]).run P w = .ok v' w' ∧ w'.ownsRow 0 e i.size v' (n + m) (xs ++ news) ∧
      ((∃ g, blk v = some g ∧ blk v' = some g ∧ Kept [g] w w') ∨ (Kept [] w w' ∧ blk v' = some w.heap.size)) := by
  have hlen : (xs ++ news).length = (n + m) * i.size := by rw [List.length_append, hown.1, hl, Nat.add_mul]
  have hsmall : n + m ≤ 9223372036854775807 := by simp only [maxLen] at h63; omega
  have grown : ∀ (old : Nat), old < n + m →
      (w.drew.alloc (.cells (xs.toArray ++ news.toArray ++ Builtin.zeroCells z.cells (grownCap w (n + m) old e - (n + m))) e)).ownsRow 0 e i.size
        (.slice (some ⟨w.heap.size, 0, none⟩) (n + m) (grownCap w (n + m) old e)) (n + m) (xs ++ news) ∧
      Kept [] w (w.drew.alloc (.cells (xs.toArray ++ news.toArray ++ Builtin.zeroCells z.cells (grownCap w (n + m) old e - (n + m))) e)) := by
    intro old ho
    have hge := grownCap_ge w (n + m) old e
    have hcm : grownCap w (n + m) old e ≤ maxLen := grownCap_le_maxLen w (n + m) old e h63
    refine ⟨⟨hlen, .inr ⟨w.heap.size, _, _, rfl, Nat.zero_le _, heap_alloc_new w.drew _, hge, hcm, ?_, ?_⟩⟩, ⟨rfl, rfl, rfl, by simp, fun k hk _ => Below.heap_alloc w.drew _ _ hk⟩⟩
    · simp only [Array.size_append, List.size_toArray, size_zeroCells, hzs, hown.1, hl, ← Nat.add_mul]
      congr 1
      omega
    · simp only [Array.toList_append, List.append_assoc]
      rw [← List.append_assoc, ← hlen]
      exact List.take_left
  rcases hown.2 with ⟨rfl, rfl⟩ | ⟨g, cap, cur, rfl, hbg, hg, hnc, hcm, hcs, htake⟩
  · have hx : xs = [] := List.eq_nil_of_length_eq_zero (by simpa using hown.1)
    subst hx
    have hr := run_append_nil (P := P) w t ty e i z ht hi hz a m c news hl hnews (by omega) (by omega) (by have hb := hbytes; simp only [Nat.zero_add] at hb; omega)
    have hgr := grown 0 (by omega)
    simp only [Nat.zero_add, List.nil_append, Array.empty_append] at hgr ⊢
    exact ⟨_, _, hr, hgr.1, .inr ⟨hgr.2, rfl⟩⟩
  · by_cases hroom : n + m ≤ cap
    · have hfit : n * i.size + news.length ≤ cur.size := by rw [hl, hcs, ← Nat.add_mul]; exact Nat.mul_le_mul_right _ hroom
      have hr := run_append_room (P := P) w t ty e i ht hi g n cap cur hg a m c news hl hnews h1 hroom hfit
      refine ⟨_, _, hr, ⟨hlen, .inr ⟨g, cap, _, rfl, hbg, setRow_heap w g cur _ e _ hg, hroom, hcm, ?_, ?_⟩⟩, .inl ⟨g, rfl, rfl, ⟨rfl, rfl, rfl, by simp, fun k _ hk => setRow_other w g k _ (fun e => hk (by simp [e]))⟩⟩⟩
      · simp only [List.size_toArray, List.length_append, List.length_take, List.length_drop, Array.length_toList]
        omega
      · rw [htake, ← hlen]
        exact List.take_left
    · have holds : ∀ j u, xs[j]? = some u → w.cell? ((⟨g, 0, none⟩ : Addr).add j) = some u := hown.cells (g := g) rfl
      have hr := run_append_grow (P := P) w t ty e i z ht hi hz ⟨g, 0, none⟩ n cap xs hown.1 holds a m c news hl hnews (by omega) (by omega) (growslice_fits (by omega) hbytes)
      have hgr := grown cap (by omega)
      exact ⟨_, _, hr, hgr.1, .inr ⟨hgr.2, rfl⟩⟩
/-- What append does behind v. -/
def AppOk (P : Program) (w : World) (t ty e : TypeId) (i : TypeInfo) (v : Value) (n : Nat) (xs : List Value) (B : List Nat) : Prop := ∀ (a : Addr) (m c : Nat) (news : List Value), news.length = m * i.size → (∀ j u, news[j]? = some u → w.cell? (a.add j) = some u) → (∀ u ∈ news, u.oneCell' = true) → n + m ≤ maxLen → (n + m) * i.bytes ≤ 140737488355328 → 0 < m →
  ∃ v' w', (Builtin.append_ #[t, t] ty #[v, .slice (some a) m c]).run P w = .ok v' w' ∧ w'.ownsRow 0 e i.size v' (n + m) (xs ++ news) ∧ ((∃ g ∈ B, blk v' = some g ∧ Kept [g] w w') ∨ (Kept [] w w' ∧ blk v' = some w.heap.size))
/-- A slice's cells, one behind the other. -/
theorem sl_flat {V : World} {b k : Nat} : ∀ {ls : List (List D)} {o : Nat}, (∀ j l, ls[j]? = some l → l.length = k ∧ ∃ us, Lie V b (o + j * k) us ∧ Cells V l us) → ∃ news, news.length = ls.length * k ∧ Lie V b o news ∧ Cells V ls.flatten news
  | [], o, _ => ⟨[], by simp, nofun, trivial⟩
  | l :: ls, o, h => by
    obtain ⟨h0, us, h1, h2⟩ := h 0 l rfl
    have hul : us.length = k := by rw [← h2.len, h0]
    obtain ⟨news, h3, h4, h5⟩ := sl_flat (ls := ls) (o := o + k) fun j l' hj => by
      obtain ⟨h6, us', h7, h8⟩ := h (j + 1) l' (by simpa using hj)
      exact ⟨h6, us', by rw [show o + k + j * k = o + (j + 1) * k by rw [Nat.add_mul]; omega]; exact h7, h8⟩
    refine ⟨us ++ news, by rw [List.length_append, h3, hul, List.length_cons, Nat.add_mul]; omega, fun i u hi => ?_, h2.append h5⟩
    by_cases hik : i < us.length
    · rw [List.getElem?_append_left hik] at hi
      have := h1 i u hi
      simpa using this
    · rw [List.getElem?_append_right (by omega)] at hi
      have := h4 (i - us.length) u hi
      rwa [hul, show o + k + (i - k) = o + i by omega] at this
section
variable {P : Program} [Lays P] {ops : Array Oper} {n : Nat} {d : Option Tmp} {ty t : TypeId} {pos : String} {af : Array Edge} {x y : Operand}
theorem flat_len {ls : List (List D)} {k : Nat} (h : ∀ l ∈ ls, l.length = k) : ls.flatten.length = ls.length * k := by
  induction ls with
  | nil => simp
  | cons l ls ih => rw [List.flatten_cons, List.length_append, h l (List.mem_cons_self ..), ih fun l hl => h l (List.mem_cons_of_mem _ hl), List.length_cons, Nat.add_mul]; omega
/-- append behind a row of one's own (or behind nothing). -/
theorem OpT.appendG {tin : TL} {e k we : Nat} {fl : List (Nat × Nat)} {z : List ZK} {ls ls2 : List (List D)} {le : Lay} {hw : HL} (_ : lay P t = some ⟨.slice e, we, fl, z⟩) (he : lay P e = some le) (hk : le.size = k) (hz : le.zero.length = k) (hm : Nat.blt 0 ls2.length = true) (hb : ls.length + ls2.length ≤ 34359738368) (hx : (x, dT (sl k ls2)) ∈ tin)
    (hy : ∀ (β : Env) (S : List Nat) (w : World) (a : Act), Owns β n S hw w → (∀ e ∈ tin, e.2.is β (View β hw S w) (a.eval e.1)) → (∀ l ∈ ls, l.length = k) ∧ ∀ i zz, P.info? e = some i → i.zero = some zz → zz.cells.size = i.size → i.size = k → ∃ xs, Cells (View β hw S w) ls.flatten xs ∧ AppOk P w t ty e i (a.eval y) ls.length xs (blks β hw)) : OpT P ops (mkO d (.call ⟨.builtin .append, #[y, x], #[t, t]⟩) ty pos af) n tin [] hw (.one (.key n)) [(n, .row e k (ls ++ ls2))] (n + 1) :=
  ⟨Nat.le_succ n, fun β S w A K htin hbel hO hK => by
    rw [if_pos (by simp [Region.wanted])]
    obtain ⟨hkl, happ⟩ := hy β S w A hO.toOwns htin
    obtain ⟨a, c, e1, _, _, h3⟩ := htin _ hx
    have hl2 : ∀ l ∈ ls2, l.length = k := fun l hl => by
      obtain ⟨j, hj, rfl⟩ := List.mem_iff_getElem.1 hl
      exact (h3 j _ (List.getElem?_eq_getElem hj)).1
    have hm' : 0 < ls2.length := by simpa using hm
    obtain ⟨b, o, ha⟩ : ∃ b o, a = some ⟨b, o, none⟩ := by
      obtain ⟨_, b, o, _, h, _⟩ := h3 0 _ (List.getElem?_eq_getElem hm')
      exact ⟨b, o, h⟩
    subst ha
    obtain ⟨news, h4, h5, h6⟩ := sl_flat (V := View β hw S w) (b := b) (o := o) (k := k) (ls := ls2) fun j l hj => by
      obtain ⟨h7, b', o', us, h8, h9, h10⟩ := h3 j l hj
      cases h8
      exact ⟨h7, us, h9, h10⟩
    obtain ⟨dd, i, zz, hd, hi, ⟨hsz, hby⟩, _, hzi, hzc, _⟩ := lay_all he
    have hisz : i.size = k := hsz.trans hk
    have hzs : zz.cells.size = i.size := by have := congrArg List.length hzc; simp at this; omega
    obtain ⟨xs, hxs, happ⟩ := happ i zz hi hzi hzs hisz
    obtain ⟨v', w', hrun, hown', hcase⟩ := happ ⟨b, o, none⟩ ls2.length c news (by rw [h4, hisz]) (fun j u hj => by
      rw [Addr.add_mid]
      exact (hide_cell (h5 j u hj)).2) (fun u hu => CellsC.one (β := β) (cs := ls2.flatten.map C.d) (us := news) (all2_map.2 h6) u hu) (by unfold maxLen; omega) (by
        have : (ls.length + ls2.length) * i.bytes ≤ 34359738368 * 4096 := Nat.mul_le_mul hb hby
        omega) hm'
    unfold Oper.wp
    have hex : (execOp A.eval (mkO d (.call ⟨.builtin .append, #[y, x], #[t, t]⟩) ty pos af)).run P w = .ok (.value v') w' := by
      simp only [execOp, resolve, invoke, builtin, List.map_toArray, List.map_cons, List.map_nil, e1, Sem.run_bind, Sem.run_pure, Result.andThen_ok, hrun]
    rw [hex]
    obtain ⟨β', hβ'⟩ : ∃ β' : Env, β' = fun κ => if κ = n then v' else β κ := ⟨_, rfl⟩
    have hn : β' n = v' := by rw [hβ']; exact if_pos rfl
    have hlt : ∀ κ, κ < n → β' κ = β κ := fun κ hκ => by rw [hβ']; exact if_neg (by omega)
    have hkept : Kept (blks β hw) w w' := by
      rcases hcase with ⟨g, this, _, hg3⟩ | ⟨hg3, _⟩
      · exact ⟨hg3.os, hg3.tape, hg3.output, hg3.size, fun k hk hn => hg3.block k hk fun hm => hn (by rw [List.mem_singleton.1 hm]; exact this)⟩
      · exact ⟨hg3.os, hg3.tape, hg3.output, hg3.size, fun k hk _ => hg3.block k hk nofun⟩
    have hnb : ∀ g, blk v' = some g → g ∈ blks β hw ∨ w.heap.size ≤ g := fun g hg => by
      rcases hcase with ⟨g', hg1, hg2, _⟩ | ⟨_, hg2⟩
      · rw [hg2] at hg; cases hg; exact .inl hg1
      · rw [hg2] at hg; cases hg; exact .inr (Nat.le_refl _)
    have hbl : ∀ b, b ∈ blks β' ([] ++ [(n, Own.row e k (ls ++ ls2))]) ↔ blk v' = some b := fun b => by
      rw [mem_blks]
      constructor
      · rintro ⟨f, hf, hb⟩
        cases List.mem_singleton.1 hf
        rw [← hn]; exact hb
      · exact fun hb => ⟨_, List.mem_singleton.2 rfl, by rw [show ((n, Own.row e k (ls ++ ls2)) : Nat × Own).1 = n from rfl, hn]; exact hb⟩
    have hV : Sub (View β hw S w) (View β' ([] ++ [(n, Own.row e k (ls ++ ls2))]) S w') := hide_sub hkept fun q hq hns => ⟨fun hm => hns (List.mem_append_left _ hm), fun hm => by
      rcases List.mem_append.1 hm with hm | hm
      · rcases hnb q ((hbl q).1 hm) with h | h
        · exact hns (List.mem_append_left _ h)
        · omega
      · exact hns (List.mem_append_right _ hm)⟩
    refine hK v' β' w' hkept hlt ?_ ⟨hn.symm, ?_⟩ ⟨fun f hf => ?_, fun f hf f' hf' hne => ?_, fun q hq => ?_, fun q hq => Nat.lt_of_lt_of_le (hO.lt q hq) hkept.size⟩ fun q hq => hnb q ((hbl q).1 hq)
    · intro κ hκ
      rw [List.mem_singleton.1 hκ]
      exact Nat.lt_succ_self n
    · rcases hown'.2 with ⟨h7, _⟩ | ⟨g, cp, cur, h7, _⟩ <;> rw [h7] <;> rfl
    · cases List.mem_singleton.1 hf
      refine ⟨Nat.lt_succ_self n, nofun, ?_⟩
      show (Own.row e k (ls ++ ls2)).is β' _ w' (β' n)
      rw [hn]
      refine ⟨fun l hl => (List.mem_append.1 hl).elim (hkl l) (hl2 l), ?_⟩
      rcases hown'.2 with ⟨h7, h8⟩ | ⟨g, cp, cur, h7, _, h8, h9, h10, h11, h12⟩
      · omega
      · refine .inr ⟨g, cp, cur, _, by rw [h7, List.length_append], h8, by rw [List.length_append]; exact h9, h10, by rw [h11, hisz], rfl, ?_⟩
        rw [List.length_append, ← hisz, h12, List.flatten_append]
        exact Cells.mono hV (hxs.append h6)
    · cases List.mem_singleton.1 hf
      cases List.mem_singleton.1 hf'
      exact absurd rfl hne
    · rcases hnb q ((hbl q).1 hq) with h | h
      · exact hO.out q h
      · exact fun hqS => by have := hO.lt q hqS; omega⟩
omit [Lays P] in
theorem app_own {β : Env} {V w : World} {t ty e k : TypeId} {i : TypeInfo} {zz v : Value} {ls : List (List D)} {B : List Nat} (ht : P.underlying t = some (.slice e)) (hi : P.info? e = some i) (hz : i.zero = some zz) (hzs : zz.cells.size = i.size) (hk : i.size = k) (hrow : (Own.row e k ls).is β V w v) (hB : ∀ g, blk v = some g → g ∈ B) : ∃ xs, Cells V ls.flatten xs ∧ AppOk P w t ty e i v ls.length xs B := by
  have hown : ∃ xs, w.ownsRow 0 e i.size v ls.length xs ∧ Cells V ls.flatten xs := by
    rcases hrow.2 with ⟨h7, rfl⟩ | ⟨g, cp, cur, us, h7, h8, h9, h10, h11, h12, h13⟩
    · exact ⟨[], ⟨by simp, .inl ⟨h7, rfl⟩⟩, trivial⟩
    · refine ⟨us, ⟨?_, .inr ⟨g, cp, cur, h7, Nat.zero_le _, h8, h9, h10, by rw [hk]; exact h11, by rw [hk]; exact h12⟩⟩, h13⟩
      rw [← h13.len, flat_len hrow.1, hk]
  obtain ⟨xs, hown, hxs⟩ := hown
  refine ⟨xs, hxs, fun a m c news hl hn h1 h63 hb hm => ?_⟩
  obtain ⟨v', w', h2, h3, h4⟩ := append_two (P := P) w t ty e ht hi hz hzs v ls.length xs hown a m c news hl hn h1 h63 hb hm
  exact ⟨v', w', h2, h3, h4.imp (fun ⟨g, g1, g2, g3⟩ => ⟨g, hB g g1, g2, g3⟩) id⟩
theorem OpT.append {κ e k we : Nat} {fl : List (Nat × Nat)} {z : List ZK} {ls ls2 : List (List D)} {le : Lay} (ht : lay P t = some ⟨.slice e, we, fl, z⟩) (he : lay P e = some le) (hk : le.size = k) (hz : le.zero.length = k) (hm : Nat.blt 0 ls2.length = true) (hb : ls.length + ls2.length ≤ 34359738368) :
    OpT P ops (mkO d (.call ⟨.builtin .append, #[y, x], #[t, t]⟩) ty pos af) n [(y, .one (.key κ)), (x, dT (sl k ls2))] [] [(κ, .row e k ls)] (.one (.key n)) [(n, .row e k (ls ++ ls2))] (n + 1) :=
  .appendG ht he hk hz hm hb (List.mem_cons_of_mem _ (List.mem_singleton.2 rfl)) fun β S w A hO h => by
    obtain ⟨_, _, h1⟩ := hO.is (κ, Own.row e k ls) (List.mem_cons_self ..)
    have h2 : A.eval y = β κ := (h _ (List.mem_cons_self ..)).1
    exact ⟨h1.1, fun i zz hi hzi hzs hk => app_own (lay_slice ht) hi hzi hzs hk (by rw [h2]; exact h1) fun g hg => mem_blks.2 ⟨_, List.mem_cons_self .., by rw [← h2]; exact hg⟩⟩
theorem OpT.append0 {e k we : Nat} {fl : List (Nat × Nat)} {z : List ZK} {ls2 : List (List D)} {le : Lay} {h1 : Value.oneCell' (.slice none 0 0) = true} (ht : lay P t = some ⟨.slice e, we, fl, z⟩) (he : lay P e = some le) (hk : le.size = k) (hz : le.zero.length = k) (hm : Nat.blt 0 ls2.length = true) (hb : ls2.length ≤ 34359738368) :
    OpT P ops (mkO d (.call ⟨.builtin .append, #[y, x], #[t, t]⟩) ty pos af) n [(y, dT (lit (.slice none 0 0) h1)), (x, dT (sl k ls2))] [] [] (.one (.key n)) [(n, .row e k ls2)] (n + 1) := by
  have := @OpT.appendG P _ ops n d ty t pos af x y [(y, dT (lit (.slice none 0 0) h1)), (x, dT (sl k ls2))] e k we fl z [] ls2 le [] ht he hk hz hm (by simpa using hb) (List.mem_cons_of_mem _ (List.mem_singleton.2 rfl)) fun β S w A hO h => by
    have h2 : A.eval y = .slice none 0 0 := h _ (List.mem_cons_self ..)
    rw [h2]
    exact ⟨nofun, fun i zz hi hzi hzs hk => app_own (β := β) (lay_slice ht) hi hzi hzs hk ⟨nofun, .inl ⟨rfl, rfl⟩⟩ nofun⟩
  exact this
/-- The length of a row of one's own. -/
theorem OpT.lenO {κ e k we e' : Nat} {fl : List (Nat × Nat)} {z : List ZK} {ls : List (List D)} (ht : lay P t = some ⟨.slice e', we, fl, z⟩ := by rfl) : OpT P ops (mkO d (.call ⟨.builtin .len, #[x], #[t]⟩) ty pos af) n [(x, .one (.key κ))] [(κ, .row e k ls)] [] (iT ls.length) [] n :=
  ⟨Nat.le_refl n, fun β S w A K htin hb hO hK => by
    rw [if_pos (by simp [Region.wanted])]
    obtain ⟨_, _, h1⟩ := hO.is (κ, Own.row e k ls) (List.mem_cons_self ..)
    have h2 : A.eval x = β κ := (htin _ (List.mem_cons_self ..)).1
    have h3 : ∃ a c, A.eval x = .slice a ls.length c := by
      rw [h2]
      rcases h1.2 with ⟨h, rfl⟩ | ⟨g, c, _, _, h, _⟩
      · exact ⟨none, 0, h⟩
      · exact ⟨_, _, h⟩
    obtain ⟨a, c, e1⟩ := h3
    unfold Oper.wp
    rw [show (execOp A.eval (mkO d (.call ⟨.builtin .len, #[x], #[t]⟩) ty pos af)).run P w = .ok (.value (.int .i64 ls.length)) w by simp [execOp, e1, resolve, invoke, builtin, Builtin.len_, Sem.run_bind, run_underlying (lay_slice ht) w, goInt]]
    exact hK _ β w (Kept.refl _ _) (fun _ _ => rfl) (bel0 rfl) rfl hO.toOwns nofun⟩
end
/-- What is one's own becomes data. -/
def C.frz (κ : Nat) (x : D) : C → C
  | .key κ' => bif Nat.beq κ' κ then .d x else .key κ'
  | c => c
def T.frz (κ : Nat) (x : D) : T → T
  | .one c => .one (c.frz κ x)
  | .ag cs => .ag (cs.map (C.frz κ x))
  | t => t
def Own.frz (κ : Nat) (x : D) : Own → Own
  | .box ty cs => .box ty (cs.map (C.frz κ x))
  | o => o
theorem C.frz_is {β : Env} {V : World} {κ : Nat} {x : D} (hx : x.is V (β κ)) {c : C} {v : Value} (h : c.is β V v) : (c.frz κ x).is β V v := by
  cases c with
  | key κ' =>
    show (bif Nat.beq κ' κ then C.d x else .key κ').is β V v
    cases hb : Nat.beq κ' κ with
    | false => exact h
    | true =>
      have : κ' = κ := Nat.eq_of_beq_eq_true hb
      subst this
      rw [h.1]; exact hx
  | _ => exact h
theorem frz_cells {β : Env} {V : World} {κ : Nat} {x : D} (hx : x.is V (β κ)) {cs : List C} {us : List Value} (h : CellsC β V cs us) : CellsC β V (cs.map (C.frz κ x)) us := all2_map.2 (All2.mono (fun _ _ => C.frz_is hx) h)
theorem T.frz_is {β : Env} {V : World} {κ : Nat} {x : D} (hx : x.is V (β κ)) {t : T} {v : Value} (h : t.is β V v) : (t.frz κ x).is β V v := by
  cases t with
  | one c => exact C.frz_is hx h
  | ag cs => obtain ⟨us, h1, h2⟩ := h; exact ⟨us, h1, frz_cells hx h2⟩
  | _ => exact h
theorem C.frz_keys {κ : Nat} {x : D} {c : C} : ∀ q ∈ (c.frz κ x).keys, q ∈ c.keys := by
  cases c with
  | key κ' =>
    show ∀ q ∈ (bif Nat.beq κ' κ then C.d x else .key κ').keys, _
    cases Nat.beq κ' κ with
    | false => exact fun q h => h
    | true => exact nofun
  | _ => exact fun q h => h
theorem frz_keys {κ : Nat} {x : D} {cs : List C} : ∀ q ∈ (cs.map (C.frz κ x)).flatMap C.keys, q ∈ cs.flatMap C.keys := fun q hq => by
  obtain ⟨c, h1, h2⟩ := List.mem_flatMap.1 hq
  obtain ⟨c', h3, rfl⟩ := List.mem_map.1 h1
  exact List.mem_flatMap.2 ⟨c', h3, C.frz_keys q h2⟩
theorem T.frz_keys {κ : Nat} {x : D} {t : T} : ∀ q ∈ (t.frz κ x).keys, q ∈ t.keys := by
  cases t with
  | one c => exact C.frz_keys
  | ag cs => exact Sv.frz_keys
  | _ => exact fun q h => h
theorem look_map {α β : Type} {g : α → β} : ∀ {l : List (Nat × α)} {t : Nat}, look (l.map fun e => (e.1, g e.2)) t = (look l t).map g
  | [], _ => rfl
  | e :: l, t => by
    rw [List.map_cons, look_cons, look_cons]
    by_cases h : e.1 = t
    · rw [if_pos h, if_pos h]; rfl
    · rw [if_neg h, if_neg h]; exact look_map
/-- The row of a key is taken out. -/
inductive Out (κ : Nat) (o : Own) : HL → HL → Prop
  | here {H : HL} (h : noKey κ H = true) : Out κ o ((κ, o) :: H) H
  | there {H H2 : HL} {κ' : Nat} {x : Own} (hne : Nat.beq κ' κ = false) (h : Out κ o H H2) : Out κ o ((κ', x) :: H) ((κ', x) :: H2)
theorem Out.mem {κ : Nat} {o : Own} {H H2 : HL} (h : Out κ o H H2) : (κ, o) ∈ H ∧ ∀ e, e ∈ H2 → e ∈ H ∧ e.1 ≠ κ := by
  induction h with
  | here h => exact ⟨List.mem_cons_self .., fun e he => ⟨List.mem_cons_of_mem _ he, noKey_of h e he⟩⟩
  | @there H H2 κ' x hne h ih =>
    refine ⟨List.mem_cons_of_mem _ ih.1, fun e he => ?_⟩
    rcases List.mem_cons.1 he with rfl | he
    · exact ⟨List.mem_cons_self .., fun (e : κ' = κ) => by rw [e, show Nat.beq κ κ = true from Nat.beq_refl κ] at hne; cases hne⟩
    · exact ⟨List.mem_cons_of_mem _ (ih.2 e he).1, (ih.2 e he).2⟩
theorem W.frzG {cx : Cx} {n : Nat} {F : FL} {H H2 : HL} {K : Act → World → Prop} (κ : Nat) {o : Own} (x : D) (hO : Out κ o H H2)
    (hx : ∀ (β : Env) (V V' w : World), Sub V V' → o.is β V w (β κ) → (∀ g, blk (β κ) = some g → V'.heap[g]? = w.heap[g]?) → x.is V' (β κ))
    (h : Wk cx n (F.map fun f => (f.1, f.2.frz κ x)) (H2.map fun f => (f.1, f.2.frz κ x)) K) : Wk cx n F H K := fun β a w hh => by
  obtain ⟨hm, hsub⟩ := hO.mem
  have hHm : ∀ f ∈ H2.map (fun f => (f.1, f.2.frz κ x)), ∃ g ∈ H, g.1 = f.1 ∧ g.1 ≠ κ ∧ f.2 = g.2.frz κ x := fun f hf => by
    obtain ⟨g, hg, rfl⟩ := List.mem_map.1 hf
    exact ⟨g, (hsub g hg).1, rfl, (hsub g hg).2, rfl⟩
  have hbl : ∀ b ∈ blks β (H2.map fun f => (f.1, f.2.frz κ x)), ∃ g ∈ H, g.1 ≠ κ ∧ blk (β g.1) = some b := fun b hb => by
    obtain ⟨f, hf, hb⟩ := mem_blks.1 hb
    obtain ⟨g, hg, h1, h2, _⟩ := hHm f hf
    exact ⟨g, hg, h2, by rw [h1]; exact hb⟩
  have hV : Sub (View β H cx.S w) (View β (H2.map fun f => (f.1, f.2.frz κ x)) cx.S w) := hide_sub (Kept.refl [] w) fun q _ hq => ⟨by simp, fun hm => hq ((List.mem_append.1 hm).elim (fun h => by
    obtain ⟨g, hg, _, hb⟩ := hbl q h
    exact List.mem_append_left _ (mem_blks.2 ⟨g, hg, hb⟩)) (List.mem_append_right _))⟩
  have hx := hx β _ _ w hV (hh.ow.is _ hm).2.2 fun g hb => by
    have hgv : g ∉ blks β (H2.map fun f => (f.1, f.2.frz κ x)) ++ cx.S := fun hg => by
      rcases List.mem_append.1 hg with hg | hg
      · obtain ⟨f, hf, hne, hb'⟩ := hbl g hg
        exact hh.ow.apart f hf _ hm hne g hb' hb
      · exact hh.ow.out g (mem_blks.2 ⟨_, hm, hb⟩) hg
    show (View β (H2.map fun f => (f.1, f.2.frz κ x)) cx.S w).heap[g]? = _
    unfold View
    rw [hide_at]
    simp only [if_neg hgv, Option.map_id']
  refine h β a w ⟨hh.size, hh.defers, hh.le, hh.env, hh.kept, fun t s hs => ?_, ⟨fun f hf => ?_, fun f hf f' hf' hne b h1 h2 => ?_, fun b hb => ?_, hh.ow.lt⟩, fun b hb => ?_, hh.gl⟩
  · rw [look_map] at hs
    obtain ⟨s0, h1, rfl⟩ := Option.map_eq_some_iff.1 hs
    obtain ⟨h2, h3⟩ := hh.tm t s0 h1
    exact ⟨fun q hq => h2 q (T.frz_keys q hq), T.frz_is hx (T.keep (fun _ _ => rfl) hV h3)⟩
  · obtain ⟨g, hg, h1, _, h2⟩ := hHm f hf
    obtain ⟨h3, h4, h5⟩ := hh.ow.is g hg
    rw [← h1, h2]
    have h6 := Own.keep (β' := β) (fun _ _ => rfl) hV (w' := w) (fun _ _ _ h => h) h5
    generalize g.2 = og at h4 h6
    cases og with
    | box ty cs =>
      obtain ⟨b, us, h7, h8, h9⟩ := h6
      exact ⟨h3, fun q hq => h4 q (Sv.frz_keys q hq), b, us, h7, h8, frz_cells hx h9⟩
    | row ty k ls => exact ⟨h3, h4, h6⟩
    | map m => exact ⟨h3, h4, h6⟩
    | rowc ty k ls m c => exact ⟨h3, h4, h6⟩
  · obtain ⟨g, hg, e1, _, _⟩ := hHm f hf
    obtain ⟨g', hg', e2, _, _⟩ := hHm f' hf'
    exact hh.ow.apart g hg g' hg' (by rw [e1, e2]; exact hne) b (by rw [e1]; exact h1) (by rw [e2]; exact h2)
  · obtain ⟨g, hg, _, h1⟩ := hbl b hb
    exact hh.ow.out b (mem_blks.2 ⟨g, hg, h1⟩)
  · obtain ⟨g, hg, _, h1⟩ := hbl b hb
    exact hh.own b (mem_blks.2 ⟨g, hg, h1⟩)
theorem W.frz {cx : Cx} {n : Nat} {F : FL} {H H2 : HL} {K : Act → World → Prop} (κ : Nat) {e k : Nat} {ls : List (List D)} (hO : Out κ (.row e k ls) H H2 := by (repeat (first | exact Out.here (by rfl) | (apply Out.there; rfl))))
    (h : Wk cx n (F.map fun f => (f.1, f.2.frz κ (sl k ls))) (H2.map fun f => (f.1, f.2.frz κ (sl k ls))) K) : Wk cx n F H K := W.frzG κ (sl k ls) hO (fun β V V' w hV ho hb => by
    obtain ⟨hk, hrow⟩ := ho
    rcases hrow with ⟨h1, rfl⟩ | ⟨g, c, cur, us, h1, h2, h3, h4, h5, h6, h7⟩
    · rw [show β κ = .slice none 0 0 from h1]
      exact ⟨none, 0, rfl, Nat.le_refl _, by unfold maxLen; decide, by simp⟩
    · have hvis : V'.heap[g]? = some (.cells cur e) := (hb g (by rw [show β κ = _ from h1]; rfl)).trans h2
      rw [show β κ = _ from h1]
      refine ⟨_, c, rfl, h3, h4, fun j l hj => ?_⟩
      have hlk := hk l (List.mem_of_getElem? hj)
      refine ⟨hlk, g, 0, (us.drop (j * k)).take k, rfl, fun i u hi => ?_, ?_⟩
      · rw [cell_of_row _ _ _ _ _ _ hvis]
        rw [List.getElem?_take] at hi
        split at hi
        · rw [List.getElem?_drop, ← h6, List.getElem?_take] at hi
          split at hi
          · simpa using hi
          · cases hi
        · cases hi
      · have h8 : Cells _ ((ls.flatten.drop (j * k)).take k) ((us.drop (j * k)).take k) := All2.take k (All2.drop (j * k) (Cells.mono hV h7))
        have h9 : (ls.flatten.drop (j * k)).take k = l := by
          obtain ⟨l1, l2, rfl, rfl⟩ := split_at hj
          rw [List.flatten_append, List.flatten_cons, List.drop_append, List.drop_of_length_le (by rw [flat_len fun l hl => hk l (List.mem_append_left _ hl)]; exact Nat.le_refl _), flat_len (fun l hl => hk l (List.mem_append_left _ hl)), Nat.sub_self, List.nil_append, List.drop_zero, ← hlk, List.take_left]
        rwa [h9] at h8) h
/-- A box that is written no more becomes data. -/
theorem W.frzB {cx : Cx} {n : Nat} {F : FL} {H H2 : HL} {K : Act → World → Prop} (κ : Nat) (l : List D) {ty : TypeId} {cs : List C} (hO : Out κ (.box ty cs) H H2 := by (repeat (first | exact Out.here (by rfl) | (apply Out.there; rfl)))) (hl : cs = l.map C.d := by rfl)
    (h : Wk cx n (F.map fun f => (f.1, f.2.frz κ (adr l))) (H2.map fun f => (f.1, f.2.frz κ (adr l))) K) : Wk cx n F H K := W.frzG κ (adr l) hO (fun β V V' w hV ho hb => by
    subst hl
    obtain ⟨b, us, h1, h2, h3⟩ := ho
    have hvis := (hb b (by rw [show β κ = _ from h1]; rfl)).trans h2
    rw [show β κ = _ from h1]
    exact ⟨b, 0, us, rfl, lie_all hvis, Cells.mono hV (all2_map.1 h3)⟩) h
end Go.Sv
