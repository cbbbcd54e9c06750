/- Part 2 of what StageOrder and StagePlans ask: for every input each returns true, and its input reads as it did. No condition. -/
import Derived.Test.YtelkpflpgpdkdaaGreatDoorPt1
namespace Go.Sv
open Go Go.RowKit

abbrev FL := List (Nat × T)
abbrev HL := List (Nat × Own)
def look {α : Type} : List (Nat × α) → Nat → Option α
  | [], _ => none
  | (k, x) :: l, t => bif Nat.beq k t then some x else look l t
theorem look_cons {α : Type} (e : Nat × α) (l : List (Nat × α)) (t : Nat) : look (e :: l) t = if e.1 = t then some e.2 else look l t := by
  obtain ⟨k, x⟩ := e
  show (bif Nat.beq k t then some x else look l t) = _
  by_cases h : k = t
  · rw [if_pos h, h, show Nat.beq t t = true from Nat.beq_refl t]; rfl
  · rw [if_neg h, Bool.eq_false_iff.2 fun hb => h (Nat.eq_of_beq_eq_true hb)]; rfl
theorem look_mem {α : Type} : ∀ {l : List (Nat × α)} {t : Nat} {x : α}, look l t = some x → (t, x) ∈ l
  | [], _, _, h => by cases h
  | e :: l, t, x, h => by
    rw [look_cons] at h
    split at h
    · rename_i he
      obtain ⟨a, b⟩ := e
      simp only at he h
      subst he
      cases h
      exact List.mem_cons_self ..
    · exact List.mem_cons_of_mem _ (look_mem h)
def keys (H : HL) : List Nat := H.map (·.1)
def blks (β : Env) (H : HL) : List Nat := H.filterMap fun e => blk (β e.1)
def View (β : Env) (H : HL) (S : List Nat) (w : World) : World := hide (blks β H ++ S) w
theorem mem_blks {β : Env} {H : HL} {b : Nat} : b ∈ blks β H ↔ ∃ e ∈ H, blk (β e.1) = some b := by simp [blks]
structure Owns (β : Env) (n : Nat) (S : List Nat) (H : HL) (w : World) : Prop where
  is : ∀ e ∈ H, e.1 < n ∧ Bel n e.2.keys ∧ e.2.is β (View β H S w) w (β e.1)
  apart : ∀ e ∈ H, ∀ e' ∈ H, e.1 ≠ e'.1 → ∀ b, blk (β e.1) = some b → blk (β e'.1) ≠ some b
  out : ∀ b ∈ blks β H, b ∉ S
  lt : ∀ b ∈ S, b < w.heap.size
theorem Own.lt {β : Env} {V w : World} {o : Own} {v : Value} (h : o.is β V w v) {b : Nat} (hb : blk v = some b) : b < w.heap.size := by
  cases o with
  | box ty cs => obtain ⟨c, us, rfl, h1, _⟩ := h; cases hb; exact (Array.getElem?_eq_some_iff.1 h1).1
  | row ty k ls =>
    rcases h.2 with ⟨rfl, _⟩ | ⟨g, c, cur, us, rfl, h1, _⟩
    · cases hb
    · cases hb; exact (Array.getElem?_eq_some_iff.1 h1).1
  | map m => obtain ⟨r, o, rfl, h1, _⟩ := h; cases hb; exact (Array.getElem?_eq_some_iff.1 h1).1
  | rowc ty k ls m c => obtain ⟨_, g, cur, us, rfl, h1, _⟩ := h; cases hb; exact (Array.getElem?_eq_some_iff.1 h1).1
theorem Owns.blt {β : Env} {n : Nat} {S : List Nat} {H : HL} {w : World} (h : Owns β n S H w) : ∀ b ∈ blks β H, b < w.heap.size := fun b hb => by
  obtain ⟨e, he, hb⟩ := mem_blks.1 hb
  exact Own.lt (h.is e he).2.2 hb

abbrev TL := List (Operand × T)
def ValT (v : Value) (h : v.oneCell' = true) : T := .one (.d (lit v h))
/-- What an operand is. -/
def opT (F : FL) : Operand → Option T
  | .tmp t => look F t
  | .const v => if h : v.oneCell' = true then some (ValT v h) else none
  | .func f => some (.one (.d (cloD f [])))
  | .global _ => none
/-- The same, and that the library's table stands, and lies in no such block. -/
structure OwnsG (P : Program) (β : Env) (n : Nat) (S : List Nat) (H : HL) (w : World) : Prop extends Owns β n S H w where
  gl : Gl P (View β H S w)
/-- What an operation owes: of tin, hr, hw it makes out and hw'. -/
structure OpT (P : Program) (ops : Array Oper) (o : Oper) (n : Nat) (tin : TL) (hr hw : HL) (out : T) (hw' : HL) (n' : Nat) : Prop where
  le : n ≤ n'
  run : ∀ (β : Env) (S : List Nat) (w : World) (a : Act) (K : Act → World → Prop),
    (∀ e ∈ tin, e.2.is β (View β (hr ++ hw) S w) (a.eval e.1)) → (∀ e ∈ tin, Bel n e.2.keys) → OwnsG P β n S (hr ++ hw) w →
    (∀ v β' w', Kept (blks β hw) w w' → (∀ κ, κ < n → β' κ = β κ) → Bel n' out.keys → out.is β' (View β' (hr ++ hw') S w') v → Owns β' n' S (hr ++ hw') w' → (∀ b ∈ blks β' hw', b ∈ blks β hw ∨ w.heap.size ≤ b) → K (a.put o.dst v) w') →
    if Region.wanted o (yielded ops a.tmps) = true then o.wp P a w K (fun _ _ _ => False) else K (a.put o.dst undef) w

def upd (H hw hw' : HL) : HL := hw' ++ H.filter fun e => !(keys hw).contains e.1
def putF (F : FL) (d : Option Tmp) (out : T) : FL := match d with
  | some d => (d, out) :: F
  | none => F
structure Cx where
  P : Program
  S : List Nat
  w0 : World
  n0 : Nat
  β0 : Env
  X : List Nat
  N : Nat
structure Hold (cx : Cx) (β : Env) (n : Nat) (F : FL) (H : HL) (a : Act) (w : World) : Prop where
  size : a.tmps.size = cx.N
  defers : a.defers = []
  le : cx.n0 ≤ n
  env : ∀ κ, κ < cx.n0 → β κ = cx.β0 κ
  kept : Kept cx.X cx.w0 w
  tm : ∀ t s, look F t = some s → Bel n s.keys ∧ s.is β (View β H cx.S w) (a.tmps.getD t undef)
  ow : Owns β n cx.S H w
  own : ∀ b ∈ blks β H, b ∈ cx.X ∨ cx.w0.heap.size ≤ b
  gl : Gl cx.P (hide (cx.X ++ cx.S) cx.w0)
theorem Hold.glob {cx : Cx} {β : Env} {n : Nat} {F : FL} {H : HL} {a : Act} {w : World} (h : Hold cx β n F H a w) : Gl cx.P (View β H cx.S w) := h.gl.mono (hide_sub h.kept fun k hk hn => by
  rw [List.mem_append, not_or] at hn
  refine ⟨hn.1, fun hm => ?_⟩
  rcases List.mem_append.1 hm with hm | hm
  · rcases h.own k hm with h1 | h1
    · exact hn.1 h1
    · omega
  · exact hn.2 hm)
theorem getD_put (b : Act) (d : Option Tmp) (v : Value) (t : Tmp) : (b.put d v).tmps.getD t undef = if d = some t ∧ t < b.tmps.size then v else b.tmps.getD t undef := by
  cases d with
  | none => simp [Act.put]
  | some d =>
    simp only [Act.put, Option.some.injEq, Array.getD_eq_getD_getElem?, Array.getElem?_setIfInBounds]
    by_cases h : d = t
    · subst h
      by_cases h2 : d < b.tmps.size <;> simp [h2]
    · simp [h]
theorem mem_keys {H : HL} {κ : Nat} : κ ∈ keys H ↔ ∃ e ∈ H, e.1 = κ := by simp [keys]
theorem mem_upd {H hw hw' : HL} (e : Nat × Own) : e ∈ upd H hw hw' ↔ e ∈ hw' ∨ (e ∈ H ∧ e.1 ∉ keys hw) := by simp [upd]
theorem opT_is {cx : Cx} {β : Env} {n : Nat} {F : FL} {H : HL} {a : Act} {w : World} (h : Hold cx β n F H a w) {x : Operand} {s : T} (hx : opT F x = some s) : s.is β (View β H cx.S w) (a.eval x) := by
  cases x with
  | tmp t => exact (h.tm t s hx).2
  | const v =>
    simp only [opT] at hx
    split at hx
    · cases hx; exact rfl
    · cases hx
  | func f => simp only [opT, Option.some.injEq] at hx; subst hx; exact ⟨[], rfl, trivial⟩
  | global g => cases hx
theorem opT_bel {cx : Cx} {β : Env} {n : Nat} {F : FL} {H : HL} {a : Act} {w : World} (h : Hold cx β n F H a w) {x : Operand} {s : T} (hx : opT F x = some s) : Bel n s.keys := by
  cases x with
  | tmp t => exact (h.tm t s hx).1
  | const v =>
    simp only [opT] at hx
    split at hx
    · cases hx; exact fun κ hκ => by cases hκ
    · cases hx
  | func f => simp only [opT, Option.some.injEq] at hx; subst hx; exact fun κ hκ => by cases hκ
  | global g => cases hx
/-- One operation: what holds ahead of it, and what behind it. It was shown with keys below m; those from m on, below m', are its own. -/
theorem hold_step {cx : Cx} {β : Env} {n n' m m' : Nat} {F : FL} {H : HL} {a : Act} {w : World} {ops : Array Oper} {o : Oper} {tin : TL} {hr hw hw' : HL} {out : T}
    (h : Hold cx β n F H a w) (hT : OpT cx.P ops o m tin hr hw out hw' m') (hF : ∀ e ∈ tin, ∀ β V v, (∀ s, opT F e.1 = some s → s.is β V v) → e.2.is β V v) (hH : ∀ e ∈ hr ++ hw, e ∈ H) (hd : ∀ d, o.dst = some d → d < cx.N)
    (hn : n ≤ n') (hm : m' ≤ n') (h0 : cx.n0 ≤ m) (hin : ∀ e ∈ hr ++ hw, e.1 < m ∧ Bel m e.2.keys) (htn : ∀ e ∈ tin, Bel m e.2.keys)
    (hfF : ∀ t s, look F t = some s → ∀ κ ∈ s.keys, κ < m ∨ m' ≤ κ) (hfH : ∀ e ∈ H, (e.1 < m ∨ m' ≤ e.1) ∧ ∀ κ ∈ e.2.keys, κ < m ∨ m' ≤ κ)
    {K : Act → World → Prop} (hK : ∀ v β' w', Hold cx β' n' (putF F o.dst out) (upd H hw hw') (a.put o.dst v) w' → K (a.put o.dst v) w') :
    if Region.wanted o (yielded ops a.tmps) = true then o.wp cx.P a w K (fun _ _ _ => False) else K (a.put o.dst undef) w := by
  obtain ⟨hmm, hT⟩ := hT
  have hHw : ∀ e ∈ hw, e ∈ H := fun e he => hH e (List.mem_append_right _ he)
  let R := H.filter fun e => !(keys (hr ++ hw)).contains e.1
  have hR : ∀ e, e ∈ R ↔ e ∈ H ∧ e.1 ∉ keys (hr ++ hw) := fun e => by simp [R]
  have hkey : ∀ e ∈ H, (∃ f ∈ hr ++ hw, f.1 = e.1) ∨ e ∈ R := fun e he => by
    by_cases hk : e.1 ∈ keys (hr ++ hw)
    · exact .inl (mem_keys.1 hk)
    · exact .inr ((hR e).2 ⟨he, hk⟩)
  have hVl : ∀ b, b ∈ blks β H ++ cx.S ↔ b ∈ blks β (hr ++ hw) ++ (blks β R ++ cx.S) := fun b => by
    rw [List.mem_append, List.mem_append, List.mem_append, mem_blks, mem_blks, mem_blks]
    constructor
    · rintro (⟨e, he, hb⟩ | h)
      · rcases hkey e he with ⟨f, hf, hfe⟩ | hr
        · exact .inl ⟨f, hf, by rw [hfe]; exact hb⟩
        · exact .inr (.inl ⟨e, hr, hb⟩)
      · exact .inr (.inr h)
    · rintro (⟨e, he, hb⟩ | ⟨e, he, hb⟩ | h)
      · exact .inl ⟨e, hH e he, hb⟩
      · exact .inl ⟨e, ((hR e).1 he).1, hb⟩
      · exact .inr h
  have hV1 : Sub (View β H cx.S w) (View β (hr ++ hw) (blks β R ++ cx.S) w) := hide_sub (Kept.refl [] w) fun k _ hk => ⟨by simp, fun hm => hk ((hVl k).2 hm)⟩
  refine hT β (blks β R ++ cx.S) w a K (fun e he => ?_) htn ⟨⟨fun e he => ?_, fun e he e' he' => h.ow.apart e (hH e he) e' (hH e' he'), fun b hb => ?_, fun b hb => ?_⟩, h.glob.mono hV1⟩ fun v β1 w' k1 k2 k3 k4 k5 k6 => ?_
  · exact T.keep (fun _ _ => rfl) hV1 (hF e he β _ _ fun s hs => opT_is h hs)
  · exact ⟨(hin e he).1, (hin e he).2, Own.keep (fun _ _ => rfl) hV1 (fun _ _ _ h => h) (h.ow.is e (hH e he)).2.2⟩
  · obtain ⟨e, he, hb⟩ := mem_blks.1 hb
    rw [List.mem_append]
    rintro (hm | hm)
    · obtain ⟨e', he', hb'⟩ := mem_blks.1 hm
      obtain ⟨h1, h2⟩ := (hR e').1 he'
      exact h.ow.apart e (hH e he) e' h1 (fun hq => h2 (mem_keys.2 ⟨e, he, hq⟩)) b hb hb'
    · exact h.ow.out b (mem_blks.2 ⟨e, hH e he, hb⟩) hm
  · rcases List.mem_append.1 hb with hb | hb
    · obtain ⟨e, he, hb⟩ := mem_blks.1 hb
      exact Own.lt (h.ow.is e ((hR e).1 he).1).2.2 hb
    · exact h.ow.lt b hb
  · obtain ⟨β', hβ'⟩ : ∃ β' : Env, β' = fun κ => if m ≤ κ ∧ κ < m' then β1 κ else β κ := ⟨_, rfl⟩
    have hin' : ∀ κ, κ < m' → β' κ = β1 κ := fun κ hκ => by
      rw [hβ']
      by_cases h1 : m ≤ κ
      · simp only [h1, hκ, and_self, if_true]
      · simp only [h1, false_and, if_false]
        exact (k2 κ (by omega)).symm
    have hout : ∀ κ, κ < m ∨ m' ≤ κ → β' κ = β κ := fun κ hκ => by
      rw [hβ']
      exact if_neg (by omega)
    clear hβ'
    -- all in terms of the new keys' values
    have hb1 : ∀ e ∈ hr ++ hw', β' e.1 = β1 e.1 := fun e he => hin' _ (k5.is e he).1
    have hblk : ∀ l : HL, (∀ e ∈ l, e ∈ hr ++ hw') → ∀ b, b ∈ blks β' l ↔ b ∈ blks β1 l := fun l hl b => by
      rw [mem_blks, mem_blks]
      exact ⟨fun ⟨e, he, hb⟩ => ⟨e, he, by rw [← hb1 e (hl e he)]; exact hb⟩, fun ⟨e, he, hb⟩ => ⟨e, he, by rw [hb1 e (hl e he)]; exact hb⟩⟩
    have hw'b := hblk hw' fun e he => List.mem_append_right _ he
    have hrb := hblk (hr ++ hw') fun e he => he
    have hβ : ∀ e ∈ H, β' e.1 = β e.1 := fun e he => hout _ (hfH e he).1
    have hbig : ∀ b ∈ blks β' hw', (∃ f ∈ hw, blk (β f.1) = some b) ∨ w.heap.size ≤ b := fun b hb => (k6 b ((hw'b b).1 hb)).imp mem_blks.1 id
    have hstay : ∀ e ∈ H, e.1 ∉ keys hw → ∀ b, blk (β e.1) = some b → b ∉ blks β hw := fun e he hk b hb hm => by
      obtain ⟨f, hf, hfb⟩ := mem_blks.1 hm
      exact h.ow.apart e he f (hHw f hf) (fun hq => hk (mem_keys.2 ⟨f, hf, hq.symm⟩)) b hb hfb
    have hVm : ∀ b, b ∈ blks β' (upd H hw hw') ++ cx.S → b ∈ blks β1 (hr ++ hw') ++ (blks β R ++ cx.S) := fun b => by
      rw [List.mem_append, List.mem_append, List.mem_append, mem_blks, ← hrb, mem_blks, mem_blks]
      rintro (⟨e, he, hb⟩ | h')
      · rcases (mem_upd e).1 he with he | ⟨he, hk⟩
        · exact .inl ⟨e, List.mem_append_right _ he, hb⟩
        · rcases hkey e he with ⟨f, hf, hfe⟩ | hr'
          · rcases List.mem_append.1 hf with hf | hf
            · exact .inl ⟨f, List.mem_append_left _ hf, by rw [hfe]; exact hb⟩
            · exact absurd (mem_keys.2 ⟨f, hf, hfe⟩) hk
          · exact .inr (.inl ⟨e, hr', by rw [← hβ e he]; exact hb⟩)
      · exact .inr (.inr h')
    have hV2 : Sub (View β1 (hr ++ hw') (blks β R ++ cx.S) w') (View β' (upd H hw hw') cx.S w') := hide_sub (Kept.refl [] w') fun k _ hk => ⟨by simp, fun hm => hk (hVm k hm)⟩
    have hV3 : Sub (View β H cx.S w) (View β' (upd H hw hw') cx.S w') := hide_sub k1 fun k hk hn => by
      refine ⟨fun hm => hn (List.mem_append_left _ ?_), fun hm => ?_⟩
      · obtain ⟨f, hf, hb⟩ := mem_blks.1 hm
        exact mem_blks.2 ⟨f, hHw f hf, hb⟩
      · rcases List.mem_append.1 hm with hm | hm
        · obtain ⟨e, he, hb⟩ := mem_blks.1 hm
          rcases (mem_upd e).1 he with he | ⟨he, _⟩
          · rcases hbig k (mem_blks.2 ⟨e, he, hb⟩) with ⟨f, hf, hfb⟩ | hge
            · exact hn (List.mem_append_left _ (mem_blks.2 ⟨f, hHw f hf, hfb⟩))
            · omega
          · exact hn (List.mem_append_left _ (mem_blks.2 ⟨e, he, by rw [← hβ e he]; exact hb⟩))
        · exact hn (List.mem_append_right _ hm)
    refine hK v β' w' ⟨?_, ?_, Nat.le_trans h.le hn, fun κ hκ => (hout κ (.inl (Nat.lt_of_lt_of_le hκ h0))).trans (h.env κ hκ), ?_, ?_, ⟨?_, ?_, ?_, ?_⟩, ?_, h.gl⟩
    · have := h.size
      cases o.dst <;> simpa [Act.put] using this
    · have := h.defers
      cases o.dst <;> simpa [Act.put] using this
    · refine h.kept.trans k1 (fun _ h => h) fun i hi => ?_
      obtain ⟨f, hf, hb⟩ := mem_blks.1 hi
      exact h.own i (mem_blks.2 ⟨f, hHw f hf, hb⟩)
    · intro t s hs
      have old : look F t = some s → Bel n' s.keys ∧ s.is β' (View β' (upd H hw hw') cx.S w') (a.tmps.getD t undef) := fun hs => by
        obtain ⟨h1, h2⟩ := h.tm t s hs
        exact ⟨Bel.up hn h1, T.keep (fun κ hκ => hout κ (hfF t s hs κ hκ)) hV3 h2⟩
      rw [getD_put]
      cases hdst : o.dst with
      | none =>
        rw [hdst] at hs
        simpa using old hs
      | some d =>
        rw [hdst] at hs
        simp only [putF, look_cons] at hs
        by_cases hdt : d = t
        · subst hdt
          rw [if_pos rfl] at hs
          cases hs
          rw [if_pos ⟨rfl, by rw [h.size]; exact hd d hdst⟩]
          exact ⟨Bel.up hm k3, T.keep (fun κ hκ => hin' κ (k3 κ hκ)) hV2 k4⟩
        · rw [if_neg hdt] at hs
          rw [if_neg fun hc => hdt (Option.some.inj hc.1)]
          exact old hs
    · intro e he
      rcases (mem_upd e).1 he with he | ⟨he, hk⟩
      · obtain ⟨h1, h2, h3⟩ := k5.is e (List.mem_append_right _ he)
        refine ⟨Nat.lt_of_lt_of_le h1 hm, Bel.up hm h2, ?_⟩
        rw [hin' _ h1]
        exact Own.keep (fun κ hκ => hin' κ (h2 κ hκ)) hV2 (fun _ _ _ h => h) h3
      · obtain ⟨h1, h2, h3⟩ := h.ow.is e he
        refine ⟨Nat.lt_of_lt_of_le h1 hn, Bel.up hn h2, ?_⟩
        rw [hβ e he]
        exact Own.keep (fun κ hκ => hout κ ((hfH e he).2 κ hκ)) hV3 (fun b hb x hx => k1.heap (hstay e he hk b hb) hx) h3
    · intro e he e' he' hne b hb hb'
      rcases (mem_upd e).1 he with he | ⟨he, hk⟩ <;> rcases (mem_upd e').1 he' with he' | ⟨he', hk'⟩
      · rw [hb1 e (List.mem_append_right _ he)] at hb
        rw [hb1 e' (List.mem_append_right _ he')] at hb'
        exact k5.apart e (List.mem_append_right _ he) e' (List.mem_append_right _ he') hne b hb hb'
      · rw [hβ e' he'] at hb'
        rcases hbig b (mem_blks.2 ⟨e, he, hb⟩) with ⟨f, hf, hfb⟩ | hge
        · exact hstay e' he' hk' b hb' (mem_blks.2 ⟨f, hf, hfb⟩)
        · have := Own.lt (h.ow.is e' he').2.2 hb'; omega
      · rw [hβ e he] at hb
        rcases hbig b (mem_blks.2 ⟨e', he', hb'⟩) with ⟨f, hf, hfb⟩ | hge
        · exact hstay e he hk b hb (mem_blks.2 ⟨f, hf, hfb⟩)
        · have := Own.lt (h.ow.is e he).2.2 hb; omega
      · rw [hβ e he] at hb
        rw [hβ e' he'] at hb'
        exact h.ow.apart e he e' he' hne b hb hb'
    · intro b hb hS
      obtain ⟨e, he, hb⟩ := mem_blks.1 hb
      rcases (mem_upd e).1 he with he | ⟨he, hk⟩
      · rw [hb1 e (List.mem_append_right _ he)] at hb
        exact k5.out b (mem_blks.2 ⟨e, List.mem_append_right _ he, hb⟩) (List.mem_append_right _ hS)
      · exact h.ow.out b (mem_blks.2 ⟨e, he, by rw [← hβ e he]; exact hb⟩) hS
    · exact fun b hb => Nat.lt_of_lt_of_le (h.ow.lt b hb) k1.size
    · intro b hb
      obtain ⟨e, he, hb⟩ := mem_blks.1 hb
      rcases (mem_upd e).1 he with he | ⟨he, hk⟩
      · rcases hbig b (mem_blks.2 ⟨e, he, hb⟩) with ⟨f, hf, hfb⟩ | hge
        · exact h.own b (mem_blks.2 ⟨f, hHw f hf, hfb⟩)
        · exact .inr (Nat.le_trans h.kept.size hge)
      · exact h.own b (mem_blks.2 ⟨e, he, by rw [← hβ e he]; exact hb⟩)
theorem hide_congr {A B : List Nat} (h : ∀ k, k ∈ A ↔ k ∈ B) (w : World) : hide A w = hide B w := by
  unfold hide
  have : (fun (k : Nat) (o : Obj) => if k ∈ A then Obj.cells #[] 0 else o) = fun k o => if k ∈ B then Obj.cells #[] 0 else o := by
    funext k o
    by_cases hk : k ∈ A
    · rw [if_pos hk, if_pos ((h k).1 hk)]
    · rw [if_neg hk, if_neg fun hb => hk ((h k).2 hb)]
  rw [this]
theorem Hold.congr {cx : Cx} {β : Env} {n : Nat} {F F' : FL} {H H' : HL} {a : Act} {w : World} (h : Hold cx β n F H a w) (hF : ∀ t, look F' t = look F t) (hH : ∀ e, e ∈ H' ↔ e ∈ H) : Hold cx β n F' H' a w := by
  have hb : ∀ b, b ∈ blks β H' ↔ b ∈ blks β H := fun b => by simp only [mem_blks, hH]
  have hV : ∀ S, View β H' S w = View β H S w := fun S => hide_congr (fun k => by simp only [List.mem_append, hb]) w
  refine ⟨h.size, h.defers, h.le, h.env, h.kept, fun t s hs => ?_, ⟨fun e he => ?_, fun e he e' he' => h.ow.apart e ((hH e).1 he) e' ((hH e').1 he'), fun b hm => h.ow.out b ((hb b).1 hm), h.ow.lt⟩, fun b hm => h.own b ((hb b).1 hm), h.gl⟩
  · rw [hV]; exact h.tm t s (by rw [← hF]; exact hs)
  · rw [hV]; exact h.ow.is e ((hH e).1 he)
end Go.Sv
namespace Go.Sv
open Go Go.RowKit

/-- What an operation touches: the temporaries it reads, the one it writes; the keys it reads, and those it writes; its own new keys; the keys in what it takes, in what it gives. -/
structure Acc where
  rt : List Nat
  dst : Option Nat
  rk : List Nat
  wk : List Nat
  lo : Nat
  hi : Nat
  ik : List Nat
  ok : List Nat
structure Rec where
  tin : TL
  hr : HL
  hw : HL
  out : T
  hw' : HL
  m : Nat
  m' : Nat
def ownKeys (H : HL) : List Nat := H.flatMap fun e => e.1 :: e.2.keys
def tmpsOf (l : TL) : List Nat := l.flatMap fun e => match e.1 with
  | .tmp t => [t]
  | _ => []
/-- Of an operand s is known. -/
def Tell (F : FL) (x : Operand) (s : T) : Prop := opT F x = some s
def Rec.acc (r : Rec) (d : Option Tmp) : Acc := ⟨tmpsOf r.tin, d, keys r.hr ++ keys r.hw, keys r.hw ++ keys r.hw', r.m, r.m', r.tin.flatMap (fun e => e.2.keys) ++ ownKeys (r.hr ++ r.hw), r.out.keys ++ ownKeys r.hw'⟩

section
variable {P : Program} {ops : Array Oper} {Q : Exit → Act → World → Prop}
inductive Ch (P : Program) (ops : Array Oper) (Fin : Nat → FL → HL → List Acc → Prop) : List Oper → Nat → FL → HL → List Acc → Prop
  | done {n : Nat} {F : FL} {H : HL} {acc : List Acc} (h : Fin n F H acc) : Ch P ops Fin [] n F H acc
  | step {o : Oper} {l : List Oper} {n : Nat} {F : FL} {H : HL} {acc : List Acc} (tin : TL) (hr hw : HL) (out : T) (hw' : HL) (n' : Nat) (h : OpT P ops o n tin hr hw out hw' n') (hF : ∀ e ∈ tin, Tell F e.1 e.2) (hH : ∀ e ∈ hr ++ hw, e ∈ H) (H2 : HL) (hH2 : ∀ e, e ∈ H2 ↔ e ∈ upd H hw hw')
      (r : Ch P ops Fin l n' (putF F o.dst out) H2 (acc ++ [Rec.acc ⟨tin, hr, hw, out, hw', n, n'⟩ o.dst])) : Ch P ops Fin (o :: l) n F H acc
/-- The same, gathered. -/
def Fit (P : Program) (ops : Array Oper) : List Oper → List Rec → Nat → FL → HL → Prop
  | [], [], _, _, _ => True
  | o :: l, r :: rs, n, F, H => r.m = n ∧ OpT P ops o n r.tin r.hr r.hw r.out r.hw' r.m' ∧ (∀ e ∈ r.tin, Tell F e.1 e.2) ∧ (∀ e ∈ r.hr ++ r.hw, e ∈ H) ∧ Fit P ops l rs r.m' (putF F o.dst r.out) (upd H r.hw r.hw')
  | _, _, _, _, _ => False
/-- An operation, whether it has been done, and what it does. -/
abbrev Pc := Bool × Oper × Rec
def stF : List Pc → FL → FL
  | [], F => F
  | p :: l, F => stF l (bif p.1 then putF F p.2.1.dst p.2.2.out else F)
def stH : List Pc → HL → HL
  | [], H => H
  | p :: l, H => stH l (bif p.1 then upd H p.2.2.hw p.2.2.hw' else H)
def stN : List Rec → Nat → Nat
  | [], n => n
  | r :: l, _ => stN l r.m'
def accs : List Oper → List Rec → List Acc
  | o :: l, r :: rs => r.acc o.dst :: accs l rs
  | _, _ => []
def pcs (L : Nat → Bool) : Nat → List Oper → List Rec → List Pc
  | i, o :: l, r :: rs => (L i, o, r) :: pcs L (i + 1) l rs
  | _, _, _ => []
theorem upd_congr {H H' hw hw' : HL} (h : ∀ e, e ∈ H ↔ e ∈ H') (e : Nat × Own) : e ∈ upd H hw hw' ↔ e ∈ upd H' hw hw' := by rw [mem_upd, mem_upd, h]
theorem stH_congr : ∀ {A : List Pc} {H H' : HL}, (∀ e, e ∈ H ↔ e ∈ H') → ∀ e, e ∈ stH A H ↔ e ∈ stH A H'
  | [], _, _, h => h
  | p :: A, H, H', h => stH_congr (A := A) fun e => by
    cases p.1 with
    | false => exact h e
    | true => exact upd_congr h e
theorem Fit.congr : ∀ {l : List Oper} {rs : List Rec} {n : Nat} {F : FL} {H H' : HL}, Fit P ops l rs n F H → (∀ e, e ∈ H ↔ e ∈ H') → Fit P ops l rs n F H'
  | [], [], _, _, _, _, _, _ => trivial
  | o :: l, r :: rs, n, F, H, H', h, hH => by
    obtain ⟨h1, h2, h3, h4, h5⟩ := h
    exact ⟨h1, h2, h3, fun e he => (hH e).1 (h4 e he), h5.congr (upd_congr hH)⟩
  | [], _ :: _, _, _, _, _, h, _ => h.elim
  | _ :: _, [], _, _, _, _, h, _ => h.elim
theorem Ch.all {Fin : Nat → FL → HL → List Acc → Prop} {l : List Oper} {n : Nat} {F : FL} {H : HL} {acc : List Acc} (h : Ch P ops Fin l n F H acc) :
    ∃ (rs : List Rec) (H' : HL), rs.length = l.length ∧ Fit P ops l rs n F H ∧ (∀ e, e ∈ H' ↔ e ∈ stH (pcs (fun _ => true) 0 l rs) H) ∧ Fin (stN rs n) (stF (pcs (fun _ => true) 0 l rs) F) H' (acc ++ accs l rs) := by
  have pcs0 : ∀ (l : List Oper) (rs : List Rec) (i j : Nat), pcs (fun _ => true) i l rs = pcs (fun _ => true) j l rs := by
    intro l
    induction l with
    | nil => intro rs i j; cases rs <;> rfl
    | cons o l ih => intro rs i j; cases rs with
      | nil => rfl
      | cons r rs => simp only [pcs, ih rs (i + 1) (j + 1)]
  induction h with
  | @done n F H acc h => exact ⟨[], H, rfl, trivial, fun _ => Iff.rfl, by simpa [stN, stF, accs, pcs] using h⟩
  | @step o l n F H acc tin hr hw out hw' n' h hF hH H2 hH2 r ih =>
    obtain ⟨rs, H', h1, h2, h4, h3⟩ := ih
    refine ⟨⟨tin, hr, hw, out, hw', n, n'⟩ :: rs, H', by simp [h1], ⟨rfl, h, hF, hH, h2.congr hH2⟩, fun e => ?_, ?_⟩
    · simp only [pcs, stH, cond_true, pcs0 l rs (0 + 1) 0]
      exact (h4 e).trans (stH_congr hH2 e)
    · simpa only [stN, pcs, stF, accs, cond_true, pcs0 l rs (0 + 1) 0, List.append_assoc, List.cons_append, List.nil_append] using h3

theorem wp_any {o : Oper} {a : Act} {w : World} {K : Act → World → Prop} (h : o.wp P a w K fun _ _ _ => False) : o.wp P a w K Q := by
  unfold Oper.wp Oper.upon at *
  split at h
  · exact h
  · exact h
  · exact h
  · refine Calls.mono h fun e w2 he => ?_
    cases e with
    | returned v => exact he
    | panicked c => exact he.elim
    | outgrown => obtain ⟨_, _, h⟩ := he; exact h.elim
  · exact h
  · exact h.elim
  · exact h.elim
theorem w_any {o : Oper} {a : Act} {w : World} {K : Act → World → Prop} (h : if Region.wanted o (yielded ops a.tmps) = true then o.wp P a w K (fun _ _ _ => False) else K (a.put o.dst undef) w) :
    if Region.wanted o (yielded ops a.tmps) = true then o.wp P a w K Q else K (a.put o.dst undef) w := by
  split
  · rename_i hw; rw [if_pos hw] at h; exact wp_any h
  · rename_i hw; rw [if_neg hw] at h; exact h
/-- A plain region: as listed. -/
theorem Ch.list {cx : Cx} {Fin : Nat → FL → HL → List Acc → Prop} {l : List Oper} {n : Nat} {F : FL} {H : HL} {acc : List Acc} (h : Ch cx.P ops Fin l n F H acc) (hd : ∀ o ∈ l, ∀ d, o.dst = some d → d < cx.N)
    (hfin : ∀ n F H acc, Fin n F H acc → ∀ β a w, Hold cx β n F H a w → Q .normal a w) : ∀ β a w, Hold cx β n F H a w → wpList cx.P ops Q l a w := by
  induction h with
  | done h => exact fun β a w hH => wpList_nil (hfin _ _ _ _ h β a w hH)
  | @step o l n F H acc tin hr hw out hw' n' h hF hH H2 hH2 r ih =>
    intro β a w hh
    refine wpList_step fun K hK => w_any (hold_step hh h (fun e he _ _ _ hv => hv _ (hF e he)) hH (hd o (List.mem_cons_self ..)) h.1 (Nat.le_refl _) hh.le (fun e he => ⟨(hh.ow.is e (hH e he)).1, (hh.ow.is e (hH e he)).2.1⟩) (fun e he => opT_bel hh (hF e he))
      (fun t s hs κ hκ => .inl ((hh.tm t s hs).1 κ hκ)) (fun e he => ⟨.inl (hh.ow.is e he).1, fun κ hκ => .inl ((hh.ow.is e he).2.1 κ hκ)⟩) fun v β' w' hn => hK _ _ (ih (fun o ho => hd o (List.mem_cons_of_mem _ ho)) β' _ _ (hn.congr (fun _ => rfl) hH2)))
end
end Go.Sv
