/- Part 3 of what StageOrder and StagePlans ask: for every input each returns true, and its input reads as it did. No condition. -/
import Derived.Test.YtelkpflpgpdkdaaGreatDoorPt2
namespace Go.Sv
open Go Go.RowKit

def direct (ops : Array Oper) (j : Nat) : List Nat := match ops[j]? with
  | some o => (o.after.toList.filter (Region.binds .any)).map (·.on)
  | none => []
/-- Whom each one waits for, as bits. -/
def masks (ops : Array Oper) : Nat → List Nat
  | 0 => []
  | k + 1 => masks ops k ++ [(direct ops k).foldl (fun s e => s ||| (2 ^ e ||| (masks ops k).getD e 0)) 0]
def any2 (l m : List Nat) : Bool := l.any fun x => m.contains x
def clash (x y : Acc) : Bool :=
  (match x.dst with | some d => y.rt.contains d || (match y.dst with | some e => Nat.beq d e | none => false) | none => false) ||
  (match y.dst with | some d => x.rt.contains d | none => false) ||
  any2 x.wk y.rk || any2 x.wk y.wk || any2 x.rk y.wk
def sched (ops : Array Oper) (n0 : Nat) (acc : List Acc) : Bool :=
  let M := masks ops ops.size
  (List.range ops.size).all fun j => (direct ops j).all (fun e => Nat.blt e j) && match acc[j]? with
    | none => false
    | some y => y.ik.all (fun κ => Nat.blt κ y.lo) &&
      y.ok.all (fun κ => Nat.blt κ n0 || (Nat.ble y.lo κ && Nat.blt κ y.hi) || (List.range j).any fun i => (M.getD j 0).testBit i && match acc[i]? with
        | some x => Nat.ble x.lo κ && Nat.blt κ x.hi
        | none => false) &&
      (List.range j).all fun i => (M.getD j 0).testBit i || match acc[i]? with
        | some x => !clash x y
        | none => false

theorem masks_len (ops : Array Oper) : ∀ k, (masks ops k).length = k
  | 0 => rfl
  | k + 1 => by simp [masks, masks_len ops k]
theorem masks_at (ops : Array Oper) {j : Nat} : ∀ {k : Nat}, j < k → (masks ops k).getD j 0 = (direct ops j).foldl (fun s e => s ||| (2 ^ e ||| (masks ops j).getD e 0)) 0
  | 0, h => by omega
  | k + 1, h => by
    simp only [masks]
    by_cases hj : j < k
    · rw [List.getD_eq_getElem?_getD, List.getElem?_append_left (by rw [masks_len]; exact hj), ← List.getD_eq_getElem?_getD]
      exact masks_at ops hj
    · obtain rfl : j = k := by omega
      rw [List.getD_eq_getElem?_getD, List.getElem?_append_right (by rw [masks_len]; exact Nat.le_refl _), masks_len, Nat.sub_self]
      rfl
theorem fold_bits (f : Nat → Nat) (i : Nat) : ∀ (l : List Nat) (s : Nat), (l.foldl (fun s e => s ||| f e) s).testBit i = true → s.testBit i = true ∨ ∃ e ∈ l, (f e).testBit i = true
  | [], s, h => .inl h
  | e :: l, s, h => by
    rcases fold_bits f i l _ h with h | ⟨e', he, h⟩
    · rw [Nat.testBit_or, Bool.or_eq_true] at h
      exact h.imp id fun h => ⟨e, List.mem_cons_self .., h⟩
    · exact .inr ⟨e', List.mem_cons_of_mem _ he, h⟩
/-- What is waited for is among those that are done. -/
theorem masks_in {ops : Array Oper} {L : Nat → Bool} (hC : ∀ j, L j = true → ∀ e ∈ direct ops j, L e = true) : ∀ (j : Nat), (∀ e ∈ direct ops j, L e = true) → ∀ {k i : Nat}, j < k → ((masks ops k).getD j 0).testBit i = true → L i = true := by
  intro j
  induction j using Nat.strongRecOn with
  | _ j ih =>
    intro hj k i hk hb
    rw [masks_at ops hk] at hb
    rcases fold_bits (fun e => 2 ^ e ||| (masks ops j).getD e 0) i _ _ hb with h | ⟨e, he, h⟩
    · simp at h
    · rw [Nat.testBit_or, Bool.or_eq_true] at h
      rcases h with h | h
      · rw [Nat.testBit_two_pow] at h
        obtain rfl : e = i := by simpa using h
        exact hj _ he
      · by_cases hej : e < j
        · exact ih e hej (hC e (hj e he)) hej h
        · rw [List.getD_eq_getElem?_getD, List.getElem?_eq_none (by rw [masks_len]; omega)] at h
          simp at h

section
variable {P : Program} {ops : Array Oper}
theorem stF_append : ∀ (A B : List Pc) (F : FL), stF (A ++ B) F = stF B (stF A F)
  | [], _, _ => rfl
  | _ :: A, B, _ => stF_append A B _
theorem stH_append : ∀ (A B : List Pc) (H : HL), stH (A ++ B) H = stH B (stH A H)
  | [], _, _ => rfl
  | _ :: A, B, _ => stH_append A B _
theorem pcs_append (L : Nat → Bool) : ∀ (l1 l2 : List Oper) (r1 r2 : List Rec) (k : Nat), r1.length = l1.length → pcs L k (l1 ++ l2) (r1 ++ r2) = pcs L k l1 r1 ++ pcs L (k + l1.length) l2 r2
  | [], l2, [], r2, k, _ => rfl
  | o :: l1, l2, r :: r1, r2, k, h => by
    simp only [List.cons_append, pcs, pcs_append L l1 l2 r1 r2 (k + 1) (by simpa using h), List.length_cons, show k + 1 + l1.length = k + (l1.length + 1) by omega]
  | [], _, _ :: _, _, _, h => by simp at h
  | _ :: _, _, [], _, _, h => by simp at h
theorem pcs_congr {L L' : Nat → Bool} : ∀ {l : List Oper} {rs : List Rec} {k : Nat}, (∀ j, k ≤ j → j < k + l.length → L j = L' j) → pcs L k l rs = pcs L' k l rs
  | [], [], _, _ => rfl
  | [], _ :: _, _, _ => rfl
  | _ :: _, [], _, _ => rfl
  | o :: l, r :: rs, k, h => by
    simp only [pcs]
    rw [h k (Nat.le_refl _) (by simp), pcs_congr fun j h1 h2 => h j (by omega) (by simp only [List.length_cons]; omega)]
theorem pcs_mem {L : Nat → Bool} {p : Pc} : ∀ {l : List Oper} {rs : List Rec} {k : Nat}, p ∈ pcs L k l rs → ∃ j, p.1 = L (k + j) ∧ l[j]? = some p.2.1 ∧ rs[j]? = some p.2.2
  | [], [], _, h => by cases h
  | [], _ :: _, _, h => by cases h
  | _ :: _, [], _, h => by cases h
  | o :: l, r :: rs, k, h => by
    rcases List.mem_cons.1 h with rfl | h
    · exact ⟨0, rfl, rfl, rfl⟩
    · obtain ⟨j, h1, h2, h3⟩ := pcs_mem h
      exact ⟨j + 1, by rw [h1]; congr 1; omega, by simpa using h2, by simpa using h3⟩
theorem look_put {F : FL} {d : Option Tmp} {x : T} {t : Nat} : look (putF F d x) t = if d = some t then some x else look F t := by
  cases d with
  | none => rfl
  | some d => simp only [putF, look_cons, Option.some.injEq]
theorem stF_skip {t : Nat} : ∀ {B : List Pc} (G : FL), (∀ p ∈ B, p.1 = true → p.2.1.dst ≠ some t) → look (stF B G) t = look G t
  | [], _, _ => rfl
  | p :: B, G, h => by
    refine (stF_skip (B := B) _ fun q hq => h q (List.mem_cons_of_mem _ hq)).trans ?_
    cases hp : p.1 with
    | false => rfl
    | true => rw [cond_true, look_put, if_neg (h p (List.mem_cons_self ..) hp)]
theorem stF_all {L : Nat → Bool} {t : Nat} : ∀ {l : List Oper} {rs : List Rec} {k : Nat} (F G : FL), look F t = look G t → (∀ p ∈ pcs L k l rs, p.1 = false → p.2.1.dst ≠ some t) → look (stF (pcs L k l rs) F) t = look (stF (pcs (fun _ => true) k l rs) G) t
  | [], [], _, _, _, h, _ => h
  | [], _ :: _, _, _, _, h, _ => h
  | _ :: _, [], _, _, _, h, _ => h
  | o :: l, r :: rs, k, F, G, h, hp => by
    refine stF_all (l := l) (rs := rs) (k := k + 1) _ _ ?_ fun p hq => hp p (List.mem_cons_of_mem _ hq)
    cases hk : L k with
    | true => simp only [cond_true, look_put]; rw [h]
    | false =>
      have := hp (L k, o, r) (List.mem_cons_self ..) hk
      simp only [cond_true, cond_false, look_put, if_neg this]
      exact h
theorem stF_put {d : Option Tmp} {x : T} : ∀ {B : List Pc} (G G' : FL), (∀ t, look G' t = look (putF G d x) t) → (∀ p ∈ B, p.1 = true → ∀ e, p.2.1.dst = some e → d ≠ some e) → ∀ t, look (stF B G') t = look (putF (stF B G) d x) t
  | [], _, _, h, _ => h
  | p :: B, G, G', h, hp => by
    refine stF_put (B := B) _ _ (fun t => ?_) fun q hq => hp q (List.mem_cons_of_mem _ hq)
    cases hk : p.1 with
    | false => exact h t
    | true =>
      have := hp p (List.mem_cons_self ..) hk
      simp only [cond_true, look_put, h]
      by_cases h1 : p.2.1.dst = some t
      · rw [if_pos h1, if_pos h1, if_neg (this t h1)]
      · rw [if_neg h1, if_neg h1]
theorem stF_from {t : Nat} {s : T} : ∀ {A : List Pc} {F : FL}, look (stF A F) t = some s → look F t = some s ∨ ∃ p ∈ A, p.1 = true ∧ p.2.2.out = s
  | [], _, h => .inl h
  | p :: A, F, h => by
    rcases stF_from (A := A) h with h | ⟨q, hq, h⟩
    · cases hk : p.1 with
      | false => rw [hk] at h; exact .inl h
      | true =>
        rw [hk, cond_true, look_put] at h
        split at h
        · exact .inr ⟨p, List.mem_cons_self .., hk, Option.some.inj h⟩
        · exact .inl h
    · exact .inr ⟨q, List.mem_cons_of_mem _ hq, h⟩
def wkeys (r : Rec) : List Nat := keys r.hw ++ keys r.hw'
theorem upd_off {H : HL} {r : Rec} {e : Nat × Own} (h : e.1 ∉ wkeys r) : e ∈ upd H r.hw r.hw' ↔ e ∈ H := by
  simp only [wkeys, List.mem_append, not_or] at h
  rw [mem_upd]
  exact ⟨fun hh => hh.elim (fun hm => absurd (mem_keys.2 ⟨e, hm, rfl⟩) h.2) (·.1), fun hh => .inr ⟨hh, h.1⟩⟩
theorem stH_skip {e : Nat × Own} : ∀ {B : List Pc} (G : HL), (∀ p ∈ B, p.1 = true → e.1 ∉ wkeys p.2.2) → (e ∈ stH B G ↔ e ∈ G)
  | [], _, _ => Iff.rfl
  | p :: B, G, h => by
    refine (stH_skip (B := B) _ fun q hq => h q (List.mem_cons_of_mem _ hq)).trans ?_
    cases hp : p.1 with
    | false => exact Iff.rfl
    | true => exact upd_off (h p (List.mem_cons_self ..) hp)
theorem stH_all {L : Nat → Bool} {e : Nat × Own} : ∀ {l : List Oper} {rs : List Rec} {k : Nat} (F G : HL), (e ∈ F ↔ e ∈ G) → (∀ p ∈ pcs L k l rs, p.1 = false → e.1 ∉ wkeys p.2.2) → (e ∈ stH (pcs L k l rs) F ↔ e ∈ stH (pcs (fun _ => true) k l rs) G)
  | [], [], _, _, _, h, _ => h
  | [], _ :: _, _, _, _, h, _ => h
  | _ :: _, [], _, _, _, h, _ => h
  | o :: l, r :: rs, k, F, G, h, hp => by
    refine stH_all (l := l) (rs := rs) (k := k + 1) _ _ ?_ fun p hq => hp p (List.mem_cons_of_mem _ hq)
    cases hk : L k with
    | true => simp only [cond_true, mem_upd, h]
    | false =>
      have := hp (L k, o, r) (List.mem_cons_self ..) hk
      simp only [cond_true, cond_false]
      exact h.trans (upd_off this).symm
theorem stH_upd {r : Rec} : ∀ {B : List Pc} (G G' : HL), (∀ e, e ∈ G' ↔ e ∈ upd G r.hw r.hw') → (∀ p ∈ B, p.1 = true → ∀ κ ∈ wkeys p.2.2, κ ∉ wkeys r) → ∀ e, e ∈ stH B G' ↔ e ∈ upd (stH B G) r.hw r.hw'
  | [], _, _, h, _ => h
  | p :: B, G, G', h, hp => by
    refine stH_upd (B := B) _ _ (fun e => ?_) fun q hq => hp q (List.mem_cons_of_mem _ hq)
    cases hk : p.1 with
    | false => exact h e
    | true =>
      have hc := hp p (List.mem_cons_self ..) hk
      simp only [cond_true, mem_upd, h]
      have a1 : e ∈ p.2.2.hw' → e.1 ∉ keys r.hw := fun he hk => hc e.1 (List.mem_append_right _ (mem_keys.2 ⟨e, he, rfl⟩)) (List.mem_append_left _ hk)
      have a2 : e ∈ r.hw' → e.1 ∉ keys p.2.2.hw := fun he hk => hc e.1 (List.mem_append_left _ hk) (List.mem_append_right _ (mem_keys.2 ⟨e, he, rfl⟩))
      constructor
      · rintro (h1 | ⟨h1 | h1, h2⟩)
        · exact .inr ⟨.inl h1, a1 h1⟩
        · exact .inl h1
        · exact .inr ⟨.inr ⟨h1.1, h2⟩, h1.2⟩
      · rintro (h1 | ⟨h1 | h1, h2⟩)
        · exact .inr ⟨.inl h1, a2 h1⟩
        · exact .inl h1
        · exact .inr ⟨.inr ⟨h1.1, h2⟩, h1.2⟩
theorem stH_from {e : Nat × Own} : ∀ {A : List Pc} {H : HL}, e ∈ stH A H → e ∈ H ∨ ∃ p ∈ A, p.1 = true ∧ e ∈ p.2.2.hw'
  | [], _, h => .inl h
  | p :: A, H, h => by
    rcases stH_from (A := A) h with h | ⟨q, hq, h⟩
    · cases hk : p.1 with
      | false => rw [hk] at h; exact .inl h
      | true =>
        rw [hk, cond_true, mem_upd] at h
        exact h.elim (fun h => .inr ⟨p, List.mem_cons_self .., hk, h⟩) fun h => .inl h.1
    · exact .inr ⟨q, List.mem_cons_of_mem _ hq, h⟩
theorem stN_le : ∀ {l : List Oper} {rs : List Rec} {n : Nat} {F : FL} {H : HL}, Fit P ops l rs n F H → n ≤ stN rs n
  | [], [], n, _, _, _ => Nat.le_refl n
  | o :: l, r :: rs, n, F, H, h => by
    obtain ⟨h1, h2, _, _, h5⟩ := h
    exact Nat.le_trans h2.1 (stN_le h5)
  | [], _ :: _, _, _, _, h => h.elim
  | _ :: _, [], _, _, _, h => h.elim
theorem Fit.split : ∀ {l1 : List Oper} {r1 : List Rec} {l2 : List Oper} {r2 : List Rec} {n : Nat} {F : FL} {H : HL}, r1.length = l1.length → Fit P ops (l1 ++ l2) (r1 ++ r2) n F H →
    n ≤ stN r1 n ∧ Fit P ops l2 r2 (stN r1 n) (stF (pcs (fun _ => true) 0 l1 r1) F) (stH (pcs (fun _ => true) 0 l1 r1) H)
  | [], [], _, _, n, _, _, _, h => ⟨Nat.le_refl n, h⟩
  | o :: l1, r :: r1, l2, r2, n, F, H, hl, h => by
    obtain ⟨h1, h2, _, _, h5⟩ := h
    obtain ⟨h6, h7⟩ := Fit.split (by simpa using hl) h5
    refine ⟨Nat.le_trans h2.1 h6, ?_⟩
    simp only [pcs, stF, stH, cond_true, stN]
    have : ∀ j : Nat, pcs (fun _ => true) (0 + 1) l1 r1 = pcs (fun _ => true) 0 l1 r1 := fun _ => by
      have : ∀ (l : List Oper) (rs : List Rec) (i j : Nat), pcs (fun _ => true) i l rs = pcs (fun _ => true) j l rs := by
        intro l
        induction l with
        | nil => intro rs i j; cases rs <;> rfl
        | cons o l ih => intro rs i j; cases rs with
          | nil => rfl
          | cons r rs => simp only [pcs, ih rs (i + 1) (j + 1)]
      exact this _ _ _ _
    rw [this 0]
    exact h7
  | [], _ :: _, _, _, _, _, _, hl, _ => by simp at hl
  | _ :: _, [], _, _, _, _, _, hl, _ => by simp at hl
theorem accs_at : ∀ {l : List Oper} {rs : List Rec} {j : Nat} {o : Oper} {r : Rec}, l[j]? = some o → rs[j]? = some r → (accs l rs)[j]? = some (r.acc o.dst)
  | o :: l, r :: rs, 0, _, _, h1, h2 => by simp at h1 h2; subst h1; subst h2; rfl
  | o :: l, r :: rs, j + 1, _, _, h1, h2 => by
    simp only [accs, List.getElem?_cons_succ]
    exact accs_at (by simpa using h1) (by simpa using h2)
  | [], _, _, _, _, h, _ => by simp at h
  | _ :: _, [], _, _, _, _, h => by simp at h
theorem Hold.up {cx : Cx} {β : Env} {n n' : Nat} {F : FL} {H : HL} {a : Act} {w : World} (h : Hold cx β n F H a w) (hn : n ≤ n') : Hold cx β n' F H a w :=
  ⟨h.size, h.defers, Nat.le_trans h.le hn, h.env, h.kept, fun t s hs => ⟨Bel.up hn (h.tm t s hs).1, (h.tm t s hs).2⟩, ⟨fun e he => ⟨Nat.lt_of_lt_of_le (h.ow.is e he).1 hn, Bel.up hn (h.ow.is e he).2.1, (h.ow.is e he).2.2⟩, h.ow.apart, h.ow.out, h.ow.lt⟩, h.own, h.gl⟩
theorem any2_no {l m : List Nat} (h : any2 l m = false) : ∀ κ ∈ l, κ ∉ m := fun κ hl hm => by
  have := List.any_eq_false.1 h κ hl
  simp [hm] at this
structure NoClash (x y : Acc) : Prop where
  rw_ : ∀ d, x.dst = some d → d ∉ y.rt
  ww : ∀ d, x.dst = some d → y.dst ≠ some d
  wr : ∀ d, y.dst = some d → d ∉ x.rt
  k1 : ∀ κ ∈ x.wk, κ ∉ y.rk
  k2 : ∀ κ ∈ x.wk, κ ∉ y.wk
  k3 : ∀ κ ∈ x.rk, κ ∉ y.wk
theorem no_clash {x y : Acc} (h : clash x y = false) : NoClash x y := by
  simp only [clash, Bool.or_eq_false_iff] at h
  obtain ⟨⟨⟨⟨h1, h2⟩, h3⟩, h4⟩, h5⟩ := h
  refine ⟨fun d hd hm => ?_, fun d hd he => ?_, fun d hd hm => ?_, any2_no h3, any2_no h4, any2_no h5⟩
  · rw [hd] at h1; simp [hm] at h1
  · rw [hd, he] at h1; simp at h1
  · rw [hd] at h2; simp [hm] at h2
end
end Go.Sv
