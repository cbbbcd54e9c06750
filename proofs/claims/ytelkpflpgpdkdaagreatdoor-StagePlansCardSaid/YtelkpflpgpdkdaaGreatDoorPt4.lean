/- Part 4 of what StageOrder and StagePlans ask: for every input each returns true, and its input reads as it did. No condition. -/
import Derived.Test.YtelkpflpgpdkdaaGreatDoorPt3
namespace Go.Sv
open Go Go.RowKit

theorem direct_mem {ops : Array Oper} {j e : Nat} : e ∈ direct ops j ↔ ∃ o, ops[j]? = some o ∧ ∃ x ∈ o.after, Region.binds .any x = true ∧ x.on = e := by
  unfold direct
  cases h : ops[j]? with
  | none => simp
  | some o => simp [and_assoc]
theorem getD_setB {L : Array Bool} {i j : Nat} (hi : i < L.size) : (L.setIfInBounds i true).getD j false = (decide (j = i) || L.getD j false) := by
  by_cases h : j = i
  · subst h; simp [hi]
  · have : ¬ i = j := fun e => h e.symm
    simp [h, this]

section
variable {cx : Cx} {l : List Oper} {Q : Exit → Act → World → Prop} {n : Nat} {F : FL} {H : HL} {rs : List Rec}
abbrev Lf (L : Array Bool) : Nat → Bool := fun i => L.getD i false
structure Inv (cx : Cx) (l : List Oper) (rs : List Rec) (n : Nat) (F : FL) (H : HL) (L : Array Bool) (a : Act) (w : World) : Prop where
  size : L.size = l.length
  closed : ∀ j, Lf L j = true → ∀ e ∈ direct l.toArray j, Lf L e = true
  hold : ∃ β, Hold cx β (stN rs n) (stF (pcs (Lf L) 0 l rs) F) (stH (pcs (Lf L) 0 l rs) H) a w
theorem sched_at {ops : Array Oper} {n0 : Nat} {acc : List Acc} (h : sched ops n0 acc = true) {j : Nat} {y : Acc} (hj : j < ops.size) (hy : acc[j]? = some y) :
    (∀ e ∈ direct ops j, e < j) ∧ (∀ κ ∈ y.ik, κ < y.lo) ∧ (∀ κ ∈ y.ok, κ < n0 ∨ (y.lo ≤ κ ∧ κ < y.hi) ∨ ∃ i x, i < j ∧ ((masks ops ops.size).getD j 0).testBit i = true ∧ acc[i]? = some x ∧ x.lo ≤ κ ∧ κ < x.hi) ∧
      ∀ i x, i < j → acc[i]? = some x → ((masks ops ops.size).getD j 0).testBit i = true ∨ NoClash x y := by
  have h := List.all_eq_true.1 h j (List.mem_range.2 hj)
  rw [Bool.and_eq_true, List.all_eq_true] at h
  obtain ⟨h1, h2⟩ := h
  rw [hy] at h2
  simp only [Bool.and_eq_true, List.all_eq_true] at h2
  obtain ⟨⟨h3, h4⟩, h5⟩ := h2
  refine ⟨fun e he => by simpa using h1 e he, fun κ hκ => by simpa using h3 κ hκ, fun κ hκ => ?_, fun i x hi hx => ?_⟩
  · have := h4 κ hκ
    simp only [Bool.or_eq_true, Bool.and_eq_true, List.any_eq_true] at this
    rcases this with (h | ⟨h, h'⟩) | ⟨i, hi, hb, hx⟩
    · exact .inl (by simpa using h)
    · exact .inr (.inl ⟨by simpa using h, by simpa using h'⟩)
    · cases hc : acc[i]? with
      | none => rw [hc] at hx; cases hx
      | some x =>
        rw [hc] at hx
        simp only [Bool.and_eq_true] at hx
        exact .inr (.inr ⟨i, x, List.mem_range.1 hi, hb, hc, by simpa using hx.1, by simpa using hx.2⟩)
  · have := h5 i (List.mem_range.2 hi)
    rw [hx] at this
    rw [Bool.or_eq_true] at this
    refine this.imp id fun h => no_clash ?_
    simpa using h
theorem split_at {α : Type} : ∀ {l : List α} {i : Nat} {x : α}, l[i]? = some x → ∃ l1 l2, l = l1 ++ x :: l2 ∧ l1.length = i
  | [], _, _, h => by simp at h
  | y :: l, 0, x, h => ⟨[], l, by simp at h; rw [h]; rfl, rfl⟩
  | y :: l, i + 1, x, h => by
    obtain ⟨l1, l2, h1, h2⟩ := split_at (l := l) (i := i) (x := x) (by simpa using h)
    exact ⟨y :: l1, l2, by rw [h1]; rfl, by simp [h2]⟩
theorem fit_at {P : Program} {ops : Array Oper} : ∀ {l : List Oper} {rs : List Rec} {n : Nat} {F : FL} {H : HL}, Fit P ops l rs n F H → ∀ {i : Nat} {x : Rec}, rs[i]? = some x → n ≤ x.m ∧ x.m ≤ x.m' ∧ x.m' ≤ stN rs n
  | [], [], _, _, _, _, _, _, h => by simp at h
  | o :: l, r :: rs, n, F, H, hf, 0, x, h => by
    obtain ⟨h1, h2, _, _, h5⟩ := hf
    simp at h; subst h
    exact ⟨by omega, by have := h2.1; omega, stN_le h5⟩
  | o :: l, r :: rs, n, F, H, hf, i + 1, x, h => by
    obtain ⟨h1, h2, _, _, h5⟩ := hf
    obtain ⟨h6, h7, h8⟩ := fit_at h5 (i := i) (x := x) (by simpa using h)
    exact ⟨Nat.le_trans h2.1 h6, h7, h8⟩
  | [], _ :: _, _, _, _, h, _, _, _ => h.elim
  | _ :: _, [], _, _, _, h, _, _, _ => h.elim
theorem fit_order {P : Program} {ops : Array Oper} : ∀ {l : List Oper} {rs : List Rec} {n : Nat} {F : FL} {H : HL}, Fit P ops l rs n F H → ∀ {k i : Nat} {x y : Rec}, k < i → rs[k]? = some x → rs[i]? = some y → x.m' ≤ y.m
  | [], [], _, _, _, _, _, _, _, _, _, h, _ => by simp at h
  | o :: l, r :: rs, n, F, H, hf, 0, i + 1, x, y, hk, hx, hy => by
    obtain ⟨h1, h2, _, _, h5⟩ := hf
    simp at hx; subst hx
    exact (fit_at h5 (i := i) (x := y) (by simpa using hy)).1
  | o :: l, r :: rs, n, F, H, hf, k + 1, i + 1, x, y, hk, hx, hy => by
    obtain ⟨h1, h2, _, _, h5⟩ := hf
    exact fit_order h5 (k := k) (i := i) (by omega) (by simpa using hx) (by simpa using hy)
  | _ :: _, _ :: _, _, _, _, _, k, 0, _, _, h, _, _ => by omega
  | [], _ :: _, _, _, _, h, _, _, _, _, _, _, _ => h.elim
  | _ :: _, [], _, _, _, h, _, _, _, _, _, _, _ => h.elim
theorem Inv.step (hl : rs.length = l.length) (hfit : Fit cx.P l.toArray l rs n F H) (hs : sched l.toArray n (accs l rs) = true) (hd : ∀ o ∈ l, ∀ d, o.dst = some d → d < cx.N)
    (hF0 : ∀ t s, look F t = some s → Bel n s.keys) (hH0 : ∀ e ∈ H, e.1 < n ∧ Bel n e.2.keys) (h0 : cx.n0 ≤ n) {L : Array Bool} {a : Act} {w : World} (hI : Inv cx l rs n F H L a w) {i : Nat} (hi : i ∈ Region.ready .any l.toArray L)
    {K : Act → World → Prop} (hK : ∀ a w, Inv cx l rs n F H (L.setIfInBounds i true) a w → K a w) : wpOp cx.P l.toArray Q i K a w := by
  obtain ⟨hu, o, ho, hdeps⟩ := mem_ready.1 hi
  have ho' : l[i]? = some o := by simpa using ho
  have hil : i < l.length := (List.getElem?_eq_some_iff.1 ho').1
  have hiL' : i < L.size := by rw [hI.size]; exact hil
  obtain ⟨r, hr⟩ : ∃ r, rs[i]? = some r := ⟨_, List.getElem?_eq_getElem (show i < rs.length by omega)⟩
  have hiL : Lf L i = false := by
    simp [hiL'] at hu
    simp [Lf, hiL', hu]
  have hdir : ∀ e ∈ direct l.toArray i, Lf L e = true := fun e he => by
    obtain ⟨o', ho2, x, hx, hb, rfl⟩ := direct_mem.1 he
    cases ho.symm.trans ho2
    exact hdeps x hx hb
  have hmask : ∀ j, j < l.length → (∀ e ∈ direct l.toArray j, Lf L e = true) → ∀ k, ((masks l.toArray l.toArray.size).getD j 0).testBit k = true → Lf L k = true := fun j hj hjd k hb => masks_in hI.closed j hjd (by simpa using hj) hb
  -- no clash with those ahead that are not done, nor with those behind that are
  have cA : ∀ j oj rj, j < i → Lf L j = false → l[j]? = some oj → rs[j]? = some rj → NoClash (rj.acc oj.dst) (r.acc o.dst) := fun j oj rj hji hjL hoj hrj => by
    rcases (sched_at hs (by simpa using hil) (accs_at ho' hr)).2.2.2 j _ hji (accs_at hoj hrj) with h | h
    · exact absurd (hmask i hil hdir j h) (by rw [hjL]; exact Bool.false_ne_true)
    · exact h
  have cB : ∀ j oj rj, i < j → Lf L j = true → l[j]? = some oj → rs[j]? = some rj → NoClash (r.acc o.dst) (rj.acc oj.dst) := fun j oj rj hij hjL hoj hrj => by
    have hjl := (List.getElem?_eq_some_iff.1 hoj).1
    rcases (sched_at hs (by simpa using hjl) (accs_at hoj hrj)).2.2.2 i _ hij (accs_at ho' hr) with h | h
    · exact absurd (hmask j hjl (hI.closed j hjL) i h) (by rw [hiL]; exact Bool.false_ne_true)
    · exact h
  have hik := (sched_at hs (by simpa using hil) (accs_at ho' hr)).2.1
  -- keys of its own are no one's that is done
  have hint : ∀ k x, k ≠ i → (accs l rs)[k]? = some x → ∀ κ, x.lo ≤ κ → κ < x.hi → κ < r.m ∨ r.m' ≤ κ := fun k x hne hx κ h1 h2 => by
    have hk : k < l.length := by
      have hlen : ∀ (l : List Oper) (rs : List Rec), rs.length = l.length → (accs l rs).length = l.length := by
        intro l
        induction l with
        | nil => intro rs _; cases rs <;> rfl
        | cons o l ih => intro rs h; cases rs with
          | nil => simp at h
          | cons r rs => simp only [accs, List.length_cons, ih rs (by simpa using h)]
      have := (List.getElem?_eq_some_iff.1 hx).1
      rwa [hlen l rs hl] at this
    obtain ⟨ok, hok⟩ : ∃ ok, l[k]? = some ok := ⟨_, List.getElem?_eq_getElem hk⟩
    obtain ⟨rk, hrk⟩ : ∃ rk, rs[k]? = some rk := ⟨_, List.getElem?_eq_getElem (show k < rs.length by omega)⟩
    cases (accs_at hok hrk).symm.trans hx
    rcases Nat.lt_or_gt_of_ne hne with hlt | hgt
    · have h3 := fit_order hfit hlt hrk hr
      have h4 : κ < rk.m' := h2
      exact .inl (by omega)
    · have h3 := fit_order hfit hgt hr hrk
      have h4 : rk.m ≤ κ := h1
      exact .inr (by omega)
  have hnm := (fit_at hfit hr).1
  have hkeys : ∀ j oj rj, Lf L j = true → l[j]? = some oj → rs[j]? = some rj → ∀ κ ∈ (rj.acc oj.dst).ok, κ < r.m ∨ r.m' ≤ κ := fun j oj rj hjL hoj hrj κ hκ => by
    have hjl := (List.getElem?_eq_some_iff.1 hoj).1
    have hji : j ≠ i := fun e => by rw [e, hiL] at hjL; cases hjL
    rcases (sched_at hs (by simpa using hjl) (accs_at hoj hrj)).2.2.1 κ hκ with h | ⟨h1, h2⟩ | ⟨k, x, hk, hb, hx, h1, h2⟩
    · exact .inl (by omega)
    · exact hint j _ hji (accs_at hoj hrj) κ h1 h2
    · have hkL := hmask j hjl (hI.closed j hjL) k hb
      exact hint k x (fun e => by rw [e, hiL] at hkL; cases hkL) hx κ h1 h2
  obtain ⟨β, hH⟩ := hI.hold
  have hstep := @hold_step cx β (stN rs n) (stN rs n) r.m r.m' (stF (pcs (Lf L) 0 l rs) F) (stH (pcs (Lf L) 0 l rs) H) a w l.toArray o r.tin r.hr r.hw r.hw' r.out hH
  -- the parts
  obtain ⟨l1, l2, el, hl1⟩ := split_at ho'
  obtain ⟨r1, r2, er, hr1⟩ := split_at hr
  have hlen1 : r1.length = l1.length := by omega
  have hsp : ∀ f : Nat → Bool, pcs f 0 l rs = pcs f 0 l1 r1 ++ (f i, o, r) :: pcs f (i + 1) l2 r2 := fun f => by
    rw [el, er, pcs_append f l1 (o :: l2) r1 (r :: r2) 0 hlen1, Nat.zero_add, hl1]
    rfl
  have hA : ∀ p ∈ pcs (Lf L) 0 l1 r1, p.1 = false → NoClash (p.2.2.acc p.2.1.dst) (r.acc o.dst) := fun p hp hf => by
    obtain ⟨j, h1, h2, h3⟩ := pcs_mem hp
    have hj : j < l1.length := (List.getElem?_eq_some_iff.1 h2).1
    rw [Nat.zero_add] at h1
    exact cA j _ _ (by omega) (h1 ▸ hf) (by rw [el, List.getElem?_append_left hj]; exact h2) (by rw [er, List.getElem?_append_left (by omega)]; exact h3)
  have hB : ∀ p ∈ pcs (Lf L) (i + 1) l2 r2, p.1 = true → NoClash (r.acc o.dst) (p.2.2.acc p.2.1.dst) := fun p hp hf => by
    obtain ⟨j, h1, h2, h3⟩ := pcs_mem hp
    refine cB (i + 1 + j) _ _ (by omega) (h1 ▸ hf) ?_ ?_
    · rw [el, List.getElem?_append_right (by omega), show i + 1 + j - l1.length = j + 1 by omega, List.getElem?_cons_succ]; exact h2
    · rw [er, List.getElem?_append_right (by omega), show i + 1 + j - r1.length = j + 1 by omega, List.getElem?_cons_succ]; exact h3
  obtain ⟨_, hf2⟩ := Fit.split (l2 := o :: l2) (r2 := r :: r2) hlen1 (by rw [← el, ← er]; exact hfit)
  obtain ⟨hm, hT, htin, hown, _⟩ := hf2
  have eF : stF (pcs (Lf L) 0 l rs) F = stF (pcs (Lf L) (i + 1) l2 r2) (stF (pcs (Lf L) 0 l1 r1) F) := by
    rw [hsp, stF_append, hiL]; rfl
  have eH : stH (pcs (Lf L) 0 l rs) H = stH (pcs (Lf L) (i + 1) l2 r2) (stH (pcs (Lf L) 0 l1 r1) H) := by
    rw [hsp, stH_append, hiL]; rfl
  unfold wpOp
  rw [ho]
  simp only
  have := hstep (K := K) (hm ▸ hT) (fun e he => ?_) (fun e he => ?_) (fun d hdd => hd o (List.mem_of_getElem? ho') d hdd) (Nat.le_refl _) (fit_at hfit hr).2.2 (by omega) (fun e he => ?_) (fun e he κ hκ => hik κ (List.mem_append_left _ (List.mem_flatMap.2 ⟨e, he, hκ⟩))) (fun t s hts κ hκ => ?_) (fun e he => ?_) (fun v β' w' hn => ?_)
  · split
    · rename_i hw
      rw [if_pos hw] at this
      exact .inl (wp_any this)
    · rename_i hw
      rw [if_neg hw] at this
      exact this
  · intro β V v hv
    refine hv _ (Eq.trans ?_ (htin e he))
    obtain ⟨x, s⟩ := e
    cases x with
    | tmp t =>
      have ht : t ∈ (r.acc o.dst).rt := List.mem_flatMap.2 ⟨_, he, List.mem_singleton.2 rfl⟩
      show look _ t = look _ t
      rw [eF, stF_skip _ fun p hp hpt hc => (hB p hp hpt).wr _ hc ht, stF_all F F rfl fun p hp hpf hc => (hA p hp hpf).rw_ _ hc ht]
    | _ => rfl
  · have hk : e.1 ∈ (r.acc o.dst).rk := by
      show e.1 ∈ keys r.hr ++ keys r.hw
      rw [List.mem_append]
      exact (List.mem_append.1 he).imp (fun h => mem_keys.2 ⟨e, h, rfl⟩) fun h => mem_keys.2 ⟨e, h, rfl⟩
    rw [eH, stH_skip _ fun p hp hpt hc => (hB p hp hpt).k3 _ hk hc, stH_all H H Iff.rfl fun p hp hpf hc => (hA p hp hpf).k1 _ hc hk]
    exact hown e he
  · have h1 : ∀ κ ∈ e.1 :: e.2.keys, κ < r.m := fun κ hκ => hik κ (List.mem_append_right _ (List.mem_flatMap.2 ⟨e, he, hκ⟩))
    exact ⟨h1 _ (List.mem_cons_self ..), fun κ hκ => h1 κ (List.mem_cons_of_mem _ hκ)⟩
  · rcases stF_from hts with h | ⟨p, hp, hpt, hps⟩
    · exact .inl (Nat.lt_of_lt_of_le (hF0 t s h κ hκ) hnm)
    · obtain ⟨j, h1, h2, h3⟩ := pcs_mem hp
      rw [Nat.zero_add] at h1
      exact hkeys j _ _ (h1 ▸ hpt) h2 h3 κ (List.mem_append_left _ (by rw [hps]; exact hκ))
  · rcases stH_from he with h | ⟨p, hp, hpt, hps⟩
    · exact ⟨.inl (Nat.lt_of_lt_of_le (hH0 e h).1 hnm), fun κ hκ => .inl (Nat.lt_of_lt_of_le ((hH0 e h).2 κ hκ) hnm)⟩
    · obtain ⟨j, h1, h2, h3⟩ := pcs_mem hp
      rw [Nat.zero_add] at h1
      have h4 : ∀ κ ∈ e.1 :: e.2.keys, κ < r.m ∨ r.m' ≤ κ := fun κ hκ => hkeys j _ _ (h1 ▸ hpt) h2 h3 κ (List.mem_append_right _ (List.mem_flatMap.2 ⟨e, hps, hκ⟩))
      exact ⟨h4 _ (List.mem_cons_self ..), fun κ hκ => h4 κ (List.mem_cons_of_mem _ hκ)⟩
  · refine hK _ _ ⟨by simpa using hI.size, fun j hj e he => ?_, β', hn.congr (fun t => ?_) fun e => ?_⟩
    · have hj' : j = i ∨ Lf L j = true := by simpa [Lf, getD_setB hiL'] using hj
      have : Lf L e = true := hj'.elim (fun h => hdir e (h ▸ he)) fun h => hI.closed j h e he
      simpa [Lf, getD_setB hiL'] using Or.inr this
    · have e1 : pcs (Lf (L.setIfInBounds i true)) 0 l1 r1 = pcs (Lf L) 0 l1 r1 := pcs_congr fun j _ hj => by
        have : ¬ j = i := by omega
        show (L.setIfInBounds i true).getD j false = L.getD j false
        rw [getD_setB hiL', decide_eq_false this, Bool.false_or]
      have e2 : pcs (Lf (L.setIfInBounds i true)) (i + 1) l2 r2 = pcs (Lf L) (i + 1) l2 r2 := pcs_congr fun j hj _ => by
        have : ¬ j = i := by omega
        show (L.setIfInBounds i true).getD j false = L.getD j false
        rw [getD_setB hiL', decide_eq_false this, Bool.false_or]
      rw [eF, hsp, stF_append, e1, e2, show Lf (L.setIfInBounds i true) i = true by simp [Lf, hiL']]
      exact stF_put _ _ (fun _ => rfl) (fun p hp hpt d hdd hod => (hB p hp hpt).ww d hod hdd) t
    · have e1 : pcs (Lf (L.setIfInBounds i true)) 0 l1 r1 = pcs (Lf L) 0 l1 r1 := pcs_congr fun j _ hj => by
        have : ¬ j = i := by omega
        show (L.setIfInBounds i true).getD j false = L.getD j false
        rw [getD_setB hiL', decide_eq_false this, Bool.false_or]
      have e2 : pcs (Lf (L.setIfInBounds i true)) (i + 1) l2 r2 = pcs (Lf L) (i + 1) l2 r2 := pcs_congr fun j hj _ => by
        have : ¬ j = i := by omega
        show (L.setIfInBounds i true).getD j false = L.getD j false
        rw [getD_setB hiL', decide_eq_false this, Bool.false_or]
      rw [eH, hsp, stH_append, e1, e2, show Lf (L.setIfInBounds i true) i = true by simp [Lf, hiL']]
      exact stH_upd _ _ (fun _ => Iff.rfl) (fun p hp hpt κ hκ hc => (hB p hp hpt).k2 κ hc hκ) e
theorem pcs_none {F : FL} {H : HL} : ∀ {l : List Oper} {rs : List Rec} {k : Nat}, stF (pcs (fun _ => false) k l rs) F = F ∧ stH (pcs (fun _ => false) k l rs) H = H
  | [], [], _ => ⟨rfl, rfl⟩
  | [], _ :: _, _ => ⟨rfl, rfl⟩
  | _ :: _, [], _ => ⟨rfl, rfl⟩
  | _ :: _, _ :: _, k => pcs_none (k := k + 1)
/-- A region that draws its order. -/
theorem draw {Fin : Nat → FL → HL → List Acc → Prop} (h : Ch cx.P l.toArray Fin l n F H []) (hd : ∀ o ∈ l, ∀ d, o.dst = some d → d < cx.N) (hs : ∀ n' F' H' acc, Fin n' F' H' acc → sched l.toArray n acc = true)
    (hfin : ∀ n F H acc, Fin n F H acc → ∀ β a w, Hold cx β n F H a w → Q .normal a w) {β : Env} {a : Act} {w : World} (hh : Hold cx β n F H a w) : wpAny cx.P .any l.toArray Q l.toArray.size (Array.replicate l.toArray.size false) a w := by
  obtain ⟨rs, HF, hl, hfit, hHF, hF⟩ := h.all
  rw [List.nil_append] at hF
  have hsc := hs _ _ _ _ hF
  have hF0 : ∀ t s, look F t = some s → Bel n s.keys := fun t s h => (hh.tm t s h).1
  have hH0 : ∀ e ∈ H, e.1 < n ∧ Bel n e.2.keys := fun e he => ⟨(hh.ow.is e he).1, (hh.ow.is e he).2.1⟩
  have hacc : ∀ j, j < l.length → ∃ y, (accs l rs)[j]? = some y := fun j hj => ⟨_, accs_at (List.getElem?_eq_getElem hj) (List.getElem?_eq_getElem (show j < rs.length by omega))⟩
  have hend : ∀ (L : Array Bool) a w, Inv cx l rs n F H L a w → Region.ready .any l.toArray L = [] → Q .normal a w := fun L a w hI hr => by
    have hall : ∀ j, j < l.length → Lf L j = true := by
      intro j
      induction j using Nat.strongRecOn with
      | _ j ih =>
        intro hj
        cases hLj : Lf L j with
        | true => rfl
        | false =>
          exfalso
          obtain ⟨y, hy⟩ := hacc j hj
          have hlt := (sched_at hsc (by simpa using hj) hy).1
          have : j ∈ Region.ready .any l.toArray L := mem_ready.2 ⟨getD_in (by rw [hI.size]; exact hj) hLj, l[j], by simp [hj], fun e he hb => by
            have hm : e.on ∈ direct l.toArray j := direct_mem.2 ⟨l[j], by simp [hj], e, he, hb, rfl⟩
            have := hlt _ hm
            exact ih _ this (by omega)⟩
          rw [hr] at this
          cases this
    obtain ⟨β, hH⟩ := hI.hold
    have e : pcs (Lf L) 0 l rs = pcs (fun _ => true) 0 l rs := pcs_congr fun j _ hj => hall j (by omega)
    rw [e] at hH
    exact hfin _ _ _ _ hF β a w (hH.congr (fun _ => rfl) hHF)
  have key : ∀ (fuel : Nat) (L : Array Bool) a w, Inv cx l rs n F H L a w → (l.length ≤ fuel + ((List.range l.length).filter (Lf L)).length) → wpAny cx.P .any l.toArray Q fuel L a w := by
    intro fuel
    induction fuel with
    | zero =>
      intro L a w hI hc
      have hall : Region.ready .any l.toArray L = [] := by
        have h1 : ((List.range l.length).filter (Lf L)).length = (List.range l.length).length := Nat.le_antisymm (List.length_filter_le _ _) (by simpa using hc)
        have h2 := List.length_filter_eq_length_iff.1 h1
        refine List.eq_nil_iff_forall_not_mem.2 fun i hi => ?_
        obtain ⟨hu, o, ho, _⟩ := mem_ready.1 hi
        have hil : i < l.length := by simpa using (Array.getElem?_eq_some_iff.1 ho).1
        have := h2 i (List.mem_range.2 hil)
        rw [show Lf L i = false from getD_both hu] at this
        cases this
      exact ⟨hall, hend L a w hI hall⟩
    | succ fuel ih =>
      intro L a w hI hc
      refine ⟨hend L a w hI, fun i hi => hI.step hl hfit hsc hd hF0 hH0 hh.le hi fun a' w' hI' => ih _ a' w' hI' ?_⟩
      obtain ⟨hu, o, ho, _⟩ := mem_ready.1 hi
      have hil : i < l.length := by simpa using (Array.getElem?_eq_some_iff.1 ho).1
      have hiL : i < L.size := by rw [hI.size]; exact hil
      have hmore : ∀ (k : Nat), i < k → ((List.range k).filter (Lf (L.setIfInBounds i true))).length = ((List.range k).filter (Lf L)).length + 1 := by
        intro k
        induction k with
        | zero => intro h; omega
        | succ k ihk =>
          intro hk
          rw [List.range_succ, List.filter_append, List.filter_append, List.length_append, List.length_append]
          by_cases hik : i = k
          · subst hik
            have e1 : (List.range i).filter (Lf (L.setIfInBounds i true)) = (List.range i).filter (Lf L) := List.filter_congr fun j hj => by
              have : ¬ j = i := by have := List.mem_range.1 hj; omega
              show (L.setIfInBounds i true).getD j false = L.getD j false
              rw [getD_setB hiL, decide_eq_false this, Bool.false_or]
            have e2 : Lf (L.setIfInBounds i true) i = true := by
              show (L.setIfInBounds i true).getD i false = true
              rw [getD_setB hiL]; simp
            have e3 : Lf L i = false := getD_both hu
            rw [e1]
            simp [e2, e3]
          · rw [ihk (by omega)]
            have : Lf (L.setIfInBounds i true) k = Lf L k := by
              show (L.setIfInBounds i true).getD k false = L.getD k false
              have : ¬ k = i := fun e => hik e.symm
              rw [getD_setB hiL, decide_eq_false this, Bool.false_or]
            have e4 : [k].filter (Lf (L.setIfInBounds i true)) = [k].filter (Lf L) := by simp only [List.filter_cons, this, List.filter_nil]
            rw [e4]
            omega
      rw [hmore l.length hil]
      omega
  refine key _ _ a w ⟨by simp, fun j hj => ?_, β, ?_⟩ (by simp)
  · rw [show Lf (Array.replicate l.toArray.size false) j = false from getD_replicate_false _ _] at hj
    cases hj
  · have e : Lf (Array.replicate l.toArray.size false) = fun _ => false := funext fun j => getD_replicate_false _ _
    rw [e, (pcs_none (F := F) (H := H)).1, (pcs_none (F := F) (H := H)).2]
    exact hh.up (stN_le hfit)
end
end Go.Sv
namespace Go.Sv
open Go Go.RowKit

/-- At each state that meets F and H, K. -/
def Wk (cx : Cx) (n : Nat) (F : FL) (H : HL) (K : Act → World → Prop) : Prop := ∀ β a w, Hold cx β n F H a w → K a w
theorem view_heap {S : List Nat} {w w' : World} (h : w'.heap = w.heap) : Sub (hide S w) (hide S w') := fun k o hk _ => by rw [hide_at] at hk ⊢; rw [h]; exact hk
theorem Hold.drew {cx : Cx} {β : Env} {n : Nat} {F : FL} {H : HL} {a : Act} {w : World} (h : Hold cx β n F H a w) : Hold cx β n F H a { w with drawn := w.drawn + 1 } :=
  have hV : Sub (View β H cx.S w) (View β H cx.S { w with drawn := w.drawn + 1 }) := view_heap rfl
  ⟨h.size, h.defers, h.le, h.env, h.kept.drew, fun t s hs => ⟨(h.tm t s hs).1, T.keep (fun _ _ => rfl) hV (h.tm t s hs).2⟩,
    ⟨fun e he => ⟨(h.ow.is e he).1, (h.ow.is e he).2.1, Own.keep (fun _ _ => rfl) hV (fun _ _ _ h => h) (h.ow.is e he).2.2⟩, h.ow.apart, h.ow.out, h.ow.lt⟩, h.own, h.gl⟩
def dstB (l : List Oper) (N : Nat) : Bool := l.all fun o => match o.dst with
  | some d => Nat.blt d N
  | none => true
theorem dstB_of {l : List Oper} {N : Nat} (h : dstB l N = true) : ∀ o ∈ l, ∀ d, o.dst = some d → d < N := fun o ho d hd => by
  have := List.all_eq_true.1 h o ho
  rw [hd] at this
  simpa using this
section
variable {cx : Cx} {n : Nat} {F : FL} {H : HL} {Q : Exit → Act → World → Prop}
theorem W.reg {id : Nat} {l : List Oper} (hd : dstB l cx.N = true) (h : Ch cx.P l.toArray (fun n F H _ => Wk cx n F H (Q .normal)) l n F H []) : Wk cx n F H ((Code.region id l.toArray false).wp cx.P Q) := fun β a w hh =>
  wp_region_list (h.list (dstB_of hd) (fun _ _ _ _ hk => hk) β a w hh)
theorem W.draw {id : Nat} {l : List Oper} (hd : dstB l cx.N = true) (hm : cx.P.follows .mixedOrders = true) (h : Ch cx.P l.toArray (fun n' F' H' acc => sched l.toArray n acc = true ∧ Wk cx n' F' H' (Q .normal)) l n F H []) :
    Wk cx n F H ((Code.region id l.toArray true).wp cx.P Q) := fun _ _ _ hh =>
  wp_region_any hm (Sv.draw h (dstB_of hd) (fun _ _ _ _ hk => hk.1) (fun _ _ _ _ hk => hk.2) hh.drew)
theorem W.seq {x y : Code} (h : Wk cx n F H (x.wp cx.P (Exit.then (y.wp cx.P Q) Q))) : Wk cx n F H ((Code.seq x y).wp cx.P Q) := fun β a w hh => wp_seq (h β a w hh)
theorem W.skip (h : Wk cx n F H (Q .normal)) : Wk cx n F H (Code.skip.wp cx.P Q) := fun β a w hh => wp_skip (h β a w hh)
theorem W.exit {id : Nat} (h : Wk cx n F H (Q (.exit id))) : Wk cx n F H ((Code.exit id).wp cx.P Q) := fun β a w hh => wp_exit (h β a w hh)
theorem W.ret (h : Wk cx n F H (Q .ret)) : Wk cx n F H (Code.ret.wp cx.P Q) := fun β a w hh => wp_ret (h β a w hh)
theorem W.block {id : Nat} {c : Code} (h : Wk cx n F H (c.wp cx.P (Exit.inBlock id Q))) : Wk cx n F H ((Code.block id c).wp cx.P Q) := fun β a w hh => wp_block (h β a w hh)
theorem W.inB {id : Nat} (h : Wk cx n F H (Q .normal)) : Wk cx n F H (Exit.inBlock id Q (.exit id)) := fun β a w hh => by
  show if id = id then _ else _
  rw [if_pos rfl]; exact h β a w hh
theorem W.outB {id id' : Nat} (hne : Nat.beq id' id = false) (h : Wk cx n F H (Q (.exit id'))) : Wk cx n F H (Exit.inBlock id Q (.exit id')) := fun β a w hh => by
  show if id' = id then _ else _
  rw [if_neg fun e => by rw [e, show Nat.beq id id = true from Nat.beq_refl id] at hne; cases hne]; exact h β a w hh
theorem W.cond {c : Operand} {x y : Code} {b : Bool} (hc : opT F c = some (.one (.d (bl b)))) (h1 : b = true → Wk cx n F H (x.wp cx.P Q)) (h2 : b = false → Wk cx n F H (y.wp cx.P Q)) : Wk cx n F H ((Code.cond c x y).wp cx.P Q) := fun β a w hh =>
  wp_cond_split (opT_is hh hc) (fun hb => h1 hb β a w hh) fun hb => h2 hb β a w hh
theorem W.loop {σ : Type} {c : Code} (I : σ → Nat × FL × HL) (μ : σ → Nat) (s0 : σ) (h0 : Wk cx n F H fun a w => ∃ β, Hold cx β (I s0).1 (I s0).2.1 (I s0).2.2 a w)
    (round : ∀ s, Wk cx (I s).1 (I s).2.1 (I s).2.2 (c.wp cx.P (Exit.then (fun a w => ∃ s', μ s' < μ s ∧ ∃ β, Hold cx β (I s').1 (I s').2.1 (I s').2.2 a w) Q))) : Wk cx n F H ((Code.loop c).wp cx.P Q) := fun β a w hh => by
  obtain ⟨β0, h0⟩ := h0 β a w hh
  intro b k cs
  have key : ∀ m s, μ s = m → ∀ β a w, Hold cx β (I s).1 (I s).2.1 (I s).2.2 a w → ∃ e a' w', Q e a' w' ∧ Arrives cx.P (lone (b.at a (.code c :: .inLoop c :: k)) cs w) b k cs e a' w' := by
    intro m
    induction m using Nat.strongRecOn with
    | _ m ih =>
      intro s hm β a w hs
      obtain ⟨e, a1, w1, hq, harr⟩ := round s β a w hs b (.inLoop c :: k) cs
      cases e with
      | normal =>
        obtain ⟨s', hlt, β', hs'⟩ := hq
        obtain ⟨e2, a2, w2, hq2, harr2⟩ := ih (μ s') (hm ▸ hlt) s' rfl β' a1 w1 hs'
        exact ⟨e2, a2, w2, hq2, .of_steps (Steps.trans harr (.one step_inLoop)) harr2⟩
      | exit id => exact ⟨_, a1, w1, hq, .pass (x := .inLoop c) rfl (fun _ _ => .inl (by simp)) harr⟩
      | goto l => exact ⟨_, a1, w1, hq, .pass (x := .inLoop c) rfl (fun _ _ => .inl (by simp)) harr⟩
      | ret => exact ⟨_, a1, w1, hq, .pass (x := .inLoop c) rfl (fun _ _ => .inl (by simp)) harr⟩
      | panic ch => exact ⟨_, a1, w1, hq, .pass (x := .inLoop c) rfl (fun _ _ => .inl (by simp)) harr⟩
      | outgrown => exact ⟨_, a1, w1, hq, .pass (x := .inLoop c) rfl (fun _ _ => .inl (by simp)) harr⟩
  obtain ⟨e, a', w', hq, harr⟩ := key _ s0 rfl β0 a w h0
  exact ⟨e, a', w', hq, .of_steps (.one step_loop) harr⟩
end
end Go.Sv
