/- Part 13 of what StageOrder and StagePlans ask: for every input each returns true, and its input reads as it did. No condition. -/
import Derived.Test.YtelkpflpgpdkdaaGreatDoorPt12
namespace Go.Proofs.YtelkpflpgpdkdaaGreatDoor
open Go.RowKit Go.Lib
/-- Where one is put. -/
theorem resIns_at (x : Res) : ∀ l : List Res, ∃ k, k ≤ l.length ∧ resIns x l = l.take k ++ [x] ++ l.drop k ∧ (if 0 ≤ idxOf (fun y => decide (0 ≤ resLess y x)) l then idxOf (fun y => decide (0 ≤ resLess y x)) l else l.length) = k
  | [] => ⟨0, Nat.le_refl _, rfl, rfl⟩
  | y :: l => by
    obtain ⟨k, h1, h2, h3⟩ := resIns_at x l
    unfold resIns
    by_cases hlt : resLess y x < 0
    · rw [if_pos hlt, h2]
      refine ⟨k + 1, by simp only [List.length_cons]; omega, rfl, ?_⟩
      have hy : (decide (0 ≤ resLess y x)) = false := decide_eq_false (by omega)
      have e : idxOf (fun y => decide (0 ≤ resLess y x)) (y :: l) = if 0 ≤ idxOf (fun y => decide (0 ≤ resLess y x)) l then idxOf (fun y => decide (0 ≤ resLess y x)) l + 1 else -1 := by
        unfold idxOf
        rw [List.any_cons, hy, Bool.false_or, List.findIdx_cons, hy]
        cases l.any fun y => decide (0 ≤ resLess y x) with
        | false => rfl
        | true => simp
      rw [e]
      split at h3
      · rename_i h4; rw [if_pos h4, if_pos (by omega), h3]; simp
      · rename_i h4; rw [if_neg h4, if_neg (by omega)]; simp only [List.length_cons]; omega
    · rw [if_neg hlt]
      have hy : (decide (0 ≤ resLess y x)) = true := decide_eq_true (by omega)
      have e : idxOf (fun y => decide (0 ≤ resLess y x)) (y :: l) = 0 := by
        unfold idxOf
        rw [List.any_cons, hy, Bool.true_or, if_pos rfl, List.findIdx_cons, hy]; rfl
      exact ⟨0, Nat.zero_le _, rfl, by rw [e]; rfl⟩
end Go.Proofs.YtelkpflpgpdkdaaGreatDoor
namespace Go.Proofs.YtelkpflpgpdkdaaGreatDoor
open Go.RowKit Go.Lib
theorem resIdx_get (l : List Res) (ed : Int) (st : List Int) (ks : List Str) : (resGet l ed st ks = none ∧ resIdx l ed st ks = -1) ∨ ∃ (j : Nat) (y : Res), resGet l ed st ks = some y ∧ resIdx l ed st ks = j ∧ l[j]? = some y := by
  unfold resGet resIdx
  generalize (fun x => resLess x (placeRes ed st ks) == 0) = p
  cases h : l.find? p with
  | none =>
    refine .inl ⟨rfl, idxOf_none fun y hy => ?_⟩
    simpa using List.find?_eq_none.1 h y hy
  | some y =>
    obtain ⟨hp, l1, l2, hl, hn⟩ := List.find?_eq_some_iff_append.1 h
    refine .inr ⟨l1.length, y, rfl, idxOf_at (x := y) (by rw [hl]; simp) hp fun z hz => ?_, by rw [hl]; simp⟩
    rw [hl, List.take_left' rfl] at hz
    simpa using hn z hz
end Go.Proofs.YtelkpflpgpdkdaaGreatDoor
namespace Go.Proofs.YtelkpflpgpdkdaaGreatDoor
open Go.RowKit Go.Lib
theorem fput_swap {a b : Str} {x y : Doc} {f : Flds} (h : FSrt f) (hab : a ≠ b) : fput a x (fput b y f) = fput b y (fput a x f) :=
  flds_ext h.put.put h.put.put fun u => by
    simp only [fget_put]
    by_cases h1 : u = a
    · subst h1; simp [hab]
    · simp [h1]
end Go.Proofs.YtelkpflpgpdkdaaGreatDoor
namespace Go.Proofs.YtelkpflpgpdkdaaGreatDoor
open Go.RowKit Go.Lib
/-- How the program converts a number. -/
def cvP (d : Doc) (sw : List (Int × Int)) : Doc := .mk 4 (Lens.swap d.num sw) ⟨#[]⟩ [] []
end Go.Proofs.YtelkpflpgpdkdaaGreatDoor
namespace Go.Proofs.YtelkpflpgpdkdaaGreatDoor
open Go.RowKit Go.Lib
theorem foldKids_cons {F : Str → Flds → WS → Option (Flds × WS)} {s : Str} {d : Doc} {l : List (Str × Doc)} {w w2 : WS} {ds : List Doc} (h : foldKids F ((s, d) :: l) w = some (ds, w2)) :
    OkKeys 1 d ∧ ∃ g w1 ds', F s (fOf d) w = some (g, w1) ∧ FOk g ∧ foldKids F l w1 = some (ds', w2) ∧ ds = recOf g :: ds' := by
  unfold foldKids at h
  by_cases ho : OkKeys 1 d
  · rw [if_pos ho] at h
    refine ⟨ho, ?_⟩
    cases hF : F s (fOf d) w with
    | none => rw [hF] at h; cases h
    | some p =>
      obtain ⟨g, w1⟩ := p
      rw [hF] at h
      simp only [Option.bind_some] at h
      by_cases hg : FOk g
      · rw [if_pos hg] at h
        cases hl : foldKids F l w1 with
        | none => rw [hl] at h; cases h
        | some q =>
          obtain ⟨ds', w3⟩ := q
          rw [hl] at h
          simp only [Option.bind_some, Option.some.injEq, Prod.mk.injEq] at h
          obtain ⟨rfl, rfl⟩ := h
          exact ⟨g, w1, ds', rfl, hg, hl ▸ rfl, rfl⟩
      · rw [if_neg hg] at h; cases h
  · rw [if_neg ho] at h; cases h
end Go.Proofs.YtelkpflpgpdkdaaGreatDoor
namespace Go.Proofs.YtelkpflpgpdkdaaGreatDoor
open Go.RowKit Go.Lib
theorem fget_ok {f : Flds} {s : Str} {x : Doc} (h : ∀ p ∈ f, p.1.size ≤ 256 ∧ p.2.fit) (hx : fget s f = some x) : s.size ≤ 256 ∧ x.fit := h _ (fget_mem hx)
theorem fOf_ok {k : Int} {x : Doc} (hk : OkKeys k x) (hx : x.fit) : ∀ q ∈ fOf x, q.1.size ≤ 256 ∧ q.2.fit := fun q hq => by
  rw [fOf_srted hk.2.2.2.2.1] at hq
  have := List.of_mem_zip (a := q.1) (b := q.2) hq
  exact ⟨hk.2.2.2.2.2.1 _ this.1, hx.kid this.2⟩
theorem fOf_len {k : Int} {x : Doc} (hk : OkKeys k x) : (fOf x).length ≤ 1000 := by
  rw [fOf_srted hk.2.2.2.2.1, List.length_zip]
  exact Nat.le_trans (Nat.min_le_left _ _) hk.2.2.2.2.2.2
theorem fput_more (s : Str) (d : Doc) (l : Flds) : (fput s d l).length ≤ l.length + 1 := by
  induction l with
  | nil => simp [fput]
  | cons y r ih =>
    unfold fput
    split
    · simp only [List.length_cons]; omega
    · split <;> simp
end Go.Proofs.YtelkpflpgpdkdaaGreatDoor
namespace Go.Proofs.YtelkpflpgpdkdaaGreatDoor
open Go.RowKit Go.Lib
theorem WOk.fOk {f : Flds} {w : WS} {st : List Int} {ks : List Str} (h : WOk f w st ks) : FOk f := ⟨h.len, h.docs⟩
section
variable {cv : Doc → List (Int × Int) → Doc} {ed : Int} {bk : Bool}
theorem wstep_wok {s : Lens} {st : List Int} {ks : List Str} {f : Flds} {w : WS} {r : Flds × WS} (h : wstep cv ed bk s st ks f w = some r) : WOk f w st ks := by
  cases s with
  | mk k a b ty d sw subs =>
    rw [wstep_body] at h
    unfold wbody at h
    by_cases h0 : ¬ WOk f w st ks ∨ 256 < (turnA bk k a b).size
    · rw [if_pos h0] at h; cases h
    · exact Classical.byContradiction fun hn => h0 (.inl hn)
/-- Backwards the last step is the first. -/
theorem wsteps_last (hb : bk = true) (l : List Lens) (s : Lens) (st : List Int) (ks : List Str) : ∀ (i : Int) (f : Flds) (w : WS), wsteps cv ed bk i (l ++ [s]) st ks f w = (wstep cv ed bk s (st ++ [i + l.length]) ks f w).bind fun p => wsteps cv ed bk i l st ks p.1 p.2 := by
  induction l with
  | nil =>
    intro i f w
    rw [List.nil_append, wsteps, if_pos hb, wsteps, Option.bind_some, List.length_nil, Int.natCast_zero, Int.add_zero]
    cases wstep cv ed bk s (st ++ [i]) ks f w with
    | none => rfl
    | some p => rw [Option.bind_some, wsteps]
  | cons x l ih =>
    intro i f w
    rw [List.cons_append, wsteps, if_pos hb, ih, show i + 1 + (l.length : Int) = i + ((x :: l).length : Int) by simp only [List.length_cons, Int.natCast_add]; omega]
    cases wstep cv ed bk s (st ++ [i + ((x :: l).length : Int)]) ks f w with
    | none => rfl
    | some p =>
      rw [Option.bind_some, Option.bind_some, wsteps, if_pos hb]
/-- What is left behind k steps, and where it begins. -/
def left (bk : Bool) (k : Nat) (l : List Lens) : List Lens := if bk then l.take (l.length - k) else l.drop k
def leftI (bk : Bool) (k : Nat) : Int := if bk then 0 else k
def leftJ (bk : Bool) (k q : Nat) : Nat := if bk then q - 1 - k else k
theorem wsteps_next {l : List Lens} {k : Nat} {s : Lens} {st : List Int} {ks : List Str} {f : Flds} {w : WS} {r : Flds × WS} (h : wsteps cv ed bk (leftI bk k) (left bk k l) st ks f w = some r) (hk : k < l.length) (hs : l[leftJ bk k l.length]? = some s) :
    ∃ f1 w1, wstep cv ed bk s (st ++ [(leftJ bk k l.length : Int)]) ks f w = some (f1, w1) ∧ wsteps cv ed bk (leftI bk (k + 1)) (left bk (k + 1) l) st ks f1 w1 = some r := by
  unfold left leftI leftJ at *
  cases bk with
  | true =>
    simp only [if_true] at *
    have e : l.take (l.length - k) = l.take (l.length - (k + 1)) ++ [s] := by
      rw [show l.length - k = (l.length - 1 - k) + 1 by omega, List.take_add_one, hs, show l.length - (k + 1) = l.length - 1 - k by omega]
      rfl
    rw [e, wsteps_last rfl, List.length_take, show (0 : Int) + ((min (l.length - (k + 1)) l.length : Nat) : Int) = ((l.length - 1 - k : Nat) : Int) by omega] at h
    cases hw : wstep cv ed true s (st ++ [((l.length - 1 - k : Nat) : Int)]) ks f w with
    | none => rw [hw] at h; cases h
    | some p =>
      rw [hw] at h
      exact ⟨p.1, p.2, rfl, h⟩
  | false =>
    simp only [Bool.false_eq_true, if_false] at *
    have e : l.drop k = s :: l.drop (k + 1) := by
      rw [List.drop_eq_getElem_cons hk]
      rw [List.getElem?_eq_getElem hk] at hs
      rw [Option.some.inj hs]
    rw [e, wsteps, if_neg Bool.false_ne_true] at h
    cases hw : wstep cv ed false s (st ++ [(k : Int)]) ks f w with
    | none => rw [hw] at h; cases h
    | some p =>
      rw [hw] at h
      exact ⟨p.1, p.2, rfl, h⟩
theorem wsteps_fOk {l : List Lens} {st : List Int} {ks : List Str} {r : Flds × WS} (hr : FOk r.1) : ∀ {i : Int} {f : Flds} {w : WS}, wsteps cv ed bk i l st ks f w = some r → FOk f := by
  induction l generalizing r with
  | nil =>
    intro i f w h
    rw [wsteps] at h
    cases Option.some.inj h
    exact hr
  | cons x l ih =>
    intro i f w h
    rw [wsteps] at h
    by_cases hb : bk = true
    · rw [if_pos hb] at h
      cases hw : wsteps cv ed bk (i + 1) l st ks f w with
      | none => rw [hw] at h; cases h
      | some p =>
        rw [hw] at h
        exact ih (wstep_wok (f := p.1) h).fOk hw
    · rw [if_neg hb] at h
      cases hw : wstep cv ed bk x (st ++ [i]) ks f w with
      | none => rw [hw] at h; cases h
      | some p => exact (wstep_wok hw).fOk
/-- What a step is in its way: turned, but for its subs, when the walk goes back. -/
def effH (bk : Bool) (s : Lens) : Lens := if bk then turnH s else s
theorem wstep_effH (s : Lens) (st : List Int) (ks : List Str) (f : Flds) (w : WS) : wstep cv ed bk s st ks f w = wbody cv ed bk (effH bk s).kind (effH bk s).a (effH bk s).b (effH bk s).typ (effH bk s).doc (effH bk s).swaps (effH bk s).subs st ks f w := by
  cases s with
  | mk k a b ty d sw subs =>
    rw [wstep_body]
    obtain ⟨h1, h2, h3, _⟩ := eff_parts bk k a b ty d sw []
    cases bk with
    | false => rfl
    | true =>
      rw [← h1, ← h2, ← h3]
      rfl
end
end Go.Proofs.YtelkpflpgpdkdaaGreatDoor
namespace Go.Proofs.YtelkpflpgpdkdaaGreatDoor
open Go.RowKit Go.Lib
theorem revInd {α : Type} {P : List α → Prop} (h0 : P []) (h1 : ∀ l x, P l → P (l ++ [x])) (l : List α) : P l := by
  have : ∀ l : List α, P l.reverse := fun l => by
    induction l with
    | nil => exact h0
    | cons x l ih => rw [List.reverse_cons]; exact h1 _ _ ih
  have := this l.reverse
  rwa [List.reverse_reverse] at this
/-- A join of both schemas. -/
def Join.between (j : Join) (a b : Int) : Prop := (j.from_ = a ∧ j.to = b) ∨ (j.from_ = b ∧ j.to = a)
/-- One can be come to from the other, over joins that are not the x-th. -/
inductive Conn (js : List Join) (x : Int) (a : Int) : Int → Prop where
  | refl : Conn js x a a
  | step {b c : Int} {j : Join} {m : Nat} (h : Conn js x a b) (hj : js[m]? = some j) (hm : (m : Int) ≠ x) (hb : j.between b c) : Conn js x a c
theorem Join.between.symm {j : Join} {a b : Int} (h : j.between a b) : j.between b a := Or.symm h
section
variable {js : List Join} {x a b c : Int}
theorem Conn.trans (h : Conn js x a b) (k : Conn js x b c) : Conn js x a c := by
  induction k with
  | refl => exact h
  | step _ hj hm hb ih => exact .step ih hj hm hb
theorem Conn.symm (h : Conn js x a b) : Conn js x b a := by
  induction h with
  | refl => exact .refl
  | step _ hj hm hb ih => exact (Conn.step .refl hj hm hb.symm).trans ih
theorem Conn.all (h : Conn js x a b) : Conn js (-1) a b := by
  induction h with
  | refl => exact .refl
  | step _ hj _ hb ih => exact .step ih hj (by omega) hb
theorem Conn.more (h : Conn js x a b) (l : List Join) : Conn (js ++ l) x a b := by
  induction h with
  | refl => exact .refl
  | step _ hj hm hb ih => exact .step ih (by rw [List.getElem?_append_left (List.getElem?_eq_some_iff.1 hj).1]; exact hj) hm hb
theorem snoc_get {l j : Join} {m : Nat} (h : (js ++ [l])[m]? = some j) : (m < js.length ∧ js[m]? = some j) ∨ (m = js.length ∧ j = l) := by
  by_cases hm : m < js.length
  · rw [List.getElem?_append_left hm] at h; exact .inl ⟨hm, h⟩
  · rw [List.getElem?_append_right (by omega)] at h
    have h2 := (List.getElem?_eq_some_iff.1 h).1
    simp only [List.length_singleton] at h2
    have e : m = js.length := by omega
    subst e
    rw [Nat.sub_self] at h
    exact .inr ⟨rfl, (Option.some.inj h).symm⟩
/-- Over one join more. -/
theorem conn_snoc {l : Join} (h : Conn (js ++ [l]) x a b) : Conn js x a b ∨ (Conn js x a l.from_ ∧ Conn js x l.to b) ∨ (Conn js x a l.to ∧ Conn js x l.from_ b) := by
  induction h with
  | refl => exact .inl .refl
  | step _ hj hm hb ih =>
    rcases snoc_get hj with ⟨_, hj⟩ | ⟨_, rfl⟩
    · rcases ih with h1 | ⟨h1, h2⟩ | ⟨h1, h2⟩
      · exact .inl (.step h1 hj hm hb)
      · exact .inr (.inl ⟨h1, .step h2 hj hm hb⟩)
      · exact .inr (.inr ⟨h1, .step h2 hj hm hb⟩)
    · rcases hb with ⟨rfl, rfl⟩ | ⟨rfl, rfl⟩
      · rcases ih with h1 | ⟨h1, h2⟩ | ⟨h1, h2⟩
        · exact .inr (.inl ⟨h1, .refl⟩)
        · exact .inr (.inl ⟨h1, .refl⟩)
        · exact .inl h1
      · rcases ih with h1 | ⟨h1, h2⟩ | ⟨h1, h2⟩
        · exact .inr (.inr ⟨h1, .refl⟩)
        · exact .inl h1
        · exact .inr (.inr ⟨h1, .refl⟩)
theorem conn_last {l : Join} (h : Conn (js ++ [l]) js.length a b) : Conn js (-1) a b := by
  induction h with
  | refl => exact .refl
  | step _ hj hm hb ih =>
    rcases snoc_get hj with ⟨_, hj⟩ | ⟨rfl, rfl⟩
    · exact .step ih hj (by omega) hb
    · exact absurd rfl hm
end
/-- Joins that join no two that were joined. -/
inductive Forest : List Join → Prop where
  | nil : Forest []
  | snoc {js : List Join} {j : Join} (h : Forest js) (hj : ¬ Conn js (-1) j.from_ j.to) : Forest (js ++ [j])
theorem Forest.bridge {js : List Join} (h : Forest js) : ∀ {m : Nat} {j : Join}, js[m]? = some j → ¬ Conn js m j.from_ j.to := by
  induction h with
  | nil => intro m j hj; cases hj
  | @snoc js l h hl ih =>
    intro m j hj hc
    rcases snoc_get hj with ⟨hm, hj⟩ | ⟨rfl, rfl⟩
    · have hs : Conn js (-1) j.from_ j.to := .step .refl hj (by omega) (.inl ⟨rfl, rfl⟩)
      rcases conn_snoc hc with h1 | ⟨h1, h2⟩ | ⟨h1, h2⟩
      · exact ih hj h1
      · exact hl (h1.all.symm.trans (hs.trans h2.all.symm))
      · exact hl (h2.all.trans (hs.symm.trans h1.all))
    · exact hl (conn_last hc)
theorem Forest.ends {js : List Join} (h : Forest js) {m : Nat} {j : Join} {a b : Int} (hj : js[m]? = some j) (hb : j.between a b) : ¬ Conn js m a b := by
  rcases hb with ⟨rfl, rfl⟩ | ⟨rfl, rfl⟩
  · exact h.bridge hj
  · exact fun hc => h.bridge hj hc.symm
theorem Forest.apart {js : List Join} (h : Forest js) {m : Nat} {j : Join} (hj : js[m]? = some j) : j.from_ ≠ j.to := fun e => h.bridge hj (e ▸ .refl)
/-- Who goes on over another join than that over which one came has fewer to go to. -/
theorem Forest.fewer {js : List Join} (h : Forest js) {m : Nat} {j : Join} {x a b v : Int} (hj : js[m]? = some j) (hb : j.between a b) (hx : (m : Int) ≠ x) (hc : ∀ (c : Nat) l, (c : Int) = x → js[c]? = some l → ∃ o, l.between o a)
    (hv : Conn js m b v) : Conn js x a v ∧ v ≠ a := by
  have hne : ∀ u, Conn js m b u → u ≠ a := fun u hu e => h.ends hj hb (e ▸ hu.symm)
  refine ⟨?_, hne v hv⟩
  induction hv with
  | refl => exact .step .refl hj hx hb
  | @step u w l c hu hl hm hw ih =>
    by_cases hcx : (c : Int) = x
    · exfalso
      obtain ⟨o, ho⟩ := hc c l hcx hl
      have h1 := hne u hu
      have h2 := hne w (.step hu hl hm hw)
      rcases ho with ⟨_, e⟩ | ⟨e, _⟩ <;> rcases hw with ⟨e1, e2⟩ | ⟨e1, e2⟩
      · exact h2 (e2.symm.trans e)
      · exact h1 (e2.symm.trans e)
      · exact h1 (e1.symm.trans e)
      · exact h2 (e1.symm.trans e)
    · exact .step ih hl hcx hw
/-- A number that all have that can be come to from each other. -/
def lab (js : List Join) : Int → Int := js.foldl (fun c j x => if c x = c j.from_ then c j.to else c x) id
theorem lab_snoc (js : List Join) (j : Join) (x : Int) : lab (js ++ [j]) x = if lab js x = lab js j.from_ then lab js j.to else lab js x := by
  unfold lab; rw [List.foldl_append]; rfl
theorem lab_join (js : List Join) : ∀ {m : Nat} {j : Join}, js[m]? = some j → lab js j.from_ = lab js j.to := by
  induction js using revInd with
  | h0 => intro m j h; cases h
  | h1 js l ih =>
    intro m j h
    rw [lab_snoc, lab_snoc]
    rcases snoc_get h with ⟨_, h⟩ | ⟨_, rfl⟩
    · rw [ih h]
    · rw [if_pos rfl]; split <;> rfl
theorem conn_lab {js : List Join} {a b : Int} : Conn js (-1) a b ↔ lab js a = lab js b := by
  constructor
  · intro h
    induction h with
    | refl => rfl
    | step _ hj _ hb ih =>
      rw [ih]
      rcases hb with ⟨rfl, rfl⟩ | ⟨rfl, rfl⟩
      · exact lab_join js hj
      · exact (lab_join js hj).symm
  · revert a b
    induction js using revInd with
    | h0 => intro a b h; exact (show a = b from h) ▸ .refl
    | h1 js l ih =>
      intro a b h
      have hl : Conn (js ++ [l]) (-1) l.from_ l.to := .step (m := js.length) .refl (by rw [List.getElem?_append_right (Nat.le_refl _), Nat.sub_self]; rfl) (by omega) (.inl ⟨rfl, rfl⟩)
      rw [lab_snoc, lab_snoc] at h
      by_cases ha : lab js a = lab js l.from_
      · rw [if_pos ha] at h
        have h1 := ((ih ha).more [l]).trans hl
        by_cases hb : lab js b = lab js l.from_
        · exact h1.trans ((ih hb).more [l] |>.trans hl).symm
        · rw [if_neg hb] at h
          exact h1.trans ((ih h).more [l])
      · rw [if_neg ha] at h
        by_cases hb : lab js b = lab js l.from_
        · rw [if_pos hb] at h
          exact ((ih h).more [l]).trans ((ih hb).more [l] |>.trans hl).symm
        · rw [if_neg hb] at h
          exact (ih h).more [l]
/-- All ends of joins are schemas. -/
def InR (n : Nat) (js : List Join) : Prop := ∀ j ∈ js, 0 ≤ j.from_ ∧ j.from_ < n ∧ 0 ≤ j.to ∧ j.to < n
theorem Conn.inR {n : Nat} {js : List Join} {x a b : Int} (h : Conn js x a b) (hr : InR n js) (ha : 0 ≤ a ∧ a < n) : 0 ≤ b ∧ b < n := by
  cases h with
  | refl => exact ha
  | step _ hj _ hb =>
    have := hr _ (List.mem_of_getElem? hj)
    rcases hb with ⟨rfl, rfl⟩ | ⟨rfl, rfl⟩ <;> omega
theorem filter_ne_len {M : List Int} {a : Int} (hn : M.Nodup) (ha : a ∈ M) : (M.filter fun y => decide (y ≠ a)).length + 1 = M.length := by
  induction M with
  | nil => cases ha
  | cons b M ih =>
    obtain ⟨h1, h2⟩ := List.nodup_cons.1 hn
    by_cases e : b = a
    · subst e
      rw [List.filter_cons_of_neg (by simp), List.filter_eq_self.2 fun y hy => by simp only [decide_eq_true_eq]; rintro rfl; exact h1 hy]
      rfl
    · rw [List.filter_cons_of_pos (by simpa using e), List.length_cons, List.length_cons, ih h2 ((List.mem_cons.1 ha).resolve_left fun h => e h.symm)]
theorem Forest.count {n : Nat} {js : List Join} (h : Forest js) (hr : InR n js) : ∃ M : List Int, M.Nodup ∧ (∀ v : Int, 0 ≤ v → v < n → lab js v ∈ M) ∧ M.length + js.length = n := by
  induction h with
  | nil => exact ⟨(List.range n).map fun k : Nat => (k : Int), List.pairwise_map.2 (List.nodup_range.imp fun h e => h (by omega)), fun v h1 h2 => List.mem_map.2 ⟨v.toNat, List.mem_range.2 (by omega), by show ((v.toNat : Nat) : Int) = v; omega⟩, by simp⟩
  | @snoc js j h hj ih =>
    obtain ⟨M, h1, h2, h3⟩ := ih fun l hl => hr l (List.mem_append_left _ hl)
    obtain ⟨r1, r2, r3, r4⟩ := hr j (List.mem_append_right _ (List.mem_singleton.2 rfl))
    have hne : lab js j.to ≠ lab js j.from_ := fun e => hj (conn_lab.2 e.symm)
    refine ⟨M.filter fun y => decide (y ≠ lab js j.from_), h1.filter _, fun v hv1 hv2 => ?_, ?_⟩
    · rw [lab_snoc, List.mem_filter, decide_eq_true_eq]
      split
      · exact ⟨h2 _ r3 r4, hne⟩
      · rename_i hn; exact ⟨h2 v hv1 hv2, hn⟩
    · have := filter_ne_len h1 (h2 _ r1 r2)
      rw [List.length_append, List.length_singleton]; omega
theorem Forest.len {n : Nat} {js : List Join} (h : Forest js) (hr : InR n js) : js.length ≤ n := by
  obtain ⟨M, _, _, h3⟩ := h.count hr; omega
/-- How many can be come to. -/
noncomputable def connN (n : Nat) (js : List Join) (x a : Int) : Nat := open Classical in ((List.range n).filter fun k : Nat => decide (Conn js x a (k : Int))).length
theorem connN_le (n : Nat) (js : List Join) (x a : Int) : connN n js x a ≤ n := Nat.le_trans (List.length_filter_le _ _) (by simp)
theorem filter_less {p q : Nat → Bool} (l : List Nat) (hpq : ∀ k, p k = true → q k = true) {a : Nat} (ha : a ∈ l) (hp : p a = false) (hq : q a = true) : (l.filter p).length < (l.filter q).length := by
  have hle : ∀ l : List Nat, (l.filter p).length ≤ (l.filter q).length := fun l => by
    induction l with
    | nil => exact Nat.le_refl _
    | cons b l ih =>
      cases hb : p b with
      | true => rw [List.filter_cons_of_pos hb, List.filter_cons_of_pos (hpq b hb)]; simp only [List.length_cons]; omega
      | false =>
        rw [List.filter_cons_of_neg (by simp [hb])]
        cases hb2 : q b with
        | true => rw [List.filter_cons_of_pos hb2]; simp only [List.length_cons]; omega
        | false => rw [List.filter_cons_of_neg (by simp [hb2])]; exact ih
  induction l with
  | nil => cases ha
  | cons b l ih =>
    rcases List.mem_cons.1 ha with rfl | h
    · rw [List.filter_cons_of_neg (by simp [hp]), List.filter_cons_of_pos hq]
      have := hle l
      simp only [List.length_cons]; omega
    · cases hb : p b with
      | true => rw [List.filter_cons_of_pos hb, List.filter_cons_of_pos (hpq b hb)]; simp only [List.length_cons]; have := ih h; omega
      | false =>
        rw [List.filter_cons_of_neg (by simp [hb])]
        cases hb2 : q b with
        | true => rw [List.filter_cons_of_pos hb2]; simp only [List.length_cons]; have := ih h; omega
        | false => rw [List.filter_cons_of_neg (by simp [hb2])]; exact ih h
theorem Forest.less {n : Nat} {js : List Join} (h : Forest js) {m : Nat} {j : Join} {x a b : Int} (hj : js[m]? = some j) (hb : j.between a b) (hx : (m : Int) ≠ x) (hc : ∀ (c : Nat) l, (c : Int) = x → js[c]? = some l → ∃ o, l.between o a) (ha : 0 ≤ a ∧ a < n) :
    connN n js m b < connN n js x a := by
  classical
  unfold connN
  refine filter_less _ (fun k hk => ?_) (a := a.toNat) (List.mem_range.2 (by omega)) ?_ ?_
  · rw [decide_eq_true_eq] at hk ⊢
    exact (h.fewer hj hb hx hc hk).1
  · rw [decide_eq_false_iff_not]
    intro hk
    exact (h.fewer hj hb hx hc hk).2 (by omega)
  · rw [decide_eq_true_eq, show ((a.toNat : Nat) : Int) = a by omega]
    exact .refl
theorem connN_pos {n : Nat} {js : List Join} {x a : Int} (ha : 0 ≤ a ∧ a < n) : 0 < connN n js x a := by
  classical
  unfold connN
  refine List.length_pos_iff.2 fun e => ?_
  have h : a.toNat ∈ (List.range n).filter fun k : Nat => @decide (Conn js x a (k : Int)) (Classical.propDecidable _) := by
    rw [List.mem_filter, decide_eq_true_eq]
    refine ⟨List.mem_range.2 (by omega), ?_⟩
    rw [show ((a.toNat : Nat) : Int) = a by omega]
    exact .refl
  rw [e] at h
  cases h
end Go.Proofs.YtelkpflpgpdkdaaGreatDoor
namespace Go.Proofs.YtelkpflpgpdkdaaGreatDoor
open Go.RowKit Go.Lib
def hitJ (out : List Bool) (j : Join) : List Bool := if (out[j.from_.toNat]?.getD false || out[j.to.toNat]?.getD false) = true then (out.set j.from_.toNat true).set j.to.toNat true else out
def roundR (js : List Join) (out : List Bool) : List Bool := js.foldl hitJ out
def roundsR (js : List Join) : Nat → List Bool → List Bool
  | 0, o => o
  | n + 1, o => roundsR js n (roundR js o)
def startR (n : Nat) (k : Int) : List Bool := (List.replicate n false).set k.toNat true
def reachR (n : Nat) (js : List Join) (k : Int) : List Bool := if k < 0 ∨ (n : Int) ≤ k then List.replicate n false else roundsR js n (startR n k)
theorem hitJ_len (o : List Bool) (j : Join) : (hitJ o j).length = o.length := by unfold hitJ; split <;> simp
theorem foldl_len (l : List Join) : ∀ o : List Bool, (l.foldl hitJ o).length = o.length := by
  induction l with
  | nil => intro o; rfl
  | cons j l ih => intro o; rw [List.foldl_cons, ih, hitJ_len]
theorem set_true {o : List Bool} {i k : Nat} (h : o[i]? = some true) : (o.set k true)[i]? = some true := by
  rw [List.getElem?_set]
  split
  · rename_i e; subst e; rw [if_pos (List.getElem?_eq_some_iff.1 h).1]
  · exact h
theorem hitJ_mono {o : List Bool} {j : Join} {i : Nat} (h : o[i]? = some true) : (hitJ o j)[i]? = some true := by
  unfold hitJ; split
  · exact set_true (set_true h)
  · exact h
theorem foldl_mono {i : Nat} (l : List Join) : ∀ {o : List Bool}, o[i]? = some true → (l.foldl hitJ o)[i]? = some true := by
  induction l with
  | nil => intro o h; exact h
  | cons j l ih => intro o h; exact ih (hitJ_mono h)
theorem count_up : ∀ {o p : List Bool}, o.length = p.length → (∀ i : Nat, o[i]? = some true → p[i]? = some true) → o = p ∨ o.count true < p.count true
  | [], [], _, _ => .inl rfl
  | a :: o, b :: p, hl, h => by
    have ih := count_up (o := o) (p := p) (by simpa using hl) fun i hi => h (i + 1) hi
    have h0 := h 0
    cases a with
    | true =>
      cases Option.some.inj (h0 rfl)
      rcases ih with rfl | ih
      · exact .inl rfl
      · right; rw [List.count_cons_self, List.count_cons_self]; omega
    | false =>
      cases b with
      | true =>
        right
        rw [List.count_cons_of_ne (by decide), List.count_cons_self]
        rcases ih with rfl | ih <;> omega
      | false =>
        rcases ih with rfl | ih
        · exact .inl rfl
        · right; rw [List.count_cons_of_ne (by decide), List.count_cons_of_ne (by decide)]; exact ih
def Closed (js : List Join) (o : List Bool) : Prop := ∀ j ∈ js, hitJ o j = o
theorem round_up (l : List Join) : ∀ o : List Bool, (Closed l o ∧ l.foldl hitJ o = o) ∨ o.count true < (l.foldl hitJ o).count true := by
  induction l with
  | nil => intro o; exact .inl ⟨nofun, rfl⟩
  | cons j l ih =>
    intro o
    rw [List.foldl_cons]
    rcases count_up (o := o) (p := hitJ o j) (hitJ_len o j).symm (fun i hi => hitJ_mono hi) with h | h
    · rw [← h]
      rcases ih o with ⟨h1, h2⟩ | h1
      · exact .inl ⟨fun x hx => by
          rcases List.mem_cons.1 hx with rfl | hx
          · exact h.symm
          · exact h1 x hx, h2⟩
      · exact .inr h1
    · right
      rcases ih (hitJ o j) with ⟨_, h2⟩ | h1
      · rw [h2]; exact h
      · omega
theorem rounds_fix {js : List Join} {o : List Bool} (h : roundR js o = o) : ∀ n, roundsR js n o = o
  | 0 => rfl
  | n + 1 => by rw [roundsR, h]; exact rounds_fix h n
theorem rounds_len (js : List Join) : ∀ (n : Nat) (o : List Bool), (roundsR js n o).length = o.length
  | 0, _ => rfl
  | n + 1, o => by rw [roundsR, rounds_len js n]; exact foldl_len js o
theorem rounds_up (js : List Join) : ∀ (n : Nat) (o : List Bool), Closed js (roundsR js n o) ∨ o.count true + n ≤ (roundsR js n o).count true
  | 0, _ => .inr (Nat.le_refl _)
  | n + 1, o => by
    rw [roundsR]
    rcases round_up js o with ⟨h1, h2⟩ | h1
    · rw [show roundR js o = o from h2, rounds_fix h2]; exact .inl h1
    · rcases rounds_up js n (roundR js o) with h3 | h3
      · exact .inl h3
      · right; have : roundR js o = js.foldl hitJ o := rfl; rw [this] at h3 ⊢; omega
theorem rounds_mono (js : List Join) {i : Nat} : ∀ (n : Nat) {o : List Bool}, o[i]? = some true → (roundsR js n o)[i]? = some true
  | 0, _, h => h
  | n + 1, _, h => rounds_mono js n (foldl_mono js h)
/-- What is marked can be come to. -/
def Snd (js : List Join) (k : Int) (o : List Bool) : Prop := ∀ v : Nat, o[v]? = some true → Conn js (-1) k v
theorem hitJ_snd {n : Nat} {js : List Join} {k : Int} (hr : InR n js) {j : Join} (hj : j ∈ js) {o : List Bool} (h : Snd js k o) : Snd js k (hitJ o j) := by
  obtain ⟨m, hm, rfl⟩ := List.getElem_of_mem hj
  have hjm : js[m]? = some js[m] := List.getElem?_eq_getElem hm
  obtain ⟨r1, r2, r3, r4⟩ := hr _ hj
  have hs : Conn js (-1) js[m].from_ js[m].to := .step .refl hjm (by omega) (.inl ⟨rfl, rfl⟩)
  intro v hv
  unfold hitJ at hv
  split at hv
  · rename_i hc
    have hboth : Conn js (-1) k js[m].from_ ∧ Conn js (-1) k js[m].to := by
      rcases Bool.or_eq_true _ _ ▸ hc with h1 | h1
      · have h2 : o[js[m].from_.toNat]? = some true := by
          cases hg : o[js[m].from_.toNat]? with
          | none => rw [hg] at h1; cases h1
          | some b => rw [hg] at h1; exact congrArg some h1
        have := h _ h2
        rw [show ((js[m].from_.toNat : Nat) : Int) = js[m].from_ by omega] at this
        exact ⟨this, this.trans hs⟩
      · have h2 : o[js[m].to.toNat]? = some true := by
          cases hg : o[js[m].to.toNat]? with
          | none => rw [hg] at h1; cases h1
          | some b => rw [hg] at h1; exact congrArg some h1
        have := h _ h2
        rw [show ((js[m].to.toNat : Nat) : Int) = js[m].to by omega] at this
        exact ⟨this.trans hs.symm, this⟩
    by_cases e1 : js[m].to.toNat = v
    · have : ((v : Nat) : Int) = js[m].to := by omega
      rw [this]; exact hboth.2
    · rw [List.getElem?_set_ne e1] at hv
      by_cases e2 : js[m].from_.toNat = v
      · have : ((v : Nat) : Int) = js[m].from_ := by omega
        rw [this]; exact hboth.1
      · rw [List.getElem?_set_ne e2] at hv
        exact h v hv
  · exact h v hv
theorem foldl_snd {n : Nat} {js : List Join} {k : Int} (hr : InR n js) (l : List Join) : (∀ j ∈ l, j ∈ js) → ∀ {o : List Bool}, Snd js k o → Snd js k (l.foldl hitJ o) := by
  induction l with
  | nil => intro _ o h; exact h
  | cons j l ih => intro hl o h; exact ih (fun x hx => hl x (List.mem_cons_of_mem _ hx)) (hitJ_snd hr (hl j (List.mem_cons_self ..)) h)
theorem rounds_snd {n : Nat} {js : List Join} {k : Int} (hr : InR n js) : ∀ (m : Nat) {o : List Bool}, Snd js k o → Snd js k (roundsR js m o)
  | 0, _, h => h
  | m + 1, _, h => rounds_snd hr m (foldl_snd hr js (fun _ h => h) h)
theorem reachR_conn {n : Nat} {js : List Join} {k b : Int} (hr : InR n js) (hk : 0 ≤ k ∧ k < n) (hb : 0 ≤ b ∧ b < n) : (reachR n js k)[b.toNat]? = some true ↔ Conn js (-1) k b := by
  have hs0 : ∀ v, (startR n k)[v]? = some true ↔ v = k.toNat := fun v => by
    unfold startR
    rw [List.getElem?_set]
    split
    · rename_i e; subst e; simp; omega
    · rename_i e
      constructor
      · intro h; rw [List.getElem?_replicate] at h; split at h <;> cases h
      · intro h; exact absurd h.symm e
  have he : reachR n js k = roundsR js n (startR n k) := if_neg (by omega)
  rw [he]
  constructor
  · intro h
    have hsn : Snd js k (startR n k) := fun v hv => by
      have := (hs0 v).1 hv
      rw [show ((v : Nat) : Int) = k by omega]; exact .refl
    have := rounds_snd hr n hsn _ h
    rwa [show ((b.toNat : Nat) : Int) = b by omega] at this
  · intro h
    have hlen : (roundsR js n (startR n k)).length = n := by rw [rounds_len]; simp [startR]
    have hcl : Closed js (roundsR js n (startR n k)) := by
      rcases rounds_up js n (startR n k) with h1 | h1
      · exact h1
      · exfalso
        have h2 : 1 ≤ (startR n k).count true := List.count_pos_iff.2 (List.mem_of_getElem? ((hs0 k.toNat).2 rfl))
        have h3 := List.count_le_length (a := true) (l := roundsR js n (startR n k))
        omega
    induction h with
    | refl => exact rounds_mono js n ((hs0 _).2 rfl)
    | @step u v j m hc hj _ hjb ih =>
      have hu := hc.inR hr hk
      have hu2 := ih hu
      have hfix := hcl j (List.mem_of_getElem? hj)
      obtain ⟨r1, r2, r3, r4⟩ := hr j (List.mem_of_getElem? hj)
      have hhit : hitJ (roundsR js n (startR n k)) j = ((roundsR js n (startR n k)).set j.from_.toNat true).set j.to.toNat true := by
        unfold hitJ
        rw [if_pos]
        rcases hjb with ⟨e, _⟩ | ⟨_, e⟩
        · rw [e, hu2]; rfl
        · rw [e, hu2]; simp
      rw [← hfix, hhit]
      rcases hjb with ⟨_, e⟩ | ⟨e, _⟩
      · rw [e, List.getElem?_set_self (by simp; omega)]
      · subst e; exact set_true (by rw [List.getElem?_set_self (by omega)])
/-- A schema's hops, as one may gather them. -/
def arnd (F : Nat → Join → List Hop) : Nat → List Join → List Hop
  | _, [] => []
  | i, j :: l => F i j ++ arnd F (i + 1) l
theorem arnd_append (F : Nat → Join → List Hop) : ∀ (i : Nat) (a b : List Join), arnd F i (a ++ b) = arnd F i a ++ arnd F (i + a.length) b
  | i, [], b => rfl
  | i, j :: a, b => by rw [List.cons_append, arnd, arnd, arnd_append F (i + 1) a b, List.append_assoc, List.length_cons, show i + 1 + a.length = i + (a.length + 1) by omega]
theorem arnd_succ {F : Nat → Join → List Hop} {js : List Join} {i : Nat} {j : Join} (h : js[i]? = some j) : arnd F 0 (js.take (i + 1)) = arnd F 0 (js.take i) ++ F i j := by
  have hi := (List.getElem?_eq_some_iff.1 h).1
  rw [List.take_add_one, h, arnd_append, Nat.zero_add, List.length_take, Nat.min_eq_left (by omega)]
  simp [arnd]
theorem arnd_mem {F : Nat → Join → List Hop} {h : Hop} : ∀ {i : Nat} {l : List Join}, h ∈ arnd F i l ↔ ∃ m j, l[m]? = some j ∧ h ∈ F (i + m) j
  | i, [] => by simp [arnd]
  | i, j :: l => by
    rw [arnd, List.mem_append, arnd_mem]
    constructor
    · rintro (h1 | ⟨m, x, h1, h2⟩)
      · exact ⟨0, j, rfl, h1⟩
      · exact ⟨m + 1, x, h1, by rwa [show i + (m + 1) = i + 1 + m by omega]⟩
    · rintro ⟨m, x, h1, h2⟩
      cases m with
      | zero => cases h1; exact .inl h2
      | succ m => exact .inr ⟨m, x, h1, by rwa [show i + 1 + m = i + (m + 1) by omega]⟩
theorem arnd_congr {F G : Nat → Join → List Hop} : ∀ {i : Nat} {l : List Join}, (∀ m, ∀ j ∈ l, F m j = G m j) → arnd F i l = arnd G i l
  | _, [], _ => rfl
  | i, j :: l, h => by rw [arnd, arnd, h i j (List.mem_cons_self ..), arnd_congr fun m x hx => h m x (List.mem_cons_of_mem _ hx)]
def hopsG (k : Int) (i : Nat) (j : Join) : List Hop := if j.from_ = k then [⟨i, false⟩] else if j.to = k then [⟨i, true⟩] else []
def hopsT (k : Int) (i : Nat) (j : Join) : List Hop := if j.from_ = k ∨ j.to = k then [⟨i, decide (j.to = k)⟩] else []
def hopsR (k : Int) (i : Nat) (j : Join) : List Hop := (if j.from_ = k then [⟨i, false⟩] else []) ++ (if j.to = k then [⟨i, true⟩] else [])
theorem hops_same {k : Int} {i : Nat} {j : Join} (h : j.from_ ≠ j.to) : hopsT k i j = hopsG k i j ∧ hopsR k i j = hopsG k i j := by
  unfold hopsT hopsR hopsG
  by_cases h1 : j.from_ = k
  · have h2 : j.to ≠ k := fun e => h (h1.trans e.symm)
    simp [h1, h2]
  · by_cases h2 : j.to = k <;> simp [h1, h2]
/-- Where a hop leads. -/
def hopTo (js : List Join) (h : Hop) : Int := match js[h.join.toNat]? with
  | some j => if h.back then j.from_ else j.to
  | none => 0
theorem hopsG_mem {js : List Join} {k : Int} {h : Hop} (hm : h ∈ arnd (hopsG k) 0 js) : ∃ m j, h.join = (m : Nat) ∧ js[m]? = some j ∧ j.between k (hopTo js h) := by
  obtain ⟨m, j, h1, h2⟩ := arnd_mem.1 hm
  rw [Nat.zero_add] at h2
  unfold hopsG at h2
  refine ⟨m, j, ?_⟩
  split at h2
  · rename_i e
    obtain rfl := List.mem_singleton.1 h2
    exact ⟨rfl, h1, .inl ⟨e, by unfold hopTo; simp only [Int.toNat_natCast, h1]; rfl⟩⟩
  · split at h2
    · rename_i e
      obtain rfl := List.mem_singleton.1 h2
      exact ⟨rfl, h1, .inr ⟨by unfold hopTo; simp only [Int.toNat_natCast, h1]; rfl, e⟩⟩
    · cases h2
theorem hopsG_all {js : List Join} {k w : Int} {m : Nat} {j : Join} (h : js[m]? = some j) (hb : j.between k w) : w = k ∨ ∃ x ∈ arnd (hopsG k) 0 js, hopTo js x = w := by
  by_cases hw : w = k
  · exact .inl hw
  right
  rcases hb with ⟨e1, e2⟩ | ⟨e1, e2⟩
  · exact ⟨⟨m, false⟩, arnd_mem.2 ⟨m, j, h, by rw [Nat.zero_add]; unfold hopsG; rw [if_pos e1]; exact List.mem_singleton.2 rfl⟩, by unfold hopTo; simp only [Int.toNat_natCast, h]; exact e2⟩
  · exact ⟨⟨m, true⟩, arnd_mem.2 ⟨m, j, h, by rw [Nat.zero_add]; unfold hopsG; rw [if_neg (by rw [e1]; exact hw), if_pos e2]; exact List.mem_singleton.2 rfl⟩, by unfold hopTo; simp only [Int.toNat_natCast, h]; exact e1⟩
/-- The ways that are known. -/
abbrev Ways := Int → Option (List Hop)
def Ways.put (M : Ways) (k : Int) (w : List Hop) : Ways := fun x => if x = k then some w else M x
def goHops (V : Ways → Int → List Hop → Option Ways) (n : Nat) (js : List Join) (way : List Hop) : List Hop → Ways → Option Ways
  | [], M => some M
  | h :: l, M => if M (hopTo js h) = none ∧ 0 ≤ hopTo js h ∧ hopTo js h < n then (V M (hopTo js h) (way ++ [h])).bind (goHops V n js way l) else goHops V n js way l M
def visitN (n : Nat) (js : List Join) : Nat → Ways → Int → List Hop → Option Ways
  | 0, _, _, _ => none
  | f + 1, M, k, way => goHops (visitN n js f) n js way (arnd (hopsG k) 0 js) (M.put k way)
def unseen (n : Nat) (M : Ways) : Nat := ((List.range n).filter fun k : Nat => (M k).isNone).length
theorem unseen_le {n : Nat} {M M' : Ways} (h : ∀ v, M v ≠ none → M' v ≠ none) : unseen n M' ≤ unseen n M := by
  unfold unseen
  induction List.range n with
  | nil => exact Nat.le_refl _
  | cons k l ih =>
    by_cases h2 : M k = none
    · rw [List.filter_cons_of_pos (p := fun k : Nat => (M k).isNone) (by rw [h2]; rfl)]
      by_cases h1 : M' k = none
      · rw [List.filter_cons_of_pos (p := fun k : Nat => (M' k).isNone) (by rw [h1]; rfl)]; simp only [List.length_cons]; omega
      · rw [List.filter_cons_of_neg (p := fun k : Nat => (M' k).isNone) (by simpa using h1)]; simp only [List.length_cons]; omega
    · rw [List.filter_cons_of_neg (p := fun k : Nat => (M k).isNone) (by simpa using h2), List.filter_cons_of_neg (p := fun k : Nat => (M' k).isNone) (by simpa using h _ h2)]
      exact ih
theorem unseen_put {n : Nat} {M : Ways} {k : Int} (w : List Hop) (hk : 0 ≤ k ∧ k < n) (hM : M k = none) : unseen n (M.put k w) < unseen n M := by
  unfold unseen
  refine filter_less (p := fun j : Nat => ((M.put k w) j).isNone) (q := fun j : Nat => (M j).isNone) _ (fun j hj => ?_) (a := k.toNat) (List.mem_range.2 (by omega)) ?_ ?_
  · unfold Ways.put at hj
    split at hj
    · cases hj
    · exact hj
  · show ((M.put k w) ((k.toNat : Nat) : Int)).isNone = false
    unfold Ways.put
    rw [if_pos (by omega)]; rfl
  · show (M ((k.toNat : Nat) : Int)).isNone = true
    rw [show ((k.toNat : Nat) : Int) = k by omega, hM]; rfl
/-- What going deep yields. -/
structure Went (n : Nat) (js : List Join) (k : Int) (M M' : Ways) : Prop where
  old : ∀ v, M v ≠ none → M' v = M v
  conn : ∀ v, M' v ≠ none → M v ≠ none ∨ Conn js (-1) k v
  shut : ∀ v, M' v ≠ none → M v = none → ∀ (m : Nat) j w, js[m]? = some j → j.between v w → M' w ≠ none
theorem Went.refl (n : Nat) (js : List Join) (k : Int) (M : Ways) : Went n js k M M := ⟨fun _ _ => rfl, fun _ h => .inl h, fun _ h1 h2 => absurd h2 h1⟩
theorem Went.trans {n : Nat} {js : List Join} {k : Int} {A B C : Ways} (h : Went n js k A B) (g : Went n js k B C) : Went n js k A C := by
  have hm : ∀ v, B v ≠ none → C v ≠ none := fun v hv => by rw [g.old v hv]; exact hv
  refine ⟨fun v hv => ?_, fun v hv => ?_, fun v h1 h2 m j w hj hb => ?_⟩
  · have h1 := h.old v hv
    rw [g.old v (by rw [h1]; exact hv), h1]
  · rcases g.conn v hv with h1 | h1
    · exact h.conn v h1
    · exact .inr h1
  · by_cases hB : B v = none
    · exact g.shut v h1 hB m j w hj hb
    · exact hm w (h.shut v hB h2 m j w hj hb)
theorem goHops_ok {n : Nat} {js : List Join} (hr : InR n js) {f : Nat} {k : Int} (hk : 0 ≤ k ∧ k < n) (way : List Hop)
    (V : ∀ (M : Ways) (v : Int) (w : List Hop), unseen n M ≤ f → M v = none → 0 ≤ v ∧ v < n → ∃ M', visitN n js f M v w = some M' ∧ Went n js v M M' ∧ M' v ≠ none) :
    ∀ (l : List Hop) (M : Ways), (∀ h ∈ l, ∃ m j, h.join = (m : Nat) ∧ js[m]? = some j ∧ j.between k (hopTo js h)) → unseen n M ≤ f → ∃ M', goHops (visitN n js f) n js way l M = some M' ∧ Went n js k M M' ∧ ∀ h ∈ l, M' (hopTo js h) ≠ none
  | [], M, _, _ => ⟨M, rfl, .refl .., nofun⟩
  | h :: l, M, hl, hf => by
    obtain ⟨m, j, _, h2, h3⟩ := hl h (List.mem_cons_self ..)
    have hrr : 0 ≤ hopTo js h ∧ hopTo js h < n := by
      have := hr j (List.mem_of_getElem? h2)
      rcases h3 with ⟨_, e⟩ | ⟨e, _⟩ <;> omega
    have hl' := fun x hx => hl x (List.mem_cons_of_mem _ hx)
    unfold goHops
    by_cases hM : M (hopTo js h) = none
    · rw [if_pos ⟨hM, hrr⟩]
      obtain ⟨M1, e1, w1, n1⟩ := V M _ (way ++ [h]) hf hM hrr
      have w1' : Went n js k M M1 := ⟨w1.old, fun v hv => (w1.conn v hv).imp id fun hc => (Conn.step .refl h2 (by omega) h3).trans hc, w1.shut⟩
      obtain ⟨M2, e2, w2, n2⟩ := goHops_ok hr hk way V l M1 hl' (Nat.le_trans (unseen_le fun v hv => by rw [w1.old v hv]; exact hv) hf)
      refine ⟨M2, by rw [e1]; exact e2, w1'.trans w2, fun x hx => ?_⟩
      rcases List.mem_cons.1 hx with rfl | hx
      · rw [w2.old _ n1]; exact n1
      · exact n2 x hx
    · rw [if_neg fun h => hM h.1]
      obtain ⟨M2, e2, w2, n2⟩ := goHops_ok hr hk way V l M hl' hf
      refine ⟨M2, e2, w2, fun x hx => ?_⟩
      rcases List.mem_cons.1 hx with rfl | hx
      · rw [w2.old _ hM]; exact hM
      · exact n2 x hx
theorem visitN_ok {n : Nat} {js : List Join} (hr : InR n js) : ∀ (f : Nat) (M : Ways) (k : Int) (way : List Hop), unseen n M ≤ f → M k = none → 0 ≤ k ∧ k < n → ∃ M', visitN n js f M k way = some M' ∧ Went n js k M M' ∧ M' k ≠ none
  | 0, M, k, way, hf, hM, hk => by have := unseen_put (n := n) way hk hM; omega
  | f + 1, M, k, way, hf, hM, hk => by
    have hp : (M.put k way) k ≠ none := by unfold Ways.put; rw [if_pos rfl]; exact nofun
    obtain ⟨M', e, w, hall⟩ := goHops_ok hr hk way (fun M v w h1 h2 h3 => visitN_ok hr f M v w h1 h2 h3) (arnd (hopsG k) 0 js) (M.put k way) (fun h hh => hopsG_mem hh) (by have := unseen_put (n := n) way hk hM; omega)
    have hold : ∀ v, M v ≠ none → (M.put k way) v = M v := fun v hv => by
      unfold Ways.put; rw [if_neg]; rintro rfl; exact hv hM
    have hnew : ∀ v, (M.put k way) v ≠ none → M v ≠ none ∨ v = k := fun v hv => by
      unfold Ways.put at hv
      split at hv
      · rename_i e; exact .inr e
      · exact .inl hv
    have hk' : M' k ≠ none := by rw [w.old k hp]; exact hp
    refine ⟨M', by rw [visitN]; exact e, ⟨fun v hv => ?_, fun v hv => ?_, fun v h1 h2 m j u hj hb => ?_⟩, hk'⟩
    · rw [w.old v (by rw [hold v hv]; exact hv), hold v hv]
    · rcases w.conn v hv with h | h
      · rcases hnew v h with h | rfl
        · exact .inl h
        · exact .inr .refl
      · exact .inr h
    · by_cases hvk : v = k
      · subst hvk
        rcases hopsG_all hj hb with rfl | ⟨x, hx, rfl⟩
        · exact hk'
        · exact hall x hx
      · exact w.shut v h1 (by unfold Ways.put; rw [if_neg hvk]; exact h2) m j u hj hb
/-- All ways from a schema on. -/
def waysN (n : Nat) (js : List Join) (k : Int) : Option Ways := if 0 ≤ k ∧ k < n then visitN n js n (fun _ => none) k [] else some fun _ => none
theorem waysN_ok {n : Nat} {js : List Join} (hr : InR n js) {k : Int} (hk : 0 ≤ k ∧ k < n) : ∃ M, waysN n js k = some M ∧ ∀ v, M v ≠ none ↔ Conn js (-1) k v := by
  obtain ⟨M, e, w, h⟩ := visitN_ok hr n (fun _ => none) k [] (Nat.le_trans (List.length_filter_le _ _) (by simp)) rfl hk
  refine ⟨M, by unfold waysN; rw [if_pos hk]; exact e, fun v => ⟨fun hv => (w.conn v hv).resolve_left fun h => h rfl, fun hc => ?_⟩⟩
  induction hc with
  | refl => exact h
  | step _ hj _ hb ih => exact w.shut _ ih rfl _ _ _ hj hb
end Go.Proofs.YtelkpflpgpdkdaaGreatDoor
