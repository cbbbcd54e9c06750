/- Part 15 of what StageOrder and StagePlans ask: for every input each returns true, and its input reads as it did. No condition. -/
import Derived.Test.YtelkpflpgpdkdaaGreatDoorPt14
namespace Go.Proofs.YtelkpflpgpdkdaaGreatDoor
open Go.RowKit Go.Lib
def zeroDoc : Doc := .mk 0 0 ⟨#[]⟩ [] []
def zeroS : State := ⟨zeroDoc, []⟩
section
variable (cv : Doc → List (Int × Int) → Doc)
/-- Behind the walk. -/
def goesEnd (f : Flds) (w : WS) : (State × List Res) × Int :=
  if w.err ≠ 0 then ((zeroS, []), w.err) else if resRight w.res = false then ((zeroS, []), 1) else if (recOf f).right = false then ((zeroS, []), 2) else ((⟨recOf f, w.res⟩, w.needs), 0)
/-- What there is behind an edge, and what was needed. -/
noncomputable def goesS (t : Typ) (l : List Lens) (ed : Int) (bk : Bool) (s : State) : (State × List Res) × Int :=
  if (Lens.target (effs bk l) t).2 ≠ 0 then ((zeroS, []), (Lens.target (effs bk l) t).2) else if resRight s.res = false then ((zeroS, []), 1) else if isOf t s.doc = false then ((zeroS, []), 7) else
  match wsteps cv ed bk 0 l [] [] (fOf s.doc) ⟨s.res, [], 0⟩ with
  | none => ((zeroS, []), 1)
  | some (f, w) => goesEnd f w
end
/-- A state that may be gone over. -/
structure StFit (s : State) : Prop where
  doc : s.doc.fit
  len : s.res.length ≤ 90000
  res : ∀ x ∈ s.res, x.fit
theorem target_ok {l : List Lens} {t : Typ} (h : (Lens.target l t).2 = 0) : t.right = true ∧ t.kind = 1 ∧ Lens.size l ≤ 64 ∧ Lens.target l t = Lens.steps l t := by
  unfold Lens.target at h ⊢
  by_cases h1 : t.right = false ∨ t.kind ≠ 1
  · rw [if_pos h1] at h; cases h
  rw [if_neg h1] at h ⊢
  by_cases h2 : 64 < Lens.size l
  · rw [if_pos h2] at h; cases h
  rw [if_neg h2] at h ⊢
  by_cases h3 : 8 < Lens.depth l
  · rw [if_pos h3] at h; cases h
  rw [if_neg h3] at h ⊢
  rw [not_or, Classical.not_not] at h1
  exact ⟨by simpa using h1.1, h1.2, by omega, rfl⟩
theorem res_docs {l : List Res} (h : resRight l = true) : l.length ≤ 256 ∧ ∀ x ∈ l, x.doc.right = true := by
  unfold resRight resTo at h
  rw [Bool.and_eq_true, List.all_eq_true, decide_eq_true_eq] at h
  refine ⟨h.2, fun x hx => ?_⟩
  obtain ⟨j, hj, rfl⟩ := List.getElem_of_mem hx
  have h1 := h.1 j (List.mem_range.2 hj)
  unfold resStep at h1
  rw [List.getElem?_eq_getElem hj, List.getElem?_eq_getElem (show j - 1 < l.length by omega)] at h1
  simp only [Bool.and_eq_true] at h1
  exact h1.1
theorem rsize_le {l : List Res} (h : ∀ x ∈ l, x.doc.size ≤ 512) : rsize l ≤ 512 * l.length := by
  induction l with
  | nil => exact Nat.zero_le _
  | cons x l ih =>
    unfold rsize
    have h1 := h x (List.mem_cons_self ..)
    have h2 := ih fun y hy => h y (List.mem_cons_of_mem _ hy)
    rw [List.length_cons]; omega
theorem size_append (l m : List Lens) : Lens.size (l ++ m) = Lens.size l + Lens.size m := by
  induction l with
  | nil => simp [Lens.size]
  | cons s l ih => rw [List.cons_append, Lens.size, Lens.size, ih]; omega
mutual
theorem turn_size : ∀ s : Lens, Lens.size1 (Lens.turn s) = Lens.size1 s
  | .mk k a b ty d sw subs => by
    have h := back_size subs
    unfold Lens.turn
    repeat' split
    all_goals first
      | rfl
      | exact h
theorem back_size : ∀ l : List Lens, Lens.size (Lens.back l) = Lens.size l
  | [] => rfl
  | s :: l => by
    have h1 := turn_size s
    have h2 := back_size l
    rw [Lens.back, size_append, h2, Lens.size, Lens.size, Lens.size, h1]; omega
end
/-- The walk ends, and in what it ends. -/
structure Walked (t : Typ) (f : Flds) (w : WS) : Prop where
  fok : FOk f
  doc : (recOf f).fit
  len : w.res.length ≤ 90000 ∧ w.needs.length ≤ 40000
  res : ∀ x ∈ w.res, x.fit
  needs : ∀ x ∈ w.needs, x.fit
theorem walk_goes {cv : Doc → List (Int × Int) → Doc} (hcv : CvOk cv) {t : Typ} {l : List Lens} {ed : Int} {bk : Bool} {s : State} (hs : StFit s) (h0 : (Lens.target (effs bk l) t).2 = 0) (hr : resRight s.res = true) (hi : isOf t s.doc = true) :
    ∃ c, Goes (wsteps cv ed bk 0 l [] [] (fOf s.doc) ⟨s.res, [], 0⟩) (Lens.steps (effs bk l) t).1 c (Lens.size l * (c + 1)) (fOf s.doc) ⟨s.res, [], 0⟩ ∧ OkKeys 1 s.doc ∧ (∃ f w, wsteps cv ed bk 0 l [] [] (fOf s.doc) ⟨s.res, [], 0⟩ = some (f, w) ∧ Walked t f w) ∧
      RecOk ((⟨s.res, [], 0⟩ : WS).err = 0) t (fOf s.doc) c ∧ Td (fOf s.doc) ⟨s.res, [], 0⟩ ∧ Room (Lens.size l * (c + 1)) (fsize (fOf s.doc)) ⟨s.res, [], 0⟩ ∧ Lens.size l ≤ 64 := by
  obtain ⟨ht, hk, hz, he⟩ := target_ok h0
  have hzl : Lens.size l ≤ 64 := by unfold effs at hz; cases bk with
    | false => exact hz
    | true => rw [if_pos rfl, back_size] at hz; exact hz
  rw [he] at h0
  obtain ⟨c, hsh, hc⟩ := isof_shape hi
  obtain ⟨c1, rfl, hok, hrec⟩ := hsh.open hk
  have hdr : s.doc.right = true := by unfold isOf bothRight at hi; simp only [Bool.and_eq_true] at hi; exact hi.1.2
  have hdz := (Doc.right_parts hdr).2.1
  obtain ⟨hrl, hrd⟩ := res_docs hr
  have hrs : rsize s.res ≤ 512 * s.res.length := rsize_le fun x hx => (Doc.right_parts (hrd x hx)).2.1
  have hsf := fsize_fOf hok
  have hmul : Lens.size l * (c1 + 1) ≤ 64 * 512 := Nat.mul_le_mul hzl (by omega)
  have hrec' : RecOk ((⟨s.res, [], 0⟩ : WS).err = 0) t (fOf s.doc) c1 := hrec.mono fun _ => trivial
  have htd : Td (fOf s.doc) ⟨s.res, [], 0⟩ := ⟨tidy_fOf hok (Doc.right_tidy hdr), fun x hx => ⟨(hs.res x hx).1, (hs.res x hx).2.1, Doc.right_tidy (hrd x hx)⟩, nofun⟩
  have hroom : Room (Lens.size l * (c1 + 1)) (fsize (fOf s.doc)) ⟨s.res, [], 0⟩ := ⟨by simp only; omega, by simp only; omega, by simp only [List.length_nil]; omega⟩
  have hgo := steps_go (ed := ed) (bk := bk) hcv _ l (Nat.le_refl _) 0 t (fOf s.doc) ⟨s.res, [], 0⟩ c1 [] [] ht hk h0 hrec' htd hroom (by simp; omega) (by simp; omega)
  refine ⟨c1, hgo, hok, ?_, hrec', htd, hroom, hzl⟩
  obtain ⟨f, w, e1, e2, e3, e4, _⟩ := hgo
  have hsz := e4.size
  have hrl2 := e4.res
  have hnl := e4.needs
  simp only [List.length_nil] at hsz hrl2 hnl
  refine ⟨f, w, e1, fOk_of (Lens.steps_right _ _ ht h0) e2 e3.flds (by omega), Doc.tidy_fit (tidy_recOf e3.flds) (by rw [size_recOf]; omega), ⟨by omega, by omega⟩, fun x hx => ?_, e3.needs⟩
  have h1 := e3.res x hx
  exact ⟨h1.1, h1.2.1, Doc.tidy_fit h1.2.2 (by have := rsize_mem hx; omega)⟩
/-- What comes out may be gone over. -/
theorem goes_fit {cv : Doc → List (Int × Int) → Doc} (hcv : CvOk cv) {t : Typ} {l : List Lens} {ed : Int} {bk : Bool} {s : State} (hs : StFit s) :
    StFit (goesS cv t l ed bk s).1.1 ∧ (goesS cv t l ed bk s).1.2.length ≤ 90000 ∧ ∀ x ∈ (goesS cv t l ed bk s).1.2, x.fit := by
  have hz : StFit zeroS := ⟨⟨by simp [zeroS, zeroDoc, Doc.size, Doc.sizes], ⟨Nat.zero_le _, trivial⟩⟩, Nat.zero_le _, nofun⟩
  have hzz : StFit zeroS ∧ ([] : List Res).length ≤ 90000 ∧ ∀ x ∈ ([] : List Res), x.fit := ⟨hz, Nat.zero_le _, nofun⟩
  unfold goesS
  by_cases h0 : (Lens.target (effs bk l) t).2 ≠ 0
  · rw [if_pos h0]; exact hzz
  rw [if_neg h0]
  by_cases hr : resRight s.res = false
  · rw [if_pos hr]; exact hzz
  rw [if_neg hr]
  by_cases hi : isOf t s.doc = false
  · rw [if_pos hi]; exact hzz
  rw [if_neg hi]
  obtain ⟨c, _, _, ⟨f1, w1, e1, hw⟩, _⟩ := walk_goes (ed := ed) hcv hs (Classical.not_not.1 h0) (by simpa using hr) (by simpa using hi)
  rw [e1]
  simp only
  unfold goesEnd
  split
  · exact hzz
  split
  · exact hzz
  split
  · exact hzz
  · exact ⟨⟨hw.doc, hw.len.1, hw.res⟩, Nat.le_trans hw.len.2 (by decide), hw.needs⟩
/-- What would be needed, if nothing was left out. -/
noncomputable def needS (cv : Doc → List (Int × Int) → Doc) (t : Typ) (l : List Lens) (ed : Int) (bk : Bool) (d : Doc) : List Res := (goesS cv t l ed bk ⟨d, []⟩).1.2
end Go.Proofs.YtelkpflpgpdkdaaGreatDoor
namespace Go.Proofs.YtelkpflpgpdkdaaGreatDoor
open Go.RowKit Go.Lib
def zeroR : Registry := ⟨[], []⟩
def addSE (r : Registry) (s : Str) (t : Typ) : Registry × Int :=
  if nameOk s = false ∨ t.right = false ∨ t.kind ≠ 1 then (zeroR, 1) else if 0 ≤ schemaIdx r s then (zeroR, 5) else if 12 ≤ r.schemas.length then (zeroR, 2) else (⟨r.schemas ++ [⟨s, t⟩], r.joins⟩, 0)
def addJE (r : Registry) (a b : Int) (l : List Lens) : Registry × Int :=
  if a < 0 ∨ b < 0 ∨ (r.schemas.length : Int) ≤ a ∨ (r.schemas.length : Int) ≤ b then (zeroR, 3) else if (reachR r.schemas.length r.joins a)[b.toNat]? = some true then (zeroR, 11) else
  match r.schemas[a.toNat]?, r.schemas[b.toNat]? with
  | some x, some y => if (Lens.target l x.typ).2 ≠ 0 then (zeroR, (Lens.target l x.typ).2) else if (Lens.target l x.typ).1.same y.typ = false then (zeroR, 7) else (⟨r.schemas, r.joins ++ [⟨a, b, l⟩]⟩, 0)
  | _, _ => (zeroR, 3)
def foldS : List Named → Registry → Option Registry
  | [], r => some r
  | x :: l, r => if (addSE r x.name x.typ).2 = 0 then foldS l (addSE r x.name x.typ).1 else none
def foldJ : List Join → Registry → Option Registry
  | [], r => some r
  | x :: l, r => if (addJE r x.from_ x.to x.lens).2 = 0 then foldJ l (addJE r x.from_ x.to x.lens).1 else none
/-- As ref10.Right says. -/
def regRight (r : Registry) : Bool := decide (r.schemas.length ≤ 12) && decide (r.joins.length ≤ 12) && ((foldS r.schemas zeroR).bind fun x => foldJ r.joins x).isSome
theorem addSE_ok {r : Registry} {s : Str} {t : Typ} (h : (addSE r s t).2 = 0) : (nameOk s = true ∧ t.right = true ∧ t.kind = 1) ∧ (addSE r s t).1 = ⟨r.schemas ++ [⟨s, t⟩], r.joins⟩ := by
  unfold addSE at h ⊢
  by_cases h1 : nameOk s = false ∨ t.right = false ∨ t.kind ≠ 1
  · rw [if_pos h1] at h; cases h
  rw [if_neg h1] at h ⊢
  by_cases h2 : 0 ≤ schemaIdx r s
  · rw [if_pos h2] at h; cases h
  rw [if_neg h2] at h ⊢
  by_cases h3 : 12 ≤ r.schemas.length
  · rw [if_pos h3] at h; cases h
  rw [if_neg h3]
  rw [not_or, not_or] at h1
  exact ⟨⟨by simpa using h1.1, by simpa using h1.2.1, Classical.not_not.1 h1.2.2⟩, rfl⟩
theorem foldS_eq : ∀ {l : List Named} {r x : Registry}, foldS l r = some x → x = ⟨r.schemas ++ l, r.joins⟩ ∧ ∀ y ∈ l, nameOk y.name = true ∧ y.typ.right = true ∧ y.typ.kind = 1
  | [], r, x, h => by
    unfold foldS at h
    cases h
    exact ⟨by rw [List.append_nil], nofun⟩
  | y :: l, r, x, h => by
    unfold foldS at h
    by_cases h0 : (addSE r y.name y.typ).2 = 0
    · rw [if_pos h0] at h
      obtain ⟨h1, h2⟩ := addSE_ok h0
      rw [h2] at h
      obtain ⟨h3, h4⟩ := foldS_eq h
      refine ⟨by rw [h3]; simp, fun z hz => ?_⟩
      rcases List.mem_cons.1 hz with rfl | hz
      · exact h1
      · exact h4 z hz
    · rw [if_neg h0] at h; cases h
/-- What a join that is taken in may be. -/
def JoinOk (l : List Named) (j : Join) : Prop := ∃ x y, l[j.from_.toNat]? = some x ∧ l[j.to.toNat]? = some y ∧ (Lens.target j.lens x.typ).2 = 0 ∧ (Lens.target j.lens x.typ).1.same y.typ = true
theorem addJE_ok {r : Registry} {a b : Int} {l : List Lens} (hr : InR r.schemas.length r.joins) (h : (addJE r a b l).2 = 0) : (0 ≤ a ∧ a < r.schemas.length ∧ 0 ≤ b ∧ b < r.schemas.length) ∧ ¬ Conn r.joins (-1) a b ∧ JoinOk r.schemas ⟨a, b, l⟩ ∧ (addJE r a b l).1 = ⟨r.schemas, r.joins ++ [⟨a, b, l⟩]⟩ := by
  unfold addJE at h ⊢
  by_cases h1 : a < 0 ∨ b < 0 ∨ (r.schemas.length : Int) ≤ a ∨ (r.schemas.length : Int) ≤ b
  · rw [if_pos h1] at h; cases h
  rw [if_neg h1] at h ⊢
  have hb : 0 ≤ a ∧ a < r.schemas.length ∧ 0 ≤ b ∧ b < r.schemas.length := by omega
  by_cases h2 : (reachR r.schemas.length r.joins a)[b.toNat]? = some true
  · rw [if_pos h2] at h; cases h
  rw [if_neg h2] at h ⊢
  cases hx : r.schemas[a.toNat]? with
  | none => rw [hx] at h; cases h
  | some x =>
    cases hy : r.schemas[b.toNat]? with
    | none => rw [hx, hy] at h; cases h
    | some y =>
      rw [hx, hy] at h
      simp only at h ⊢
      by_cases h3 : (Lens.target l x.typ).2 ≠ 0
      · rw [if_pos h3] at h; exact absurd h h3
      rw [if_neg h3] at h ⊢
      by_cases h4 : (Lens.target l x.typ).1.same y.typ = false
      · rw [if_pos h4] at h; cases h
      rw [if_neg h4]
      exact ⟨hb, fun hc => h2 ((reachR_conn hr ⟨hb.1, hb.2.1⟩ ⟨hb.2.2.1, hb.2.2.2⟩).2 hc), ⟨x, y, hx, hy, Classical.not_not.1 h3, by simpa using h4⟩, rfl⟩
theorem foldJ_eq : ∀ {l : List Join} {r x : Registry}, foldJ l r = some x → Forest r.joins → InR r.schemas.length r.joins → x = ⟨r.schemas, r.joins ++ l⟩ ∧ Forest (r.joins ++ l) ∧ InR r.schemas.length (r.joins ++ l) ∧ ∀ j ∈ l, JoinOk r.schemas j
  | [], r, x, h, hf, hr => by
    unfold foldJ at h
    cases h
    rw [List.append_nil]
    exact ⟨rfl, hf, hr, nofun⟩
  | j :: l, r, x, h, hf, hr => by
    unfold foldJ at h
    by_cases h0 : (addJE r j.from_ j.to j.lens).2 = 0
    · rw [if_pos h0] at h
      obtain ⟨h1, h2, h3, h4⟩ := addJE_ok hr h0
      rw [h4] at h
      have hf2 : Forest (r.joins ++ [j]) := .snoc hf h2
      have hr2 : InR r.schemas.length (r.joins ++ [j]) := fun k hk => by
        rcases List.mem_append.1 hk with hk | hk
        · exact hr k hk
        · rw [List.mem_singleton.1 hk]; exact h1
      obtain ⟨h5, h6, h7, h8⟩ := foldJ_eq h hf2 hr2
      have e : r.joins ++ [j] ++ l = r.joins ++ j :: l := by simp
      refine ⟨by rw [h5]; simp, by rw [← e]; exact h6, by rw [← e]; exact h7, fun k hk => ?_⟩
      rcases List.mem_cons.1 hk with rfl | hk
      · exact h3
      · exact h8 k hk
    · rw [if_neg h0] at h; cases h
/-- A right registry: its joins are a forest, and each fits. -/
theorem regRight_ok {r : Registry} (h : regRight r = true) : r.schemas.length ≤ 12 ∧ r.joins.length ≤ 12 ∧ Forest r.joins ∧ InR r.schemas.length r.joins ∧ (∀ j ∈ r.joins, JoinOk r.schemas j) ∧ ∀ y ∈ r.schemas, nameOk y.name = true ∧ y.typ.right = true ∧ y.typ.kind = 1 := by
  unfold regRight at h
  rw [Bool.and_eq_true, Bool.and_eq_true, decide_eq_true_eq, decide_eq_true_eq] at h
  obtain ⟨⟨h1, h2⟩, h3⟩ := h
  cases hs : foldS r.schemas zeroR with
  | none => rw [hs] at h3; cases h3
  | some x =>
    rw [hs, Option.bind_some] at h3
    obtain ⟨rfl, h5⟩ := foldS_eq hs
    cases hj : foldJ r.joins ⟨zeroR.schemas ++ r.schemas, zeroR.joins⟩ with
    | none => rw [hj] at h3; cases h3
    | some z =>
      obtain ⟨_, h6, h7, h8⟩ := foldJ_eq hj .nil nofun
      exact ⟨h1, h2, h6, h7, h8, h5⟩
end Go.Proofs.YtelkpflpgpdkdaaGreatDoor
namespace Go.Proofs.YtelkpflpgpdkdaaGreatDoor
open Go.RowKit Go.Lib
def typAt (r : Registry) (k : Int) : Typ := ((r.schemas[k.toNat]?).map Named.typ).getD (.mk 0 0 0 [] [] [])
def joinAt (r : Registry) (i : Int) : Join := (r.joins[i.toNat]?).getD ⟨0, 0, []⟩
def fineE (t : Typ) (s : State) : Int := if isOf t s.doc = false then 7 else if resRight s.res = false then 1 else 0
def putN (s : State) (n : Res) : State := if resIdx s.res n.edge n.step n.at_ < 0 then ⟨s.doc, resPut s.res n⟩ else s
def hopsAt (r : Registry) (k : Int) : List Hop := arnd (hopsG k) 0 r.joins
section
variable (cv : Doc → List (Int × Int) → Doc) (r : Registry)
noncomputable def goS (t : Typ) (l : List Lens) (ed : Int) (bk : Bool) (s : State) : State × Int := ((goesS cv t l ed bk s).1.1, (goesS cv t l ed bk s).2)
noncomputable def hopS (k : Int) (h : Hop) (s : State) : State × Int := goS cv (typAt r k) (joinAt r h.join).lens h.join h.back s
noncomputable def needed (k : Int) (h : Hop) (s : State) : State := (needS cv (typAt r k) (joinAt r h.join).lens h.join h.back s.doc).foldl putN s
noncomputable def thereS (F : Int → Int → State → State × Int) (k : Int) (h : Hop) (s : State) : State × Int :=
  let x := hopS cv r k h (needed cv r k h s)
  if x.2 ≠ 0 then x else
  let y := F (hopEnd (joinAt r h.join) h.back) h.join x.1
  if y.2 ≠ 0 then y else hopS cv r (hopEnd (joinAt r h.join) h.back) ⟨h.join, !h.back⟩ y.1
def overHops (T : Hop → State → State × Int) (come : Int) : List Hop → State → State × Int
  | [], s => (s, 0)
  | h :: l, s => if h.join = come then overHops T come l s else if (T h s).2 ≠ 0 then (zeroS, (T h s).2) else overHops T come l (T h s).1
/-- What is left out where it is needed, at a schema, and behind all joins but that over which one came; at most n schemas deep. -/
noncomputable def fillN : Nat → Int → Int → State → State × Int
  | 0, _, _, _ => (zeroS, 99)
  | n + 1, k, come, s => if fineE (typAt r k) s ≠ 0 then (zeroS, fineE (typAt r k) s) else overHops (thereS cv r (fillN n) k) come (hopsAt r k) s
def mayE (k : Int) : Int := if regRight r = false then 1 else if k < 0 ∨ (r.schemas.length : Int) ≤ k then 3 else 0
noncomputable def fillS (k : Int) (s : State) : State × Int :=
  if mayE r k ≠ 0 then (zeroS, mayE r k) else if (fillN cv r 13 k (-1) s).2 ≠ 0 then (zeroS, (fillN cv r 13 k (-1) s).2) else fillN cv r 13 k (-1) (fillN cv r 13 k (-1) s).1
noncomputable def wholeS (k : Int) (s : State) : Bool :=
  decide (mayE r k = 0) && (decide ((fillN cv r 13 k (-1) s).2 = 0) && stateSame (fillN cv r 13 k (-1) s).1 s) && (decide ((fillN cv r 13 k (-1) ⟨s.doc, []⟩).2 = 0) && eqF (fun a b => resLess a b == 0) (fillN cv r 13 k (-1) ⟨s.doc, []⟩).1.res s.res)
end
/-- A state that may be filled. -/
def StS (s : State) : Prop := StFit s ∧ s.res.length ≤ 256
theorem stS_zero : StS zeroS := ⟨⟨⟨by simp [zeroS, zeroDoc, Doc.size, Doc.sizes], ⟨Nat.zero_le _, trivial⟩⟩, Nat.zero_le _, nofun⟩, Nat.zero_le _⟩
section
variable {cv : Doc → List (Int × Int) → Doc} (hcv : CvOk cv) {r : Registry}
include hcv
theorem need_fit {t : Typ} {l : List Lens} {ed : Int} {bk : Bool} {d : Doc} (hd : d.fit) : (needS cv t l ed bk d).length ≤ 40000 ∧ ∀ x ∈ needS cv t l ed bk d, x.fit := by
  have hs : StFit ⟨d, []⟩ := ⟨hd, Nat.zero_le _, nofun⟩
  refine ⟨?_, (goes_fit hcv hs).2.2⟩
  unfold needS goesS
  by_cases h0 : (Lens.target (effs bk l) t).2 ≠ 0
  · rw [if_pos h0]; exact Nat.zero_le _
  rw [if_neg h0]
  by_cases hr : resRight (⟨d, []⟩ : State).res = false
  · rw [if_pos hr]; exact Nat.zero_le _
  rw [if_neg hr]
  by_cases hi : isOf t (⟨d, []⟩ : State).doc = false
  · rw [if_pos hi]; exact Nat.zero_le _
  rw [if_neg hi]
  obtain ⟨c, _, _, ⟨f1, w1, e1, hw⟩, _⟩ := walk_goes (ed := ed) hcv hs (Classical.not_not.1 h0) (by simpa using hr) (by simpa using hi)
  rw [e1]
  simp only
  unfold goesEnd
  repeat' split
  all_goals first
    | exact Nat.zero_le _
    | exact hw.len.2
theorem goS_fit {t : Typ} {l : List Lens} {ed : Int} {bk : Bool} {s : State} (hs : StFit s) : StS (goS cv t l ed bk s).1 := by
  refine ⟨(goes_fit hcv hs).1, ?_⟩
  unfold goS goesS
  simp only
  split
  · exact Nat.zero_le _
  split
  · exact Nat.zero_le _
  split
  · exact Nat.zero_le _
  split
  · exact Nat.zero_le _
  · unfold goesEnd
    split
    · exact Nat.zero_le _
    split
    · exact Nat.zero_le _
    · rename_i h
      split
      · exact Nat.zero_le _
      · exact (res_docs (by simpa using h)).1
omit hcv in
theorem puts_fit : ∀ (l : List Res) (s : State), StFit s → s.res.length + l.length ≤ 90000 → (∀ x ∈ l, x.fit) → StFit (l.foldl putN s) ∧ (l.foldl putN s).doc = s.doc
  | [], s, hs, _, _ => ⟨hs, rfl⟩
  | n :: l, s, hs, hz, hl => by
    have h1 := resPut_size s.res n
    rw [List.length_cons] at hz
    have hd : (putN s n).doc = s.doc := by unfold putN; split <;> rfl
    have hn : StFit (putN s n) ∧ (putN s n).res.length ≤ s.res.length + 1 := by
      unfold putN
      split
      · refine ⟨⟨hs.doc, by simp only; omega, fun x hx => ?_⟩, h1.2⟩
        rcases resPut_mem hx with rfl | h
        · exact hl _ (List.mem_cons_self ..)
        · exact hs.res x h
      · exact ⟨hs, by omega⟩
    obtain ⟨h2, h3⟩ := puts_fit l _ hn.1 (by omega) fun x hx => hl x (List.mem_cons_of_mem _ hx)
    exact ⟨h2, h3.trans hd⟩
theorem needed_fit {k : Int} {h : Hop} {s : State} (hs : StS s) : StFit (needed cv r k h s) := by
  have h1 := need_fit hcv (t := typAt r k) (l := (joinAt r h.join).lens) (ed := h.join) (bk := h.back) hs.1.doc
  exact (puts_fit _ _ hs.1 (by have := hs.2; omega) h1.2).1
theorem there_fit {F : Int → Int → State → State × Int} (hF : ∀ k c s, StS s → StS (F k c s).1) {k : Int} {h : Hop} {s : State} (hs : StS s) : StS (thereS cv r F k h s).1 := by
  unfold thereS
  have h1 := goS_fit hcv (t := typAt r k) (l := (joinAt r h.join).lens) (ed := h.join) (bk := h.back) (needed_fit hcv (r := r) (k := k) (h := h) hs)
  simp only
  split
  · exact h1
  · have h2 := hF (hopEnd (joinAt r h.join) h.back) h.join _ h1
    split
    · exact h2
    · exact goS_fit hcv h2.1
omit hcv in
theorem over_fit {T : Hop → State → State × Int} {come : Int} (hT : ∀ h s, StS s → StS (T h s).1) : ∀ (l : List Hop) (s : State), StS s → StS (overHops T come l s).1
  | [], _, hs => hs
  | h :: l, s, hs => by
    unfold overHops
    split
    · exact over_fit hT l s hs
    split
    · exact stS_zero
    · exact over_fit hT l _ (hT h s hs)
theorem fillN_fit : ∀ (n : Nat) (k come : Int) (s : State), StS s → StS (fillN cv r n k come s).1
  | 0, _, _, _, _ => stS_zero
  | n + 1, k, come, s, hs => by
    unfold fillN
    split
    · exact stS_zero
    · exact over_fit (fun h s hs => there_fit hcv (fillN_fit n) hs) _ s hs
end
end Go.Proofs.YtelkpflpgpdkdaaGreatDoor
namespace Go.Proofs.YtelkpflpgpdkdaaGreatDoor
open Go.RowKit Go.Lib
section
variable {S : List Nat} {w w' : World} {b q : Nat} {M : Ways}
end
theorem arnd_len (k : Int) : ∀ (l : List Join) (i : Nat), (arnd (hopsG k) i l).length ≤ l.length
  | [], _ => Nat.le_refl _
  | j :: l, i => by
    have h := arnd_len k l (i + 1)
    have h2 : (hopsG k i j).length ≤ 1 := by unfold hopsG; split; exact Nat.le_refl _; split; exact Nat.le_refl _; exact Nat.zero_le _
    rw [arnd, List.length_append, List.length_cons]
    omega
end Go.Proofs.YtelkpflpgpdkdaaGreatDoor
namespace Go.Proofs.YtelkpflpgpdkdaaGreatDoor
open Go.RowKit Go.Lib
theorem or_parts {t : Typ} (h : t.right = true ∨ t = .mk 0 0 0 [] [] []) : (∀ f ∈ t.fields, f.typ.right = true) ∧ ∀ x ∈ t.of, x.right = true := by
  rcases h with h | h
  · exact ⟨fun f hf => Typ.right_fld h hf, fun x hx => Typ.right_kid h hx⟩
  · rw [h]; exact ⟨nofun, nofun⟩
/-- Of two schemas that there are. -/
theorem addJE_in {r : Registry} {a b : Nat} {l : List Lens} {x y : Named} (hr : InR r.schemas.length r.joins) (hx : r.schemas[a]? = some x) (hy : r.schemas[b]? = some y) {M : Ways} (hM : ∀ v, M v ≠ none ↔ Conn r.joins (-1) a v) :
    addJE r a b l = if M b ≠ none then (zeroR, 11) else if (Lens.target l x.typ).2 ≠ 0 then (zeroR, (Lens.target l x.typ).2) else if (Lens.target l x.typ).1.same y.typ = false then (zeroR, 7) else (⟨r.schemas, r.joins ++ [⟨a, b, l⟩]⟩, 0) := by
  have h1 := (List.getElem?_eq_some_iff.1 hx).1
  have h2 := (List.getElem?_eq_some_iff.1 hy).1
  unfold addJE
  rw [if_neg (by omega)]
  have hc := reachR_conn (k := a) (b := b) hr (by omega) (by omega)
  rw [← hM] at hc
  by_cases h3 : M b ≠ none
  · rw [if_pos (hc.2 h3), if_pos h3]
  · rw [if_neg (fun h => h3 (hc.1 h)), if_neg h3]
    simp only [Int.toNat_natCast, hx, hy]
end Go.Proofs.YtelkpflpgpdkdaaGreatDoor
namespace Go.Proofs.YtelkpflpgpdkdaaGreatDoor
open Go.RowKit Go.Lib
/-- What is asked of a registry that is gone through. -/
structure RegOk (r : Registry) : Prop where
  typs : ∀ x ∈ r.schemas, x.typ.fit
  lens : ∀ j ∈ r.joins, Lens.fit j.lens ∧ Lens.wides j.lens
  len : r.schemas.length ≤ 1000 ∧ r.joins.length ≤ 1000
theorem addSE_len {r : Registry} {s : Str} {t : Typ} (h : (addSE r s t).2 = 0) : (addSE r s t).1.schemas.length ≤ 12 := by
  have h2 := addSE_ok h
  rw [h2.2]
  unfold addSE at h
  split at h
  · cases h
  split at h
  · cases h
  split at h
  · cases h
  · simp only [List.length_append, List.length_singleton]; omega
theorem foldS_len : ∀ {l : List Named} {r x : Registry}, foldS l r = some x → r.schemas.length ≤ 12 → x.schemas.length ≤ 12
  | [], r, x, h, hl => by unfold foldS at h; cases h; exact hl
  | y :: l, r, x, h, hl => by
    unfold foldS at h
    split at h
    · rename_i h0; exact foldS_len h (addSE_len h0)
    · cases h
/-- No more than twelve of each come out of it. -/
theorem regRight_eq (r : Registry) : regRight r = ((foldS r.schemas zeroR).bind fun x => foldJ r.joins x).isSome := by
  unfold regRight
  cases hs : foldS r.schemas zeroR with
  | none => simp
  | some x =>
    have hl := foldS_len hs (Nat.zero_le _)
    obtain ⟨rfl, _⟩ := foldS_eq hs
    rw [Option.bind_some]
    cases hj : foldJ r.joins ⟨zeroR.schemas ++ r.schemas, zeroR.joins⟩ with
    | none => simp
    | some z =>
      obtain ⟨_, h6, h7, _⟩ := foldJ_eq hj .nil nofun
      have h8 := h6.len h7
      simp only [zeroR, List.nil_append] at hl h8
      simp; omega
theorem foldS_next {l : List Named} {x : Named} {r : Registry} : foldS (x :: l) r = if (addSE r x.name x.typ).2 = 0 then foldS l (addSE r x.name x.typ).1 else none := rfl
theorem foldJ_next {l : List Join} {x : Join} {r : Registry} : foldJ (x :: l) r = if (addJE r x.from_ x.to x.lens).2 = 0 then foldJ l (addJE r x.from_ x.to x.lens).1 else none := rfl
theorem drop_at {α : Type} {l : List α} {i : Nat} {x : α} (h : l[i]? = some x) : l.drop i = x :: l.drop (i + 1) := by
  obtain ⟨g1, g2⟩ := List.getElem?_eq_some_iff.1 h
  rw [List.drop_eq_getElem_cons g1, g2]
/-- A registry on the way: schemas of the one that is gone through, and joins that are a forest. -/
structure OnWay (r x : Registry) : Prop where
  sch : ∀ y ∈ x.schemas, y ∈ r.schemas
  len : x.schemas.length ≤ 12
  for_ : Forest x.joins
  inr : InR x.schemas.length x.joins
theorem OnWay.zero (r : Registry) : OnWay r zeroR := ⟨nofun, Nat.zero_le _, .nil, nofun⟩
theorem OnWay.addS {r x : Registry} (h : OnWay r x) {y : Named} (hy : y ∈ r.schemas) (hj : x.joins = []) (h0 : (addSE x y.name y.typ).2 = 0) : OnWay r (addSE x y.name y.typ).1 ∧ (addSE x y.name y.typ).1.joins = [] := by
  have hl := addSE_len h0
  have he := (addSE_ok h0).2
  rw [he] at hl ⊢
  refine ⟨⟨fun z hz => ?_, hl, h.for_, ?_⟩, hj⟩
  · rcases List.mem_append.1 hz with e | e
    · exact h.sch z e
    · rw [List.mem_singleton.1 e]; exact hy
  · rw [hj]; exact nofun
theorem OnWay.addJ {r x : Registry} (h : OnWay r x) {j : Join} (h0 : (addJE x j.from_ j.to j.lens).2 = 0) : OnWay r (addJE x j.from_ j.to j.lens).1 := by
  obtain ⟨h1, h2, _, he⟩ := addJE_ok h.inr h0
  rw [he]
  refine ⟨h.sch, h.len, .snoc h.for_ h2, fun k hk => ?_⟩
  rcases List.mem_append.1 hk with e | e
  · exact h.inr k e
  · rw [List.mem_singleton.1 e]; exact h1
end Go.Proofs.YtelkpflpgpdkdaaGreatDoor
