/- Part 12 of what StageOrder and StagePlans ask: for every input each returns true, and its input reads as it did. No condition. -/
import Derived.Test.YtelkpflpgpdkdaaGreatDoorPt11
namespace Go.Proofs.YtelkpflpgpdkdaaGreatDoor
open Go.RowKit Go.Lib
def rsize : List Res → Nat
  | [] => 0
  | x :: l => x.doc.size + rsize l
theorem rsize_perm {l m : List Res} (h : l.Perm m) : rsize l = rsize m := by
  induction h with
  | nil => rfl
  | cons p _ ih => simp only [rsize, ih]
  | swap p q l => simp only [rsize]; omega
  | trans _ _ h1 h2 => exact h1.trans h2
theorem rsize_filter (p : Res → Bool) : ∀ l : List Res, rsize (l.filter p) ≤ rsize l
  | [] => Nat.le_refl _
  | x :: l => by
    have := rsize_filter p l
    by_cases h : p x = true
    · rw [List.filter_cons_of_pos h]; simp only [rsize]; omega
    · rw [List.filter_cons_of_neg h]; simp only [rsize]; omega
theorem rsize_mem {x : Res} : ∀ {l : List Res}, x ∈ l → x.doc.size ≤ rsize l
  | y :: l, h => by
    simp only [rsize]
    rcases List.mem_cons.1 h with rfl | h
    · omega
    · have := rsize_mem h; omega
theorem fsize_mem {p : Str × Doc} : ∀ {l : Flds}, p ∈ l → p.2.size ≤ fsize l
  | y :: l, h => by
    simp only [fsize]
    rcases List.mem_cons.1 h with rfl | h
    · omega
    · have := fsize_mem h; omega
theorem resIns_perm (x : Res) : ∀ l : List Res, (resIns x l).Perm (x :: l)
  | [] => List.Perm.refl _
  | y :: l => by
    unfold resIns
    split
    · exact ((resIns_perm x l).cons y).trans (List.Perm.swap _ _ _)
    · exact List.Perm.refl _
theorem resPut_mem {l : List Res} {x y : Res} (h : y ∈ resPut l x) : y = x ∨ y ∈ l := by
  rcases List.mem_cons.1 ((resIns_perm x _).mem_iff.1 h) with h | h
  · exact .inl h
  · exact .inr (List.mem_filter.1 h).1
theorem resPut_size (l : List Res) (x : Res) : rsize (resPut l x) ≤ rsize l + x.doc.size ∧ (resPut l x).length ≤ l.length + 1 := by
  have h1 := rsize_perm (resIns_perm x (resDrop l x.edge x.step x.at_))
  have h2 := (resIns_perm x (resDrop l x.edge x.step x.at_)).length_eq
  have h3 := rsize_filter (fun y => !(resLess y (placeRes x.edge x.step x.at_) == 0)) l
  have h4 := List.length_filter_le (fun y => !(resLess y (placeRes x.edge x.step x.at_) == 0)) l
  unfold resPut
  simp only [rsize, List.length_cons] at h1 h2
  unfold resDrop at h1 h2 ⊢
  omega
theorem resGet_some {l : List Res} {ed : Int} {st : List Int} {ks : List Str} {y : Res} (h : resGet l ed st ks = some y) : y ∈ l ∧ rsize (resDrop l ed st ks) + y.doc.size ≤ rsize l := by
  unfold resGet at h
  refine ⟨List.mem_of_find?_eq_some h, ?_⟩
  have hp := List.find?_some h
  unfold resDrop
  generalize hq : (fun x => resLess x (placeRes ed st ks) == 0) = q at h hp
  have : (fun x => !(resLess x (placeRes ed st ks) == 0)) = fun x => !q x := by rw [← hq]
  rw [this]
  clear hq this
  induction l with
  | nil => cases h
  | cons x l ih =>
    by_cases hx : q x = true
    · rw [List.find?_cons_of_pos hx] at h; cases h
      rw [List.filter_cons_of_neg (by simpa using hx)]
      have := rsize_filter (fun x => !q x) l
      simp only [rsize]; omega
    · rw [List.find?_cons_of_neg hx] at h
      rw [List.filter_cons_of_pos (by simpa using hx)]
      have := ih h
      simp only [rsize]; omega
/-- No row that is behind is too long. -/
structure Td (f : Flds) (w : WS) : Prop where
  flds : ∀ p ∈ f, p.2.tidy
  res : ∀ x ∈ w.res, x.step.length ≤ 1000000 ∧ x.at_.length ≤ 1000000 ∧ x.doc.tidy
  needs : ∀ x ∈ w.needs, x.fit
/-- At most K parts, and entries, more. -/
structure Gr (K a b : Nat) (w w' : WS) : Prop where
  size : b + rsize w'.res ≤ a + rsize w.res + K
  res : w'.res.length ≤ w.res.length + K
  needs : w'.needs.length ≤ w.needs.length + K
structure Room (K a : Nat) (w : WS) : Prop where
  size : a + rsize w.res + K ≤ 900000
  res : w.res.length + K ≤ 100000
  needs : w.needs.length + K ≤ 100000
theorem Gr.trans {K L a b c : Nat} {u v w : WS} (h : Gr K a b u v) (h2 : Gr L b c v w) : Gr (K + L) a c u w := by
  obtain ⟨h1, h3, h4⟩ := h
  obtain ⟨h5, h6, h7⟩ := h2
  exact ⟨by omega, by omega, by omega⟩
theorem Gr.mono {K L a b : Nat} {u v : WS} (h : Gr K a b u v) (hk : K ≤ L) : Gr L a b u v := by
  obtain ⟨h1, h3, h4⟩ := h
  exact ⟨by omega, by omega, by omega⟩
theorem Room.next {K L a b : Nat} {u v : WS} (h : Room (K + L) a u) (h2 : Gr K a b u v) : Room L b v := by
  obtain ⟨h1, h3, h4⟩ := h
  obtain ⟨h5, h6, h7⟩ := h2
  exact ⟨by omega, by omega, by omega⟩
theorem Room.mono {K L a b : Nat} {u : WS} (h : Room K a u) (hk : L ≤ K) (hb : b ≤ a) : Room L b u := by
  obtain ⟨h1, h3, h4⟩ := h
  exact ⟨by omega, by omega, by omega⟩
section
variable {e e' : Prop} {t t' : Typ} {f : Flds} {c : Nat}
theorem RecOk.mono (h : RecOk e t f c) (he : e' → e) : RecOk e' t f c := ⟨h.srt, h.flds.mono he, h.need⟩
theorem RecOk.set_ (h : RecOk e t f c) {a : Str} {y : Doc} {ty : Typ} {c1 b : Nat} (hfd : FShape e t (fdel a f) b) (ht : ∀ s, t'.find s = if s = a then some (.mk a false ty) else t.find s) (hy : Shape e ty y c1) : RecOk e t' (fput a y f) (c1 + b) := by
  refine ⟨h.srt.put, FShape.perm (fput_over h.srt).symm (.cons (f := .mk a false ty) (by rw [ht, if_pos rfl]) hy (hfd.turn fun s hs => by rw [ht, if_neg (fdel_names hs).1])), fun s g hs ho => ?_⟩
  rw [fget_put]
  split
  · exact nofun
  · rename_i hsa
    rw [ht, if_neg hsa] at hs
    exact h.need s g hs ho
theorem RecOk.add_ (h : RecOk e t f c) {a : Str} {y : Doc} {g : Fld} {c1 : Nat} (hm : t.find a = none) (ht : ∀ s, t'.find s = if s = a then some g else t.find s) (hy : Shape e g.typ y c1) : RecOk e t' (fput a y f) (c1 + c) := by
  have hmiss := h.miss hm
  refine ⟨h.srt.put, FShape.perm (fput_perm hmiss).symm (.cons (by rw [ht, if_pos rfl]) hy (h.flds.turn fun s hs => ?_)), fun s g hs ho => ?_⟩
  · rw [ht, if_neg]; rintro rfl; exact (fget_none.1 hmiss) hs
  · rw [fget_put]
    split
    · exact nofun
    · rename_i hsa
      rw [ht, if_neg hsa] at hs
      exact h.need s g hs ho
theorem RecOk.del_ (h : RecOk e t f c) {a : Str} {b : Nat} (hfd : FShape e t (fdel a f) b) (ht : ∀ s, t'.find s = if s = a then none else t.find s) : RecOk e t' (fdel a f) b := by
  refine ⟨h.srt.del, hfd.turn fun s hs => by rw [ht, if_neg (fdel_names hs).1], fun s g hs ho => ?_⟩
  rw [ht] at hs
  split at hs
  · cases hs
  · rename_i hsa
    rw [fget_del, if_neg hsa]
    exact h.need s g hs ho
end
/-- What is asked of the way in which a number is converted. -/
structure CvOk (cv : Doc → List (Int × Int) → Doc) : Prop where
  good : ∀ ty d sw, ty.kind = 4 → swapsE sw ty = 0 → isOf ty d = true → isOf ty (cv d sw) = true
  size : ∀ d sw, (cv d sw).size ≤ d.size
  tidy : ∀ d sw, d.tidy → (cv d sw).tidy
def eff (bk : Bool) (s : Lens) : Lens := if bk then s.turn else s
def effs (bk : Bool) (l : List Lens) : List Lens := if bk then Lens.back l else l
theorem eff_parts (bk : Bool) (k : Int) (a b : Str) (ty : Typ) (d : Doc) (sw : List (Int × Int)) (subs : List Lens) :
    (eff bk (.mk k a b ty d sw subs)).kind = turnK bk k ∧ (eff bk (.mk k a b ty d sw subs)).a = turnA bk k a b ∧ (eff bk (.mk k a b ty d sw subs)).b = turnB bk k a b ∧ (eff bk (.mk k a b ty d sw subs)).typ = ty ∧ (eff bk (.mk k a b ty d sw subs)).doc = d ∧
    (eff bk (.mk k a b ty d sw subs)).swaps = sw ∧ (turnK bk k = 9 ∨ turnK bk k = 10 → (eff bk (.mk k a b ty d sw subs)).subs = effs bk subs) := by
  cases bk with
  | false => exact ⟨rfl, rfl, rfl, rfl, rfl, rfl, fun _ => rfl⟩
  | true =>
    simp only [eff, turnK, turnA, turnB, effs, if_true, Lens.turn, true_and]
    by_cases h1 : k = 1
    · subst h1; exact ⟨rfl, rfl, rfl, rfl, rfl, rfl, fun h => by simp at h⟩
    · rw [if_neg h1, if_neg h1, if_neg h1]
      by_cases h2 : k = 2 ∨ k = 4 ∨ k = 6
      · rw [if_pos h2, if_pos h2]; exact ⟨rfl, rfl, rfl, rfl, rfl, rfl, fun h => by omega⟩
      · rw [if_neg h2, if_neg h2]
        by_cases h3 : k = 3 ∨ k = 5 ∨ k = 7
        · rw [if_pos h3, if_pos h3]; exact ⟨rfl, rfl, rfl, rfl, rfl, rfl, fun h => by omega⟩
        · rw [if_neg h3, if_neg h3]
          by_cases h4 : k = 9 ∨ k = 10
          · rw [if_pos h4]; exact ⟨rfl, rfl, rfl, rfl, rfl, rfl, fun _ => rfl⟩
          · rw [if_neg h4]; exact ⟨rfl, rfl, rfl, rfl, rfl, rfl, fun h => absurd h h4⟩
theorem steps_cons (s : Lens) (l : List Lens) (t : Typ) : Lens.steps (s :: l) t = if (Lens.at1 s t).2 ≠ 0 then (.mk 0 0 0 [] [] [], (Lens.at1 s t).2) else if (Lens.at1 s t).1.right = false then (.mk 0 0 0 [] [] [], 2) else Lens.steps l (Lens.at1 s t).1 := by rw [Lens.steps]
theorem steps_append : ∀ (l m : List Lens) (t : Typ), (Lens.steps (l ++ m) t).2 = 0 → (Lens.steps l t).2 = 0 ∧ Lens.steps (l ++ m) t = Lens.steps m (Lens.steps l t).1
  | [], _, _, h => ⟨rfl, rfl⟩
  | s :: l, m, t, h => by
    rw [List.cons_append, steps_cons] at h
    rw [List.cons_append, steps_cons, steps_cons]
    by_cases h1 : (Lens.at1 s t).2 = 0
    · simp only [h1, ne_eq, not_true_eq_false, if_false] at h ⊢
      cases h2 : (Lens.at1 s t).1.right with
      | false => rw [h2, if_pos rfl] at h; cases h
      | true =>
        rw [h2] at h
        simp only [Bool.true_eq_false, if_false] at h ⊢
        exact steps_append l m _ h
    · rw [if_pos h1] at h; exact absurd h h1
theorem steps_one {s : Lens} {l : List Lens} {t : Typ} (h : (Lens.steps (s :: l) t).2 = 0) : (Lens.at1 s t).2 = 0 ∧ (Lens.at1 s t).1.right = true ∧ Lens.steps (s :: l) t = Lens.steps l (Lens.at1 s t).1 := by
  rw [steps_cons] at h ⊢
  by_cases h1 : (Lens.at1 s t).2 = 0
  · simp only [h1, ne_eq, not_true_eq_false, if_false] at h ⊢
    cases h2 : (Lens.at1 s t).1.right with
    | false => rw [h2, if_pos rfl] at h; cases h
    | true => exact ⟨trivial, rfl, by simp⟩
  · rw [if_pos h1] at h; exact absurd h h1
theorem steps_kind : ∀ (l : List Lens) (t : Typ), t.right = true → t.kind = 1 → (Lens.steps l t).2 = 0 → (Lens.steps l t).1.kind = 1
  | [], _, _, hk, _ => hk
  | s :: l, t, ht, hk, h => by
    obtain ⟨h1, h2, h3⟩ := steps_one h
    rw [h3] at h ⊢
    exact steps_kind l _ h2 (Lens.at1_fit s t ht hk h1).2 h
/-- It comes to an end, with what is of a type. -/
def Goes (r : Option (Flds × WS)) (t : Typ) (c K : Nat) (f : Flds) (w : WS) : Prop := ∃ f' w', r = some (f', w') ∧ RecOk (w'.err = 0) t f' c ∧ Td f' w' ∧ Gr K (fsize f) (fsize f') w w' ∧ (w.err ≠ 0 → w'.err ≠ 0)
theorem Goes.bind {r : Option (Flds × WS)} {F : Flds × WS → Option (Flds × WS)} {t u : Typ} {c K L : Nat} {f : Flds} {w : WS} (h : Goes r t c K f w) (h2 : ∀ f' w', RecOk (w'.err = 0) t f' c → Td f' w' → Gr K (fsize f) (fsize f') w w' → Goes (F (f', w')) u c L f' w') : Goes (r.bind F) u c (K + L) f w := by
  obtain ⟨f1, w1, rfl, h3, h4, h5, h6⟩ := h
  obtain ⟨f2, w2, h7, h8, h9, h10, h11⟩ := h2 f1 w1 h3 h4 h5
  exact ⟨f2, w2, h7, h8, h9, h5.trans h10, fun he => h11 (h6 he)⟩
theorem wOk_of {e : Prop} {t : Typ} {f : Flds} {c K : Nat} {w : WS} {st : List Int} {ks : List Str} (ht : t.right = true) (h : RecOk e t f c) (hd : Td f w) (hr : Room K (fsize f) w) (hst : st.length ≤ 1000) (hks : ks.length ≤ 1000) : WOk f w st ks := by
  obtain ⟨h1, h2, h3⟩ := hr
  refine ⟨h.srt, by have := h.len ht; omega, fun p hp => ⟨?_, Doc.tidy_fit (hd.flds p hp) (by have := fsize_mem hp; omega)⟩, ⟨by omega, fun x hx => ?_⟩, ⟨by omega, hd.needs⟩, hst, hks⟩
  · have := h.small ht p.1 (List.mem_map_of_mem hp); omega
  · obtain ⟨h4, h5, h6⟩ := hd.res x hx
    exact ⟨h4, h5, Doc.tidy_fit h6 (by have := rsize_mem hx; omega)⟩
theorem fsize_fOf {x : Doc} {k : Int} (h : OkKeys k x) : fsize (fOf x) + 1 = x.size := by
  rw [fOf_srted h.2.2.2.2.1, fsize_sizes, zip_snd h.2.2.2.1, Doc.size_kids]
theorem size_recOf (f : Flds) : (recOf f).size = fsize f + 1 := by rw [fsize_sizes, Doc.size_kids]; rfl
theorem tidy_recOf {f : Flds} (h : ∀ p ∈ f, p.2.tidy) : (recOf f).tidy := (Doc.tidy_iff _).2 ⟨by show (f.map (·.1)).length ≤ (f.map (·.2)).length; simp, fun x hx => by
  obtain ⟨p, hp, rfl⟩ := List.mem_map.1 (show x ∈ f.map (·.2) from hx)
  exact h p hp⟩
theorem tidy_fOf {x : Doc} {k : Int} (h : OkKeys k x) (hx : x.tidy) : ∀ p ∈ fOf x, p.2.tidy := fun p hp => by
  rw [fOf_srted h.2.2.2.2.1] at hp
  have : p.2 ∈ x.kids := by rw [← zip_snd h.2.2.2.1]; exact List.mem_map_of_mem hp
  exact ((Doc.tidy_iff x).1 hx).2 _ this
theorem fdel_sub {s : Str} {l : Flds} {p : Str × Doc} (h : p ∈ fdel s l) : p ∈ l := (List.mem_filter.1 h).1
theorem fsize_put {s : Str} {d : Doc} {f : Flds} (h : FSrt f) : fsize (fput s d f) = d.size + fsize (fdel s f) := fsize_perm (fput_over h)
theorem fsize_take {s : Str} {d : Doc} {f : Flds} (h : FSrt f) (hs : fget s f = some d) : fsize f = d.size + fsize (fdel s f) := fsize_perm (fdel_perm h hs)
theorem tidy_put {s : Str} {d : Doc} {f : Flds} (h : ∀ p ∈ f, p.2.tidy) (hd : d.tidy) : ∀ p ∈ fput s d f, p.2.tidy := fun p hp => by
  rcases fput_mem hp with rfl | hp
  · exact hd
  · exact h p hp
theorem fOk_of {e : Prop} {t : Typ} {f : Flds} {c : Nat} (ht : t.right = true) (h : RecOk e t f c) (hd : ∀ p ∈ f, p.2.tidy) (hz : fsize f ≤ 1000000) : FOk f :=
  ⟨by have := h.len ht; omega, fun p hp => ⟨by have := h.small ht p.1 (List.mem_map_of_mem hp); omega, Doc.tidy_fit (hd p hp) (by have := fsize_mem hp; omega)⟩⟩
/-- The entries of a dictionary, one behind the other. -/
theorem folds {F : Str → Flds → WS → Option (Flds × WS)} {u u' : Typ} {K : Nat} (hu : u.right = true) (huk : u.kind = 1) (hu' : u'.right = true) (huk' : u'.kind = 1)
    (hF : ∀ (s : Str) (g : Flds) (w : WS) (c : Nat), RecOk (w.err = 0) u g c → Td g w → Room (K * (c + 1)) (fsize g) w → Goes (F s g w) u' c (K * (c + 1)) g w) :
    ∀ (l : List (Str × Doc)) (w : WS) (n : Nat), LShape (w.err = 0) u (l.map (·.2)) n → Td l w → Room (K * n) (fsize l) w →
      ∃ ds w', foldKids F l w = some (ds, w') ∧ ds.length = l.length ∧ LShape (w'.err = 0) u' ds n ∧ (∀ d ∈ ds, d.tidy) ∧ (∀ x ∈ w'.res, x.step.length ≤ 1000000 ∧ x.at_.length ≤ 1000000 ∧ x.doc.tidy) ∧ (∀ x ∈ w'.needs, x.fit) ∧ Gr (K * n) (fsize l) (Doc.sizes ds) w w' ∧ (w.err ≠ 0 → w'.err ≠ 0)
  | [], w, n, h, hd, hr => by
    cases h
    exact ⟨[], w, rfl, rfl, .nil, nofun, hd.res, hd.needs, ⟨Nat.le_add_right _ _, Nat.le_add_right _ _, Nat.le_add_right _ _⟩, fun h => h⟩
  | (s, d) :: l, w, n, h, hd, hr => by
    cases h with
    | @cons _ _ _ c m hx hl =>
      obtain ⟨c1, rfl, ho, hrec⟩ := hx.open huk
      have hdt := hd.flds (s, d) (List.mem_cons_self ..)
      have hsz : fsize (fOf d) + 1 = d.size := fsize_fOf ho
      have hK : K * (c1 + 1 + m) = K * (c1 + 1) + K * m := Nat.mul_add _ _ _
      rw [hK] at hr
      have hfl : fsize ((s, d) :: l) = d.size + fsize l := rfl
      rw [hfl] at hr
      obtain ⟨g', w1, h1, h2, h3, h4, h5⟩ := hF s (fOf d) w c1 hrec ⟨tidy_fOf ho hdt, hd.res, hd.needs⟩ (hr.mono (Nat.le_add_right _ _) (by omega))
      have he : w1.err = 0 → w.err = 0 := fun e => Decidable.byContradiction fun e2 => h5 e2 e
      have hr1 : Room (K * m) (fsize l) w1 := by
        obtain ⟨a1, a2, a3⟩ := hr
        obtain ⟨b1, b2, b3⟩ := h4
        exact ⟨by omega, by omega, by omega⟩
      obtain ⟨ds, w2, g1, g2, g3, g4, g5, g6, g7, g8⟩ := folds hu huk hu' huk' hF l w1 m (hl.mono he) ⟨fun p hp => hd.flds p (List.mem_cons_of_mem _ hp), h3.res, h3.needs⟩ hr1
      refine ⟨recOf g' :: ds, w2, ?_, by rw [List.length_cons, List.length_cons, g2], .cons ((h2.shape hu' huk').mono fun e => Decidable.byContradiction fun e2 => g8 e2 e) g3, fun x hx => ?_, g5, g6, ?_, fun e => g8 (h5 e)⟩
      · unfold foldKids
        rw [if_pos ho, h1]
        simp only [Option.bind_some]
        rw [if_pos (fOk_of hu' h2 h3.flds (by have := h4.size; have := hr.size; omega)), g1]; rfl
      · rcases List.mem_cons.1 hx with rfl | hx
        · exact tidy_recOf h3.flds
        · exact g4 x hx
      · rw [hK, hfl, Doc.sizes, size_recOf]
        obtain ⟨b1, b2, b3⟩ := h4
        obtain ⟨a1, a2, a3⟩ := g7
        exact ⟨by omega, by omega, by omega⟩
section
variable (cv : Doc → List (Int × Int) → Doc) (ed : Int) (bk : Bool)
/-- What a step does, by what it is in its way. -/
noncomputable def wbody (n : Int) (a b : Str) (ty : Typ) (d : Doc) (sw : List (Int × Int)) (subs : List Lens) (st : List Int) (ks : List Str) (f : Flds) (w : WS) : Option (Flds × WS) :=
  open Classical in
  if ¬ WOk f w st ks ∨ 256 < a.size then none else
  if n = 1 then (if 256 < b.size then none else match fget a f with
    | none => some (f, w)
    | some x => some (fput b x (fdel a f), w)) else
  if n = 2 then (if ¬ (ty.fit ∧ d.fit) then none else match resGet w.res ed st ks with
    | none => some (fput a d f, ⟨w.res, resPut w.needs ⟨ed, st, ks, d⟩, w.err⟩)
    | some y => some (fput a y.doc f, ⟨resDrop w.res ed st ks, resPut w.needs ⟨ed, st, ks, d⟩, if isOf ty y.doc then w.err else 8⟩)) else
  match fget a f with
  | none => none
  | some x =>
    if n = 3 then some (fdel a f, ⟨resPut w.res ⟨ed, st, ks, x⟩, w.needs, w.err⟩) else
    if n = 4 then (if ¬ OkKeys 1 x ∨ 256 < b.size ∨ a = b then none else match fget b (fOf x) with
      | none => none
      | some y => some (fput b y (fput a (recOf (fdel b (fOf x))) f), w)) else
    if n = 5 then (if ¬ OkKeys 1 x ∨ 256 < b.size ∨ a = b then none else match fget b f with
      | none => none
      | some y => some (fput a (recOf (fput b y (fOf x))) (fdel b f), w)) else
    if n = 6 then some (fput a (.mk 3 0 ⟨#[]⟩ [] [x]) f, w) else
    if n = 7 then (match x.kids with
      | [] => none
      | y :: _ => some (fput a y f, w)) else
    if n = 8 then some (fput a (cv x sw) f, w) else
    if n = 9 then (if ¬ OkKeys 1 x then none else (wsteps cv ed bk 0 subs st ks (fOf x) w).bind fun p => if FOk p.1 then some (fput a (recOf p.1) f, p.2) else none) else
    if n = 10 then (if ¬ OkKeys 2 x then none else (foldKids (fun s g w => wsteps cv ed bk 0 subs st (ks ++ [s]) g w) (x.keys.zip x.kids) w).bind fun p => some (fput a (.mk 2 0 ⟨#[]⟩ x.keys p.1) f, p.2)) else none
theorem wstep_body (k : Int) (a b : Str) (ty : Typ) (d : Doc) (sw : List (Int × Int)) (subs : List Lens) (st : List Int) (ks : List Str) (f : Flds) (w : WS) :
    wstep cv ed bk (.mk k a b ty d sw subs) st ks f w = wbody cv ed bk (turnK bk k) (turnA bk k a b) (turnB bk k a b) ty d sw subs st ks f w := by rw [wstep]; rfl
end
theorem fdel_comm (a b : Str) (l : Flds) : fdel a (fdel b l) = fdel b (fdel a l) := by
  unfold fdel
  rw [List.filter_filter, List.filter_filter]
  exact List.filter_congr fun x _ => Bool.and_comm _ _
theorem fsrt_zip : ∀ {ks : List Str} {a b : List Doc}, FSrt (ks.zip a) → a.length = ks.length → b.length = ks.length → FSrt (ks.zip b) := fun {ks a b} h ha hb => by
  have h1 : (ks.zip a).map (·.1) = ks := zip_fst ha.symm
  have h2 : (ks.zip b).map (·.1) = ks := zip_fst hb.symm
  have h3 : ((ks.zip a).map (·.1)).Pairwise fun x y => sLt x y = true := List.pairwise_map.2 h
  rw [h1, ← h2] at h3
  exact List.pairwise_map.1 h3
section
variable {cv : Doc → List (Int × Int) → Doc} {ed : Int} {bk : Bool}
/-- What a lens's steps do, stated. -/
def StepsGo (cv : Doc → List (Int × Int) → Doc) (ed : Int) (bk : Bool) (l : List Lens) : Prop := ∀ (i : Int) (t : Typ) (f : Flds) (w : WS) (c : Nat) (st : List Int) (ks : List Str), t.right = true → t.kind = 1 → (Lens.steps (effs bk l) t).2 = 0 → RecOk (w.err = 0) t f c → Td f w →
  Room (Lens.size l * (c + 1)) (fsize f) w → st.length + Lens.size l ≤ 1000 → ks.length + Lens.size l ≤ 1000 → Goes (wsteps cv ed bk i l st ks f w) (Lens.steps (effs bk l) t).1 c (Lens.size l * (c + 1)) f w
theorem step_goes (hcv : CvOk cv) (s : Lens) (hsub : StepsGo cv ed bk s.subs) (t : Typ) (f : Flds) (w : WS) (c : Nat) (st : List Int) (ks : List Str) (ht : t.right = true) (hk : t.kind = 1) (h0 : (Lens.at1 (eff bk s) t).2 = 0) (hr : (Lens.at1 (eff bk s) t).1.right = true)
    (h : RecOk (w.err = 0) t f c) (hd : Td f w) (hm : Room ((1 + Lens.size1 s) * (c + 1)) (fsize f) w) (hst : st.length + Lens.size1 s ≤ 1000) (hks : ks.length + Lens.size1 s + 1 ≤ 1000) :
    Goes (wstep cv ed bk s st ks f w) (Lens.at1 (eff bk s) t).1 c ((1 + Lens.size1 s) * (c + 1)) f w := by
  have hsr := right_srt ht
  have hwok := wOk_of ht h hd hm (st := st) (ks := ks) (by omega) (by omega)
  have hK1 : 1 ≤ (1 + Lens.size1 s) * (c + 1) := Nat.le_trans (by omega : 1 ≤ 1 * 1) (Nat.mul_le_mul (Nat.le_add_right _ _) (Nat.le_add_left _ _))
  have hK2 : Lens.size1 s * (c + 1) ≤ (1 + Lens.size1 s) * (c + 1) := Nat.mul_le_mul_right _ (Nat.le_add_left _ _)
  have hK3 : Lens.size s.subs = Lens.size1 s := by cases s; rfl
  obtain ⟨k, a0, b0, ty, d, sw, subs⟩ := s
  obtain ⟨p1, p2, p3, p4, p5, p6, p7⟩ := eff_parts bk k a0 b0 ty d sw subs
  generalize eff bk (.mk k a0 b0 ty d sw subs) = q at *
  generalize hK : (1 + Lens.size1 (.mk k a0 b0 ty d sw subs)) * (c + 1) = K at *
  generalize hZ : Lens.size1 (.mk k a0 b0 ty d sw subs) = Z at *
  rw [wstep_body, ← p1, ← p2, ← p3]
  unfold wbody
  rw [← p1] at p7
  have fin : ∀ {f' : Flds} {w' : WS} {t' : Typ} {c' : Nat}, c' = c → RecOk (w'.err = 0) t' f' c' → (∀ p ∈ f', p.2.tidy) → (∀ x ∈ w'.res, x.step.length ≤ 1000000 ∧ x.at_.length ≤ 1000000 ∧ x.doc.tidy) → (∀ x ∈ w'.needs, x.fit) → Gr K (fsize f) (fsize f') w w' → (w.err ≠ 0 → w'.err ≠ 0) → Goes (some (f', w')) t' c K f w :=
    fun e h1 h2 h3 h4 h5 h6 => ⟨_, _, rfl, e ▸ h1, ⟨h2, h3, h4⟩, h5, h6⟩
  have same : ∀ {f' : Flds}, fsize f' ≤ fsize f + K → Gr K (fsize f) (fsize f') w w := fun h1 => ⟨by omega, by omega, by omega⟩
  by_cases k2 : q.kind = 2
  · rw [Lens.at1_add k2] at h0 hr ⊢
    have ha : q.a.size ≤ 16 ∧ t.find q.a = none ∧ q.typ.right = true ∧ scalarB q.typ = true ∧ isOf q.typ q.doc = true := by
      simp only [addE, scalarE] at h0
      cases hn : nameOk q.a with
      | false => rw [hn, if_pos rfl] at h0; cases h0
      | true =>
        rw [hn, if_neg (by decide)] at h0
        cases hf : t.find q.a with
        | some g => rw [hf] at h0; simp at h0
        | none =>
          rw [hf] at h0
          simp only [Option.isSome_none, Bool.false_eq_true, if_false] at h0
          cases h1 : (q.typ.right && scalarB q.typ) with
          | false => rw [h1, if_pos rfl] at h0; cases h0
          | true =>
            rw [h1, if_neg (by decide)] at h0
            cases h2 : isOf q.typ q.doc with
            | false => rw [h2, if_pos rfl] at h0; cases h0
            | true =>
              simp only [Bool.and_eq_true] at h1
              simp only [nameOk, Bool.and_eq_true, decide_eq_true_eq] at hn
              exact ⟨hn.1.2, rfl, h1.1, h1.2, rfl⟩
    obtain ⟨ha1, ha2, ha3, ha4, ha5⟩ := ha
    have hdr : q.doc.right = true := by
      simp only [isOf, bothRight, Bool.and_eq_true] at ha5; exact ha5.1.2
    have hdf := Doc.right_fit hdr
    have htf := Typ.right_fit ha3
    have hdz : q.doc.size = 1 := by
      have h1 := ha5
      simp only [isOf, Bool.and_eq_true, decide_eq_true_eq] at h1
      have h2 := h1.2
      rw [show (12 : Nat) = 11 + 1 from rfl, errs, List.append_eq_nil_iff] at h2
      have h3 : fitsE q.typ q.doc = 0 := by
        by_cases h3 : fitsE q.typ q.doc = 0
        · exact h3
        · rw [if_neg h3] at h2; exact absurd h2.1 (by simp)
      have h4 : kindsOk q.typ q.doc = true := by
        cases h4 : kindsOk q.typ q.doc with
        | true => rfl
        | false => unfold fitsE at h3; rw [h4, if_pos rfl] at h3; cases h3
      simp only [scalarB, Bool.and_eq_true, decide_eq_true_eq] at ha4
      have h5 : 4 ≤ q.doc.kind := by
        unfold kindsOk at h4
        split at h4
        · have := beq_iff_eq.1 h4; omega
        · have := beq_iff_eq.1 h4; omega
      have h6 := (Doc.right_parts hdr).2.2
      rw [Doc.part_kids, Bool.and_eq_true, Bool.and_eq_true] at h6
      have h7 := h6.1.1
      unfold plain at h7
      have h8 : q.doc.kids = [] := by
        repeat' split at h7
        all_goals first
          | (exfalso; omega)
          | (simp only [Bool.and_eq_true, decide_eq_true_eq, Bool.false_eq_true] at h7; first | exact List.eq_nil_of_length_eq_zero (by omega) | done)
      rw [Doc.size_kids, h8]; rfl
    rw [if_neg (by rw [not_or, Classical.not_not]; exact ⟨hwok, by omega⟩), if_neg (by omega), if_pos k2, ← p4, ← p5, if_neg (by rw [Classical.not_not]; exact ⟨htf, hdf⟩)]
    have hfw := fun s => Typ.find_with hk hsr (g := .mk q.a false q.typ) (Typ.find_none hk hsr ha2) s
    have hmiss := h.miss ha2
    have hnd : ∀ x ∈ resPut w.needs ⟨ed, st, ks, q.doc⟩, x.fit := fun x hx => by
      rcases resPut_mem hx with rfl | hx
      · exact ⟨by simp only; omega, by simp only; omega, hdf⟩
      · exact hd.needs x hx
    have hnl := (resPut_size w.needs ⟨ed, st, ks, q.doc⟩).2
    have hfs : ∀ y : Doc, fsize (fput q.a y f) = y.size + fsize f := fun y => by rw [fsize_put h.srt, fdel_none hmiss]
    cases hg : resGet w.res ed st ks with
    | none =>
      refine fin (Nat.zero_add c) (h.add_ ha2 hfw (.leaf ha4 fun _ => ha5)) (tidy_put hd.flds (Doc.right_tidy hdr)) hd.res hnd ⟨?_, Nat.le_add_right _ _, ?_⟩ fun e => e
      · rw [hfs]; simp only; omega
      · simp only; omega
    | some y =>
      obtain ⟨hy1, hy2⟩ := resGet_some hg
      have hyt := (hd.res y hy1).2.2
      have hee : (if isOf q.typ y.doc = true then w.err else 8) = 0 → w.err = 0 ∧ isOf q.typ y.doc = true := fun e => by
        split at e
        · rename_i hi; exact ⟨e, hi⟩
        · cases e
      refine fin (Nat.zero_add c) ((h.mono fun e => (hee e).1).add_ ha2 hfw (.leaf ha4 fun e => (hee e).2)) (tidy_put hd.flds hyt) (fun x hx => hd.res x (List.mem_filter.1 hx).1) hnd ⟨?_, ?_, ?_⟩ fun e => ?_
      · rw [hfs]; simp only; omega
      · have := List.length_filter_le (fun x => !(resLess x (placeRes ed st ks) == 0)) w.res
        simp only [resDrop]; omega
      · simp only; omega
      · simp only; split
        · exact e
        · decide
  by_cases hb : q.kind < 1 ∨ 10 < q.kind
  · rw [Lens.at1_bad hb] at h0; cases h0
  cases hf : t.find q.a with
  | none => rw [Lens.at1_miss k2 hb hf] at h0; cases h0
  | some g =>
    rw [Lens.at1_some k2 hb hf] at h0 hr ⊢
    obtain ⟨hgn, hgm, _⟩ := Typ.find_name hf
    have hgr := Typ.right_fld ht hgm
    have ha1 := Typ.right_name ht hf
    by_cases h7 : g.opt = true ∧ q.kind ≠ 1
    · rw [if_pos h7] at h0; cases h0
    rw [if_neg h7] at h0 hr ⊢
    rw [if_neg (by rw [not_or, Classical.not_not]; exact ⟨hwok, by omega⟩)]
    by_cases k1 : q.kind = 1
    · rw [if_pos k1] at h0 hr ⊢
      rw [if_pos k1]
      have hbb : q.b.size ≤ 16 ∧ t.find q.b = none := by
        simp only [renameE] at h0
        cases hn : nameOk q.b with
        | false => rw [hn, if_pos rfl] at h0; cases h0
        | true =>
          rw [hn, if_neg (by decide)] at h0
          cases hfb : t.find q.b with
          | some g => rw [hfb] at h0; simp at h0
          | none =>
            simp only [nameOk, Bool.and_eq_true, decide_eq_true_eq] at hn
            exact ⟨hn.1.2, rfl⟩
      obtain ⟨hb1, hb2⟩ := hbb
      have hab : q.b ≠ q.a := fun e => by rw [e, hf] at hb2; cases hb2
      have hfw0 := fun s => Typ.find_without hk hsr q.a s
      have hfw := fun s => Typ.find_with (t := t.without q.a) rfl (Typ.without_srt q.a hsr) (g := .mk q.b g.opt g.typ) (fun x hx e => Typ.find_none hk hsr hb2 x (List.mem_filter.1 hx).1 e) s
      rw [if_neg (by omega)]
      cases hgf : fget q.a f with
      | none =>
        simp only
        refine fin rfl ⟨h.srt, h.flds.turn fun s hs => ?_, fun s x hs ho => ?_⟩ hd.flds hd.res hd.needs (same (Nat.le_add_right _ _)) fun e => e
        · have h1 : s ≠ q.a := by rintro rfl; exact fget_none.1 hgf hs
          have h2 : s ≠ q.b := by
            rintro rfl
            obtain ⟨y, hy⟩ := h.flds.named _ hs
            rw [hb2] at hy; cases hy
          rw [hfw]; show (if s = q.b then _ else _) = _
          rw [if_neg h2, hfw0, if_neg h1]
        · rw [hfw] at hs
          change (if s = q.b then _ else _) = _ at hs
          split at hs
          · cases hs
            exact absurd hgf (h.need _ _ hf ho)
          · rw [hfw0] at hs
            split at hs
            · cases hs
            · exact h.need s x hs ho
      | some x =>
        simp only
        obtain ⟨g', a, b, h1, h2, h3, h4⟩ := h.take hgf
        rw [hf] at h1; cases h1
        have hdel := h.del_ (t' := t.without q.a) h3 hfw0
        have hb3 : (t.without q.a).find q.b = none := by rw [hfw0, if_neg hab, hb2]
        refine fin h4.symm (hdel.add_ hb3 (g := .mk q.b g.opt g.typ) (fun s => hfw s) h2) (tidy_put (fun p hp => hd.flds p (fdel_sub hp)) (hd.flds _ (fget_mem hgf))) hd.res hd.needs (same ?_) fun e => e
        rw [fsize_put h.srt.del, fdel_none (hdel.miss hb3), ← fsize_take h.srt hgf]; omega
    have ho : g.opt = false := by
      cases ho : g.opt with
      | false => rfl
      | true => exact absurd ⟨ho, k1⟩ h7
    have hgeta : g = .mk q.a false g.typ := by cases g; rw [← hgn, ← ho]; rfl
    rw [if_neg k1] at h0 hr ⊢
    rw [if_neg k1, if_neg k2]
    obtain ⟨x, ca, cb, hgf, hx, hfd, hc⟩ := h.there hf ho
    have hxt := hd.flds _ (fget_mem hgf)
    have hsz := fsize_take h.srt hgf
    have hfs : ∀ y : Doc, fsize (fput q.a y f) = y.size + fsize (fdel q.a f) := fun y => fsize_put h.srt
    have hset := fun ty s => Typ.find_set hk hsr q.a ty s
    rw [hgf]
    simp only
    by_cases k3 : q.kind = 3
    · rw [if_pos k3] at h0 hr ⊢
      rw [if_pos k3]
      have hsc : scalarB g.typ = true := by
        simp only [removeE, scalarE] at h0
        cases h1 : Typ.same g.typ q.typ with
        | false => rw [h1, if_pos rfl] at h0; cases h0
        | true =>
          rw [h1, if_neg (by decide)] at h0
          rw [Typ.same_eq _ _ h1]
          cases h2 : scalarB q.typ with
          | true => rfl
          | false => rw [h2, Bool.and_false, if_pos rfl] at h0; cases h0
      obtain ⟨rfl, _⟩ := hx.scalar hsc
      have hrp := resPut_size w.res ⟨ed, st, ks, x⟩
      refine fin (by omega) (h.del_ hfd fun s => Typ.find_without hk hsr q.a s) (fun p hp => hd.flds p (fdel_sub hp)) (fun y hy => ?_) hd.needs ⟨?_, ?_, Nat.le_add_right _ _⟩ fun e => e
      · rcases resPut_mem hy with rfl | hy
        · exact ⟨by simp only; omega, by simp only; omega, hxt⟩
        · exact hd.res y hy
      · have := hrp.1; simp only at this ⊢; omega
      · have := hrp.2; simp only; omega
    rw [if_neg k3] at h0 hr ⊢
    rw [if_neg k3]
    by_cases k4 : q.kind = 4
    · rw [if_pos k4] at h0 hr ⊢
      rw [if_pos k4]
      simp only [hoistE, hoistT] at h0 hr ⊢
      by_cases hk1 : g.typ.kind = 1
      · rw [if_neg (by omega)] at h0
        obtain ⟨c1, rfl, hok, hrec⟩ := hx.open hk1
        cases hfb : g.typ.find q.b with
        | none => rw [hfb] at h0; cases h0
        | some o =>
          rw [hfb] at h0 hr
          simp only at h0 hr ⊢
          cases hoo : o.opt with
          | true => rw [hoo, if_pos rfl] at h0; cases h0
          | false =>
            rw [hoo, if_neg (by decide)] at h0
            have hb2 : t.find q.b = none := by
              cases hb2 : t.find q.b with
              | none => rfl
              | some _ => rw [hb2] at h0; simp at h0
            have hab : q.a ≠ q.b := fun e => by rw [← e, hf] at hb2; cases hb2
            have hbs := Typ.right_name hgr hfb
            obtain ⟨hon, _, _⟩ := Typ.find_name hfb
            obtain ⟨y, cy, m, hyf, hy, hyd, hc1⟩ := hrec.there hfb hoo
            rw [if_neg (by rw [not_or, not_or, Classical.not_not]; exact ⟨hok, by omega, hab⟩), hyf]
            simp only
            have hgs := right_srt hgr
            have hin : RecOk (w.err = 0) (g.typ.without q.b) (fdel q.b (fOf x)) m := hrec.del_ hyd fun s => Typ.find_without hk1 hgs q.b s
            have hwr : (g.typ.without q.b).right = true := by
              have hm1 : Fld.mk q.a false (g.typ.without q.b) ∈ ((t.set q.a (g.typ.without q.b)).with_ o).fields := by
                have h1 := (Typ.find_name (t := (t.set q.a (g.typ.without q.b)).with_ o) (s := q.a) (f := .mk q.a false (g.typ.without q.b)) (by
                  rw [Typ.find_with rfl (set_srt q.a hsr) (fun x hx e => by
                    have := (Typ.find_iff rfl (set_srt q.a hsr) (s := o.name) (f := x)).2 ⟨hx, e⟩
                    rw [hset, hon, if_neg hab.symm, hb2] at this; cases this), hon, if_neg hab, hset, if_pos rfl])).2.1
                exact h1
              exact Typ.right_fld hr hm1
            have h1 := h.set_ (t' := t.set q.a (g.typ.without q.b)) hfd (hset _) (hin.shape hwr rfl)
            have hb3 : (t.set q.a (g.typ.without q.b)).find q.b = none := by rw [hset, if_neg hab.symm, hb2]
            have h2 := h1.add_ (t' := (t.set q.a (g.typ.without q.b)).with_ o) (g := o) hb3 (fun s => by
              rw [Typ.find_with rfl (set_srt q.a hsr) (fun x hx e => Typ.find_none rfl (set_srt q.a hsr) hb3 x hx (e.trans hon)), hon]) hy
            have hsx := fsize_fOf hok
            have hsy := fsize_take hrec.srt hyf
            refine fin (by omega) h2 (tidy_put (tidy_put hd.flds (tidy_recOf fun p hp => tidy_fOf hok hxt p (fdel_sub hp))) (tidy_fOf hok hxt _ (fget_mem hyf))) hd.res hd.needs (same ?_) fun e => e
            rw [fsize_put h1.srt, fdel_none (h1.miss hb3), hfs, size_recOf]; omega
      · rw [if_pos hk1] at h0; cases h0
    rw [if_neg k4] at h0 hr ⊢
    rw [if_neg k4]
    by_cases k5 : q.kind = 5
    · rw [if_pos k5] at h0 hr ⊢
      rw [if_pos k5]
      simp only [plungeE, plungeT] at h0 hr ⊢
      cases hfb : t.find q.b with
      | none => rw [hfb] at h0; cases h0
      | some o =>
        rw [hfb] at h0 hr
        simp only at h0 hr ⊢
        by_cases h8 : o.opt = true ∨ g.typ.kind ≠ 1 ∨ q.a = q.b
        · rw [if_pos h8] at h0; cases h0
        rw [if_neg h8] at h0
        rw [not_or, not_or, Classical.not_not] at h8
        obtain ⟨hoo, hk1, hab⟩ := h8
        have hoo : o.opt = false := by simpa using hoo
        have hin0 : g.typ.find q.b = none := by
          cases hb2 : g.typ.find q.b with
          | none => rfl
          | some _ => rw [hb2] at h0; simp at h0
        obtain ⟨c1, rfl, hok, hrec⟩ := hx.open hk1
        have hbs := Typ.right_name ht hfb
        obtain ⟨hon, hom, _⟩ := Typ.find_name hfb
        obtain ⟨y, _, _, hyf, _⟩ := h.there hfb hoo
        rw [if_neg (by rw [not_or, not_or, Classical.not_not]; exact ⟨hok, by omega, hab⟩), hyf]
        simp only
        have hgs := right_srt hgr
        have hyf2 : fget q.b (fdel q.a f) = some y := by rw [fget_del, if_neg fun e => hab e.symm, hyf]
        have hgf2 : fget q.a (fdel q.b f) = some x := by rw [fget_del, if_neg hab, hgf]
        obtain ⟨o2, cy, m, e2, hy, hmm, hcb⟩ := (hfd.perm (fdel_perm h.srt.del hyf2)).uncons
        rw [hfb] at e2; cases e2
        have hcm := fdel_comm q.a q.b f
        have hin : RecOk (w.err = 0) (g.typ.with_ o) (fput q.b y (fOf x)) (cy + c1) := hrec.add_ hin0 (fun s => by
          rw [Typ.find_with hk1 hgs (fun x hx e => Typ.find_none hk1 hgs hin0 x hx (e.trans hon)), hon]) hy
        have hfb' : FShape (w.err = 0) t (fdel q.b f) (c1 + 1 + m) := FShape.perm (fdel_perm h.srt.del hgf2).symm (.cons hf hx (hcm ▸ hmm))
        have hdel := h.del_ (t' := t.without q.b) hfb' fun s => Typ.find_without hk hsr q.b s
        have hT : ∀ s, ((t.set q.a (g.typ.with_ o)).without q.b).find s = if s = q.a then some (.mk q.a false (g.typ.with_ o)) else (t.without q.b).find s := fun s => by
          rw [Typ.find_without rfl (set_srt q.a hsr), hset, Typ.find_without hk hsr]
          by_cases h1 : s = q.a
          · rw [if_pos h1, if_pos h1, if_neg (by rw [h1]; exact hab)]
          · rw [if_neg h1, if_neg h1]
        have hwr : (g.typ.with_ o).right = true := Typ.right_fld hr (Typ.find_name (t := (t.set q.a (g.typ.with_ o)).without q.b) (s := q.a) (f := .mk q.a false (g.typ.with_ o)) (by rw [hT, if_pos rfl])).2.1
        have h9 := hdel.set_ (t' := (t.set q.a (g.typ.with_ o)).without q.b) (b := m) (by
          rw [hcm]
          exact hmm.turn fun s hs => by rw [Typ.find_without hk hsr, if_neg (fdel_names hs).1]) hT (hin.shape hwr rfl)
        have hsx := fsize_fOf hok
        have hsy := fsize_take h.srt.del hyf2
        refine fin (by omega) h9 (tidy_put (fun p hp => hd.flds p (fdel_sub hp)) (tidy_recOf (tidy_put (fun p hp => tidy_fOf hok hxt p hp) (hd.flds _ (fget_mem hyf))))) hd.res hd.needs (same ?_) fun e => e
        rw [fsize_put h.srt.del, size_recOf, fsize_put hrec.srt, fdel_none (hrec.miss hin0), hcm]; omega
    rw [if_neg k5] at h0 hr ⊢
    rw [if_neg k5]
    by_cases k6 : q.kind = 6
    · rw [if_pos k6] at h0 hr ⊢
      rw [if_pos k6]
      refine fin hc.symm (h.set_ hfd (hset _) (.list rfl ⟨rfl, rfl, rfl, rfl⟩ (LShape.one.2 hx) ⟨by simp [Typ.lo, Doc.kids], by simp [Typ.hi, Doc.kids]⟩)) (tidy_put hd.flds ((Doc.tidy_iff _).2 ⟨Nat.zero_le _, fun z hz => ?_⟩)) hd.res hd.needs (same ?_) fun e => e
      · rw [List.mem_singleton.1 hz]; exact hxt
      · rw [hfs, Doc.size_kids]; simp only [Doc.kids, Doc.sizes]; omega
    rw [if_neg k6] at h0 hr ⊢
    rw [if_neg k6]
    by_cases k7 : q.kind = 7
    · rw [if_pos k7] at h0 hr ⊢
      rw [if_pos k7]
      simp only [headE] at h0
      by_cases h8 : g.typ.kind ≠ 3 ∨ g.typ.lo ≠ 1 ∨ g.typ.hi ≠ 1 ∨ scalarB g.typ.of0 = false
      · rw [if_pos h8] at h0; cases h0
      rw [not_or, not_or, not_or, Classical.not_not, Classical.not_not, Classical.not_not] at h8
      obtain ⟨g3, glo, ghi, _⟩ := h8
      obtain ⟨hl, hl1, hl2⟩ := hx.listKids g3
      have hlen : x.kids.length = 1 := by omega
      obtain ⟨y, hy⟩ := List.length_eq_one_iff.1 hlen
      rw [hy] at hl ⊢
      simp only
      refine fin hc.symm (h.set_ hfd (hset _) (LShape.one.1 hl)) (tidy_put hd.flds (((Doc.tidy_iff x).1 hxt).2 y (by rw [hy]; exact List.mem_singleton.2 rfl))) hd.res hd.needs (same ?_) fun e => e
      have := Doc.size_kids x
      rw [hy] at this
      simp only [Doc.sizes] at this
      rw [hfs]; omega
    rw [if_neg k7] at h0 hr ⊢
    rw [if_neg k7]
    by_cases k8 : q.kind = 8
    · rw [if_pos k8] at h0 hr ⊢
      rw [if_pos k8]
      by_cases g4 : g.typ.kind = 4
      · rw [if_neg (by omega)] at h0
        have hsc : scalarB g.typ = true := by simp [scalarB, g4]
        obtain ⟨rfl, hxi⟩ := hx.scalar hsc
        rw [← p6]
        refine fin hc.symm (h.set_ (c1 := 0) (ty := g.typ) hfd (fun s => ?_) (.leaf hsc fun e => hcv.good _ _ _ g4 h0 (hxi e))) (tidy_put hd.flds (hcv.tidy _ _ hxt)) hd.res hd.needs (same ?_) fun e => e
        · show t.find s = _
          by_cases e : s = q.a
          · rw [if_pos e, e, hf, ← hgeta]
          · rw [if_neg e]
        · have := hcv.size x q.swaps; rw [hfs]; omega
      · rw [if_pos g4] at h0; cases h0
    rw [if_neg k8] at h0 hr ⊢
    rw [if_neg k8]
    have hZ2 : Lens.size subs = Z := hK3
    by_cases k9 : q.kind = 9
    · rw [if_pos k9] at h0 hr ⊢
      rw [if_pos k9]
      by_cases g1 : g.typ.kind = 1
      · rw [if_neg (show ¬ (g.typ.kind ≠ 1) by omega)] at h0 hr ⊢
        obtain ⟨c1, rfl, hok, hrec⟩ := hx.open g1
        rw [p7 (.inl k9)] at h0 hr ⊢
        have hsx := fsize_fOf hok
        have hkk : Lens.size subs * (c1 + 1) ≤ K := Nat.le_trans (by rw [hZ2]; exact Nat.mul_le_mul_left _ (by omega)) hK2
        obtain ⟨g', w', e1, e2, e3, e4, e5⟩ := hsub 0 g.typ (fOf x) w c1 st ks hgr g1 h0 hrec ⟨tidy_fOf hok hxt, hd.res, hd.needs⟩ (hm.mono hkk (by omega)) (by show _ + Lens.size subs ≤ _; omega) (by show _ + Lens.size subs ≤ _; omega)
        change wsteps cv ed bk 0 subs st ks (fOf x) w = _ at e1
        rw [if_neg (by rw [Classical.not_not]; exact hok), e1]
        simp only [Option.bind_some]
        rw [if_pos (fOk_of (Lens.steps_right _ _ hgr h0) e2 e3.flds (by have := e4.size; have := hm.size; have : Lens.size (Lens.mk k a0 b0 ty d sw subs).subs * (c1 + 1) ≤ K := hkk; omega))]
        have he : w'.err = 0 → w.err = 0 := fun e => Decidable.byContradiction fun e2 => e5 e2 e
        have e4' : Gr (Lens.size subs * (c1 + 1)) (fsize (fOf x)) (fsize g') w w' := e4
        obtain ⟨a1, a2, a3⟩ := e4'
        refine fin hc.symm ((h.mono he).set_ (hfd.mono he) (hset _) (e2.shape (Lens.steps_right _ _ hgr h0) (steps_kind _ _ hgr g1 h0))) (tidy_put hd.flds (tidy_recOf e3.flds)) e3.res e3.needs ⟨?_, by omega, by omega⟩ e5
        rw [hfs, size_recOf]; omega
      · rw [if_pos g1] at h0; cases h0
    rw [if_neg k9] at h0 hr ⊢
    have k10 : q.kind = 10 := by omega
    rw [if_neg k9, if_pos k10]
    by_cases g2 : g.typ.kind ≠ 2 ∨ g.typ.of0.kind ≠ 1
    · rw [if_pos g2] at h0; cases h0
    rw [if_neg g2] at h0 hr ⊢
    rw [not_or, Classical.not_not, Classical.not_not] at g2
    rw [p7 (.inr k10)] at h0 hr ⊢
    obtain ⟨hok, hl⟩ := hx.dictKids g2.1
    have hor := (Typ.right_one hgr (.inl g2.1)).2
    have hzs := zip_snd hok.2.2.2.1
    have hfz : fsize (x.keys.zip x.kids) + 1 = x.size := by rw [fsize_sizes, hzs, Doc.size_kids]
    have hkk : Lens.size subs * ca ≤ K := Nat.le_trans (by rw [hZ2]; exact Nat.mul_le_mul_left _ (by omega)) hK2
    obtain ⟨ds, w', e1, e2, e3, e4, e5, e6, e7, e8⟩ := folds (F := fun s g w => wsteps cv ed bk 0 subs st (ks ++ [s]) g w) (K := Lens.size subs) hor g2.2 (Lens.steps_right _ _ hor h0) (steps_kind _ _ hor g2.2 h0) (fun s g' w' c' h1 h2 h3 => hsub 0 g.typ.of0 g' w' c' st (ks ++ [s]) hor g2.2 h0 h1 h2 h3 (by show _ + Lens.size subs ≤ _; omega) (by rw [List.length_append, List.length_singleton]; show _ + 1 + Lens.size subs ≤ _; omega))
      (x.keys.zip x.kids) w ca (by rw [hzs]; exact hl) ⟨fun p hp => ((Doc.tidy_iff x).1 hxt).2 _ (by rw [← hzs]; exact List.mem_map_of_mem hp), hd.res, hd.needs⟩ (hm.mono hkk (by omega))
    rw [if_neg (by rw [Classical.not_not]; exact hok), e1]
    simp only [Option.bind_some]
    have he : w'.err = 0 → w.err = 0 := fun e => Decidable.byContradiction fun e2 => e8 e2 e
    obtain ⟨a1, a2, a3⟩ := e7
    have hlk : ds.length = x.keys.length := by rw [e2, List.length_zip, hok.2.2.2.1, Nat.min_self]
    refine fin hc.symm ((h.mono he).set_ (hfd.mono he) (hset _) (.dict rfl ⟨rfl, rfl, rfl, hlk.symm, fsrt_zip hok.2.2.2.2.1 hok.2.2.2.1.symm hlk, hok.2.2.2.2.2⟩ e3)) (tidy_put hd.flds ((Doc.tidy_iff _).2 ⟨by show x.keys.length ≤ ds.length; omega, e4⟩)) e5 e6 ⟨?_, by omega, by omega⟩ e8
    rw [hfs, Doc.size_kids]; simp only [Doc.kids]; omega
theorem steps_go (hcv : CvOk cv) : ∀ (n : Nat) (l : List Lens), Lens.size l ≤ n → StepsGo cv ed bk l
  | _, [], _ => fun i t f w c st ks ht hk h0 h hd hm _ _ => by
    have : effs bk [] = [] := by cases bk <;> rfl
    rw [this]
    unfold wsteps
    exact ⟨f, w, rfl, h, hd, ⟨Nat.le_add_right _ _, Nat.le_add_right _ _, Nat.le_add_right _ _⟩, fun e => e⟩
  | 0, s :: l, hn => by rw [Lens.size] at hn; omega
  | n + 1, s :: l, hn => fun i t f w c st ks ht hk h0 h hd hm hst hks => by
    have hz : Lens.size (s :: l) = 1 + Lens.size1 s + Lens.size l := rfl
    have hzs : Lens.size s.subs = Lens.size1 s := by cases s; rfl
    have hsub := steps_go hcv n s.subs (by omega)
    have hl := steps_go hcv n l (by omega)
    unfold wsteps
    cases bk with
    | false =>
      obtain ⟨h1, h2, h3⟩ := steps_one (s := s) (l := l) h0
      change Goes _ (Lens.steps (s :: l) t).1 _ _ _ _
      rw [h3]
      rw [show (Lens.steps (effs false (s :: l)) t) = _ from h3] at h0
      rw [hz, Nat.add_mul] at hm ⊢
      simp only [Bool.false_eq_true, if_false]
      exact (step_goes hcv s hsub t f w c (st ++ [i]) ks ht hk h1 h2 h hd (hm.mono (Nat.le_add_right _ _) (Nat.le_refl _)) (by rw [List.length_append, List.length_singleton]; omega) (by omega)).bind fun f' w' g1 g2 g3 =>
        hl (i + 1) _ f' w' c st ks h2 (Lens.at1_fit s t ht hk h1).2 h0 g1 g2 (hm.next g3) (by omega) (by omega)
    | true =>
      change (Lens.steps (Lens.back l ++ [s.turn]) t).2 = 0 at h0
      obtain ⟨h1, h2⟩ := steps_append _ _ _ h0
      change Goes _ (Lens.steps (Lens.back l ++ [s.turn]) t).1 _ _ _ _
      rw [h2] at h0 ⊢
      obtain ⟨h3, h4, h5⟩ := steps_one h0
      rw [h5]
      have hr1 := Lens.steps_right _ _ ht h1
      have hk1 := steps_kind _ _ ht hk h1
      rw [hz, Nat.add_mul, Nat.add_comm] at hm ⊢
      simp only [if_true]
      exact (hl (i + 1) t f w c st ks ht hk h1 h hd (hm.mono (Nat.le_add_right _ _) (Nat.le_refl _)) (by omega) (by omega)).bind fun f' w' g1 g2 g3 =>
        step_goes (bk := true) hcv s hsub _ f' w' c (st ++ [i]) ks hr1 hk1 h3 h4 g1 g2 (hm.next g3) (by rw [List.length_append, List.length_singleton]; omega) (by omega)
end
end Go.Proofs.YtelkpflpgpdkdaaGreatDoor
