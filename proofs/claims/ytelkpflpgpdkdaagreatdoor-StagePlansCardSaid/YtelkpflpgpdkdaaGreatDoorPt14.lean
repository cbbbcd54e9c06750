/- Part 14 of what StageOrder and StagePlans ask: for every input each returns true, and its input reads as it did. No condition. -/
import Derived.Test.YtelkpflpgpdkdaaGreatDoorPt13
namespace Go.Proofs.YtelkpflpgpdkdaaGreatDoor
open Go.RowKit Go.Lib
theorem fputs_succ {l : List (Str × Doc)} {i : Nat} {s : Str} {x : Doc} (h : l[i]? = some (s, x)) : fputs (l.take (i + 1)) [] = fput s x (fputs (l.take i) []) := by
  rw [List.take_add_one, h, fputs_append]; rfl
theorem fputs_len : ∀ (l : List (Str × Doc)) (f : Flds), (fputs l f).length ≤ f.length + l.length
  | [], f => Nat.le_refl _
  | p :: l, f => by
    unfold fputs
    have h1 := fputs_len l (fput p.1 p.2 f)
    have h2 : (fput p.1 p.2 f).length ≤ f.length + 1 := by
      clear h1
      induction f with
      | nil => simp [fput]
      | cons y r ih =>
        unfold fput
        split
        · simp only [List.length_cons]; omega
        · split <;> simp
    rw [List.length_cons]; omega
end Go.Proofs.YtelkpflpgpdkdaaGreatDoor
namespace Go.Proofs.YtelkpflpgpdkdaaGreatDoor
open Go.RowKit Go.Lib
theorem keys_step {rc : Bool} {l : List Str} (h : keysOk rc l = true) {j : Nat} {s : Str} (hj : l[j]? = some s) : s.size ≤ 256 ∧ ∀ u, l[j + 1]? = some u → sLe u s = false := by
  unfold keysOk keysTo at h
  rw [List.all_eq_true] at h
  have h1 := h j (List.mem_range.2 (List.getElem?_eq_some_iff.1 hj).1)
  unfold keyStep at h1
  rw [strD hj] at h1
  simp only [Bool.and_eq_true, decide_eq_true_eq] at h1
  refine ⟨h1.2, fun u hu => ?_⟩
  have h2 := h (j + 1) (List.mem_range.2 (List.getElem?_eq_some_iff.1 hu).1)
  unfold keyStep at h2
  rw [strD hu, show j + 1 - 1 = j from rfl, strD hj] at h2
  simp only [Bool.and_eq_true, Bool.not_eq_true', Bool.and_eq_false_iff] at h2
  rcases h2.1.1 with h3 | h3
  · simp at h3
  · exact h3
theorem sLt_of_sLe {a b : Str} (h : sLe a b = false) : sLt b a = true := by
  unfold sLe at h
  rw [Bool.or_eq_false_iff] at h
  exact sLt_tri h.1 fun e => by rw [e] at h; simp at h
theorem keys_srt {l : List Str} (h : ∀ j s u, l[j]? = some s → l[j + 1]? = some u → sLt s u = true) : l.Pairwise fun a b => sLt a b = true := by
  induction l with
  | nil => exact .nil
  | cons s l ih =>
    have ht := ih fun j a b h1 h2 => h (j + 1) a b h1 h2
    refine List.pairwise_cons.2 ⟨fun u hu => ?_, ht⟩
    cases l with
    | nil => cases hu
    | cons v l =>
      have h0 := h 0 s v rfl rfl
      rcases List.mem_cons.1 hu with rfl | hu
      · exact h0
      · exact sLt_trans h0 ((List.pairwise_cons.1 ht).1 u hu)
theorem srt_zip {l : List Str} {m : List Doc} (h : l.Pairwise fun a b => sLt a b = true) (hl : l.length = m.length) : FSrt (l.zip m) := by
  rw [← zip_fst hl] at h
  exact List.pairwise_map.1 h
theorem size_zero {s : Str} (h : s.size = 0) : s = ⟨#[]⟩ := by
  cases s with
  | mk d => congr 1; exact Array.eq_empty_of_size_eq_zero h
theorem okKeys_of {d : Doc} {k : Int} (hr : d.right = true) (hk : d.kind = k) (hk2 : k = 1 ∨ k = 2) : OkKeys k d := by
  obtain ⟨_, hz, hp⟩ := Doc.right_parts hr
  rw [Doc.part_kids, Bool.and_eq_true, Bool.and_eq_true] at hp
  obtain ⟨⟨h1, h2⟩, _⟩ := hp
  unfold plain at h1
  rw [if_pos (by omega)] at h1
  simp only [Bool.and_eq_true, decide_eq_true_eq] at h1
  obtain ⟨⟨h3, h4⟩, h5⟩ := h1
  have hl := Doc.sizes_len d.kids
  rw [Doc.size_kids] at hz
  refine ⟨hk, h3, size_zero h4, h5, srt_zip (keys_srt fun j s u hs hu => sLt_of_sLe ((keys_step h2 hs).2 u hu)) h5, fun s hs => ?_, by omega⟩
  obtain ⟨j, hj, rfl⟩ := List.getElem_of_mem hs
  exact (keys_step h2 (List.getElem?_eq_getElem hj)).1
theorem keyIdx_at {l : List Str} (hn : l.Pairwise fun a b => sLt a b = true) {j : Nat} {s : Str} (hj : l[j]? = some s) : keyIdx l s = j := by
  refine idxOf_at hj (by simp) fun y hy => ?_
  obtain ⟨i, hi, rfl⟩ := List.getElem_of_mem hy
  rw [List.length_take] at hi
  have h1 := List.pairwise_iff_getElem.1 hn i j (by omega) (List.getElem?_eq_some_iff.1 hj).1 (by omega)
  rw [(List.getElem?_eq_some_iff.1 hj).2] at h1
  rw [List.getElem_take]
  rw [beq_eq_false_iff_ne]
  intro e
  rw [str_ext e, sLt_irr] at h1; cases h1
theorem keyIdx_miss {l : List Str} {s : Str} (h : keyIdx l s < 0 ∨ s ∉ l) : keyIdx l s = -1 ∧ s ∉ l := by
  have hns : s ∉ l := by
    rcases h with h | h
    · intro hm
      unfold keyIdx idxOf at h
      rw [if_pos (List.any_eq_true.2 ⟨s, hm, by simp⟩)] at h
      omega
    · exact h
  exact ⟨idxOf_none fun y hy => by rw [beq_eq_false_iff_ne]; exact fun e => hns (str_ext e ▸ hy), hns⟩
theorem fshape_of {t : Typ} : ∀ (l : Flds), (∀ p ∈ l, ∃ f c, t.find p.1 = some f ∧ Shape True f.typ p.2 c ∧ c ≤ p.2.size) → ∃ n, FShape True t l n ∧ n ≤ fsize l
  | [], _ => ⟨0, .nil, Nat.le_refl _⟩
  | (s, x) :: l, h => by
    obtain ⟨f, c, h1, h2, h3⟩ := h _ (List.mem_cons_self ..)
    obtain ⟨n, h4, h5⟩ := fshape_of l fun p hp => h p (List.mem_cons_of_mem _ hp)
    exact ⟨c + n, .cons h1 h2 h4, by unfold fsize; simp only at h3 ⊢; omega⟩
theorem lshape_of {t : Typ} : ∀ (l : List Doc), (∀ x ∈ l, ∃ c, Shape True t x c ∧ c ≤ x.size) → ∃ n, LShape True t l n ∧ n ≤ Doc.sizes l
  | [], _ => ⟨0, .nil, Nat.le_refl _⟩
  | x :: l, h => by
    obtain ⟨c, h2, h3⟩ := h _ (List.mem_cons_self ..)
    obtain ⟨n, h4, h5⟩ := lshape_of l fun p hp => h p (List.mem_cons_of_mem _ hp)
    exact ⟨c + n, .cons h2 h4, by rw [Doc.sizes]; omega⟩
theorem shape_errs : ∀ (n : Nat) (t : Typ) (d : Doc), t.depth ≤ n → t.right = true → d.right = true → errs n t d = [] → ∃ c, Shape True t d c ∧ c ≤ d.size
  | 0, t, d, hn, _, _, _ => by have := Typ.depth_parts t; omega
  | n + 1, t, d, hn, ht, hd, he => by
    have he0 := he
    unfold errs at he
    rw [List.append_eq_nil_iff] at he
    obtain ⟨h1, h2⟩ := he
    have hf : fitsE t d = 0 := Decidable.byContradiction fun h => by rw [if_neg h] at h1; cases h1
    rw [if_neg (by omega)] at h2
    have hko : kindsOk t d = true := by
      cases hk : kindsOk t d with
      | true => rfl
      | false => unfold fitsE at hf; rw [if_pos hk] at hf; cases hf
    have hpk := part_kind (Typ.right_parts ht).2.2
    have hds := Doc.size_kids d
    by_cases k1 : t.kind = 1
    · unfold kindsOk at hko
      rw [if_neg (by omega), beq_iff_eq] at hko
      have hok := okKeys_of hd (hko.symm.trans k1) (.inl rfl)
      have hzf : (d.keys.zip d.kids).map (·.1) = d.keys := zip_fst hok.2.2.2.1
      have hks : d.keys.Pairwise fun a b => sLt a b = true := by
        have := List.pairwise_map (f := fun p : Str × Doc => p.1) (R := fun a b => sLt a b = true).2 hok.2.2.2.2.1
        rwa [hzf] at this
      unfold errsIn at h2
      rw [if_pos k1, List.append_eq_nil_iff, List.flatMap_eq_nil_iff, List.flatMap_eq_nil_iff] at h2
      obtain ⟨hfl, hkl⟩ := h2
      have hall : ∀ p ∈ d.keys.zip d.kids, ∃ f c, t.find p.1 = some f ∧ Shape True f.typ p.2 c ∧ c ≤ p.2.size := fun p hp => by
        obtain ⟨j, hj, hpj⟩ := List.getElem_of_mem hp
        obtain ⟨hjs, hjx⟩ := (List.getElem?_zip_eq_some (i := j) (z := p)).1 (hpj ▸ List.getElem?_eq_getElem hj)
        have hk := hkl p.1 (List.mem_of_getElem? hjs)
        rcases find_cases t p.1 with ⟨h3, _⟩ | ⟨i, f, h3, h4, h5, h6⟩
        · unfold errsK at hk; rw [if_pos (by omega)] at hk; cases hk
        · have h7 := hfl f (List.mem_of_getElem? h3)
          rw [errsF_at (j := j) (y := p.2) (by rw [h6]; exact keyIdx_at hks hjs) hjx] at h7
          obtain ⟨c, h8, h9⟩ := shape_errs n f.typ p.2 (by have := fld_depth (List.mem_of_getElem? h3); omega) (Typ.right_fld ht (List.mem_of_getElem? h3)) (Doc.right_kid hd (List.mem_of_getElem? hjx)) h7
          exact ⟨f, c, h5, h8, h9⟩
      obtain ⟨c, h3, h4⟩ := fshape_of _ hall
      refine ⟨c + 1, .recd k1 hok h3 fun s f hs ho hg => ?_, ?_⟩
      · have hsn : s ∉ d.keys := by rw [← hzf]; exact fget_none.1 hg
        obtain ⟨h5, h6, _⟩ := Typ.find_name hs
        have h7 := hfl f h6
        rw [errsF_miss (by rw [h5]; exact (keyIdx_miss (.inr hsn)).1), ho] at h7
        cases h7
      · rw [fsize_sizes, zip_snd hok.2.2.2.1] at h4; omega
    unfold errsIn at h2
    rw [if_neg k1] at h2
    by_cases k23 : t.kind = 2 ∨ t.kind = 3
    · rw [if_pos k23, List.flatMap_eq_nil_iff] at h2
      obtain ⟨hof, hor⟩ := Typ.right_one ht k23
      unfold kindsOk at hko
      rw [if_neg (by omega), beq_iff_eq] at hko
      have hall : ∀ x ∈ d.kids, ∃ c, Shape True t.of0 x c ∧ c ≤ x.size := fun x hx => by
        have h3 := h2 x hx
        unfold errsO at h3
        rw [hof] at h3
        exact shape_errs n t.of0 x (by have := of_depth (t := t) (x := t.of0) (by rw [hof]; exact List.mem_singleton.2 rfl); omega) hor (Doc.right_kid hd hx) h3
      obtain ⟨c, h3, h4⟩ := lshape_of _ hall
      rcases k23 with k2 | k3
      · exact ⟨c, .dict k2 (okKeys_of hd (hko.symm.trans k2) (.inr rfl)) h3, by omega⟩
      · refine ⟨c, .list k3 ?_ h3 ?_, by omega⟩
        · obtain ⟨_, _, hp⟩ := Doc.right_parts hd
          rw [Doc.part_kids, Bool.and_eq_true, Bool.and_eq_true] at hp
          have h5 := hp.1.1
          unfold plain at h5
          rw [if_neg (by omega), if_pos (by omega)] at h5
          simp only [Bool.and_eq_true, decide_eq_true_eq] at h5
          exact ⟨hko.symm.trans k3, h5.1.1, size_zero h5.1.2, List.eq_nil_of_length_eq_zero h5.2⟩
        · unfold fitsE at hf
          rw [if_neg (by rw [show kindsOk t d = true from by unfold kindsOk; rw [if_neg (by omega), beq_iff_eq]; exact hko]; decide), if_pos (.inr k3)] at hf
          unfold withinE at hf
          have : ¬ ((d.kids.length : Int) < t.lo ∨ t.hi < d.kids.length) := fun h => by rw [if_pos h] at hf; cases hf
          omega
    · refine ⟨0, .leaf (by simp only [scalarB, Bool.and_eq_true, decide_eq_true_eq]; omega) fun _ => ?_, Nat.zero_le _⟩
      unfold isOf bothRight
      rw [ht, hd]
      simp only [Bool.and_self, Bool.true_and, decide_eq_true_eq]
      unfold errs
      rw [if_pos hf, if_neg (by omega)]
      unfold errsIn
      rw [if_neg k1, if_neg k23]; rfl
theorem isof_shape {t : Typ} {d : Doc} (h : isOf t d = true) : ∃ c, Shape True t d c ∧ c ≤ d.size := by
  unfold isOf bothRight at h
  simp only [Bool.and_eq_true, decide_eq_true_eq] at h
  exact shape_errs 12 t d (Typ.right_parts h.1.1).2.1 h.1.1 h.1.2 h.2
theorem int_of {t : Typ} {d : Doc} (h : isOf t d = true) (hk : t.kind = 4) : d = .mk 4 d.num ⟨#[]⟩ [] [] ∧ t.lo ≤ d.num ∧ d.num ≤ t.hi := by
  unfold isOf bothRight at h
  simp only [Bool.and_eq_true, decide_eq_true_eq] at h
  obtain ⟨⟨ht, hd⟩, he⟩ := h
  unfold errs at he
  rw [List.append_eq_nil_iff] at he
  have hf : fitsE t d = 0 := Decidable.byContradiction fun h => by have := he.1; rw [if_neg h] at this; cases this
  have hko : kindsOk t d = true := by
    cases hk : kindsOk t d with
    | true => rfl
    | false => unfold fitsE at hf; rw [if_pos hk] at hf; cases hf
  unfold fitsE at hf
  rw [if_neg (by rw [hko]; decide), if_neg (by omega), if_pos hk] at hf
  unfold withinE at hf
  have h1 : ¬ (d.num < t.lo ∨ t.hi < d.num) := fun h => by rw [if_pos h] at hf; cases hf
  unfold kindsOk at hko
  rw [if_neg (by omega), beq_iff_eq] at hko
  obtain ⟨_, _, hp⟩ := Doc.right_parts hd
  rw [Doc.part_kids, Bool.and_eq_true, Bool.and_eq_true] at hp
  have h5 := hp.1.1
  unfold plain at h5
  rw [if_neg (by omega), if_neg (by omega)] at h5
  split at h5
  · cases h5
  rename_i h6
  rw [if_pos (by omega), decide_eq_true_eq] at h5
  refine ⟨?_, by omega, by omega⟩
  cases d with
  | mk k n s ks ds =>
    simp only [Doc.kind, Doc.num, Doc.str, Doc.keys, Doc.kids] at *
    rw [size_zero h5, List.eq_nil_of_length_eq_zero (show ks.length = 0 by omega), List.eq_nil_of_length_eq_zero (show ds.length = 0 by omega)]
    congr 1; omega
theorem int_is {t : Typ} {n : Int} (ht : t.right = true) (hk : t.kind = 4) (h1 : t.lo ≤ n) (h2 : n ≤ t.hi) : isOf t (.mk 4 n ⟨#[]⟩ [] []) = true := by
  unfold isOf bothRight
  have hd : (Doc.mk 4 n ⟨#[]⟩ [] []).right = true := by
    have hz : (Doc.mk 4 n ⟨#[]⟩ [] []).depth ≤ 12 := by simp [Doc.depth, Doc.depths]
    have hs : (Doc.mk 4 n ⟨#[]⟩ [] []).size ≤ 512 := by simp [Doc.size, Doc.sizes]
    unfold Doc.right
    rw [decide_eq_true hz, decide_eq_true hs, Doc.part_kids]
    rfl
  rw [ht, hd]
  simp only [Bool.and_self, Bool.true_and, decide_eq_true_eq]
  have hko : kindsOk t (.mk 4 n ⟨#[]⟩ [] []) = true := by unfold kindsOk; rw [if_neg (by omega), hk]; rfl
  have hf : fitsE t (.mk 4 n ⟨#[]⟩ [] []) = 0 := by
    unfold fitsE
    rw [if_neg (by rw [hko]; decide), if_neg (by omega), if_pos hk]
    unfold withinE
    rw [if_neg]
    simp only [Doc.num]; omega
  unfold errs
  rw [if_pos hf, if_neg (by omega)]
  unfold errsIn
  rw [if_neg (by omega), if_neg (by omega)]; rfl
end Go.Proofs.YtelkpflpgpdkdaaGreatDoor
namespace Go.Proofs.YtelkpflpgpdkdaaGreatDoor
open Go.RowKit Go.Lib
theorem swap_in {t : Typ} {sw : List (Int × Int)} (h : swapsE sw t = 0) {n : Int} (h1 : t.lo ≤ n) (h2 : n ≤ t.hi) : t.lo ≤ Lens.swap n sw ∧ Lens.swap n sw ≤ t.hi := by
  have hall : ∀ m ∈ swapNums sw, t.lo ≤ m ∧ m ≤ t.hi := fun m hm => by
    unfold swapsE at h
    split at h
    · cases h
    · split at h
      · cases h
      · rename_i h3
        rw [List.any_eq_true, not_exists] at h3
        have := h3 m
        simp only [Bool.or_eq_true, decide_eq_true_eq, not_and, not_or] at this
        have := this hm
        omega
  clear h
  induction sw with
  | nil => exact ⟨h1, h2⟩
  | cons p sw ih =>
    have e : swapNums (p :: sw) = p.1 :: p.2 :: swapNums sw := rfl
    rw [e] at hall
    unfold Lens.swap
    split
    · exact hall _ (List.mem_cons_of_mem _ (List.mem_cons_self ..))
    · split
      · exact hall _ (List.mem_cons_self ..)
      · exact ih fun m hm => hall m (List.mem_cons_of_mem _ (List.mem_cons_of_mem _ hm))
theorem cvP_ok : CvOk cvP where
  good := fun ty d sw hk hs h => by
    obtain ⟨_, h1, h2⟩ := int_of h hk
    obtain ⟨h3, h4⟩ := swap_in hs h1 h2
    exact int_is (by unfold isOf bothRight at h; simp only [Bool.and_eq_true] at h; exact h.1.1) hk h3 h4
  size := fun d sw => by show (Doc.mk _ _ _ _ _).size ≤ _; have := d.size_pos; simp only [Doc.size, Doc.sizes]; omega
  tidy := fun d sw _ => (Doc.tidy_iff _).2 ⟨Nat.le_refl _, nofun⟩
/-- Alike, or there is an error in both. -/
def BothW (r q : Option (Flds × WS)) : Prop := ∀ a b, r = some a → q = some b → a = b ∨ (a.2.err ≠ 0 ∧ b.2.err ≠ 0)
theorem BothW.rfl {r q : Option (Flds × WS)} (h : r = q) : BothW r q := fun _ _ h1 h2 => .inl (Option.some.inj (h1.symm.trans (h.trans h2)))
section
variable {ed : Int} {bk : Bool}
end
end Go.Proofs.YtelkpflpgpdkdaaGreatDoor
