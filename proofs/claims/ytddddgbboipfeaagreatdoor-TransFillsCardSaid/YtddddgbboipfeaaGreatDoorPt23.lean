/- Part 23 of what TransFills asks: for every input it returns true, and its input reads as it did. No condition. -/
import Derived.Test.YtddddgbboipfeaaGreatDoorPt22
namespace Go.Proofs.YtddddgbboipfeaaGreatDoor
open Go.RowKit Go.Lib
/-- Where a field stands, or would stand. -/
def fpos (s : Str) (f : Flds) : Nat := (f.takeWhile fun p => sLt p.1 s).length
def docWith (d : Doc) (k b : Nat) (s : Str) (x : Doc) : Doc := .mk d.kind d.num d.str (d.keys.take k ++ [s] ++ d.keys.drop b) (d.kids.take k ++ [x] ++ d.kids.drop b)
theorem fpos_le (s : Str) (f : Flds) : fpos s f ≤ f.length := by
  induction f with
  | nil => exact Nat.le_refl _
  | cons p f ih =>
    unfold fpos at ih ⊢
    rw [List.takeWhile_cons]
    split
    · simp only [List.length_cons]; omega
    · exact Nat.zero_le _
theorem fget_pos {s : Str} {x : Doc} : ∀ {f : Flds}, FSrt f → fget s f = some x → f[fpos s f]? = some (s, x)
  | p :: f, h, hg => by
    unfold fget at hg
    unfold fpos
    rw [List.takeWhile_cons]
    by_cases e : p.1 = s
    · rw [if_pos e] at hg; cases hg
      rw [show sLt p.1 s = false by rw [e]; exact sLt_irr s]
      simp only [Bool.false_eq_true, if_false, List.length_nil, List.getElem?_cons_zero, ← e]
    · rw [if_neg e] at hg
      obtain ⟨h1, h2⟩ := List.pairwise_cons.1 h
      have hlt : sLt p.1 s = true := h1 _ (fget_mem hg)
      rw [hlt]
      have ih := fget_pos h2 hg
      unfold fpos at ih
      simp only [if_true, List.length_cons, List.getElem?_cons_succ]
      exact ih
theorem fput_pos (s : Str) (x : Doc) : ∀ {f : Flds}, FSrt f → fput s x f = f.take (fpos s f) ++ [(s, x)] ++ f.drop (if (fget s f).isSome then fpos s f + 1 else fpos s f)
  | [], _ => rfl
  | p :: f, h => by
    obtain ⟨h1, h2⟩ := List.pairwise_cons.1 h
    have ih := fput_pos s x h2
    unfold fput fpos fget
    unfold fpos at ih
    rw [List.takeWhile_cons]
    by_cases hlt : sLt p.1 s = true
    · have hne : p.1 ≠ s := fun e => by rw [e, sLt_irr] at hlt; cases hlt
      rw [if_pos hlt, hlt, if_neg hne, ih]
      simp only [if_true, List.length_cons, List.take_succ_cons, List.cons_append]
      split <;> simp
    · rw [if_neg hlt]
      simp only [hlt, Bool.false_eq_true, if_false, List.length_nil, List.take_zero, List.nil_append]
      by_cases e : p.1 = s
      · rw [if_pos e, if_neg (by rw [e, sLt_irr]; decide)]; simp
      · rw [if_neg e, if_pos (sLt_tri (by simpa using hlt) e)]
        have : fget s f = none := by
          rw [fget_none]
          intro hm
          obtain ⟨q, hq, rfl⟩ := List.mem_map.1 hm
          exact hlt (h1 q hq)
        rw [this]; simp
theorem idx_get (s : Str) {f : Flds} (h : FSrt f) : keyIdx (f.map (·.1)) s = if (fget s f).isSome then (fpos s f : Int) else -1 := by
  cases hg : fget s f with
  | none =>
    simp only [Option.isSome_none, Bool.false_eq_true, if_false]
    refine idxOf_none fun y hy => ?_
    rw [beq_eq_false_iff_ne]
    intro e
    exact (fget_none.1 hg) (str_ext e ▸ hy)
  | some x =>
    simp only [Option.isSome_some, if_true]
    have hp := fget_pos h hg
    refine idxOf_at (x := s) (by rw [List.getElem?_map, hp]; rfl) (by simp) fun y hy => ?_
    obtain ⟨j, hj, rfl⟩ := List.getElem_of_mem hy
    rw [List.length_take] at hj
    rw [List.getElem_take, List.getElem_map]
    have hj2 : j < f.length := by simp only [List.length_map] at hj; omega
    have hpl := (List.getElem?_eq_some_iff.1 hp).1
    have h3 := List.pairwise_iff_getElem.1 h j (fpos s f) hj2 hpl (by omega)
    rw [(List.getElem?_eq_some_iff.1 hp).2] at h3
    rw [beq_eq_false_iff_ne]
    intro e
    rw [str_ext e, sLt_irr] at h3; cases h3
theorem recOf_with (s : Str) (x : Doc) {f : Flds} (h : FSrt f) : recOf (fput s x f) = docWith (recOf f) (fpos s f) (if (fget s f).isSome then fpos s f + 1 else fpos s f) s x := by
  rw [fput_pos s x h]
  unfold docWith recOf
  simp only [Doc.kind, Doc.num, Doc.str, Doc.keys, Doc.kids, List.map_append, List.map_take, List.map_drop, List.map_cons, List.map_nil]
/-- How many keys come ahead, counted one behind the other. -/
theorem fpos_stop {s : Str} {f : Flds} {k : Nat} (hk : k ≤ f.length) (h1 : ∀ j p, j < k → f[j]? = some p → sLt p.1 s = true) (h2 : ∀ p, f[k]? = some p → sLt p.1 s = false) : fpos s f = k := by
  induction f generalizing k with
  | nil => simp only [List.length_nil] at hk; unfold fpos; simp; omega
  | cons p f ih =>
    unfold fpos
    rw [List.takeWhile_cons]
    cases k with
    | zero => rw [h2 p rfl]; rfl
    | succ k =>
      rw [h1 0 p (by omega) rfl]
      simp only [if_true, List.length_cons]
      have := ih (k := k) (by simpa using hk) (fun j q hj hq => h1 (j + 1) q (by omega) hq) fun q hq => h2 q hq
      unfold fpos at this
      omega
section
variable {w : World} {a : Option Addr} {xs : List Value}
end
end Go.Proofs.YtddddgbboipfeaaGreatDoor
namespace Go.Proofs.YtddddgbboipfeaaGreatDoor
open Go.RowKit Go.Lib
theorem fputs_succ {l : List (Str × Doc)} {i : Nat} {s : Str} {x : Doc} (h : l[i]? = some (s, x)) : fputs (l.take (i + 1)) [] = fput s x (fputs (l.take i) []) := by
  rw [List.take_add_one, h, fputs_append]; rfl
theorem fputs_len : ∀ (l : List (Str × Doc)) (f : Flds), (fputs l f).length ≤ f.length + l.length
  | [], f => Nat.le_refl _
  | p :: l, f => by
    unfold fputs
    have h1 := fputs_len l (fput p.1 p.2 f)
    have h2 : (fput p.1 p.2 f).length ≤ f.length + 1 := by
      clear h1
      induction f with
      | nil => simp [fput]
      | cons y r ih =>
        unfold fput
        split
        · simp only [List.length_cons]; omega
        · split <;> simp
    rw [List.length_cons]; omega
end Go.Proofs.YtddddgbboipfeaaGreatDoor
namespace Go.Proofs.YtddddgbboipfeaaGreatDoor
open Go.RowKit Go.Lib
theorem okRec {d : Doc} (h : OkKeys 1 d) : d = recOf (fOf d) := by
  obtain ⟨h1, h2, h3, h4, h5, _⟩ := h
  rw [fOf_srted h5]
  cases d with
  | mk k n s ks ds =>
    simp only [Doc.kind, Doc.num, Doc.str, Doc.keys, Doc.kids] at *
    unfold recOf
    rw [h1, h2, h3, zip_fst h4, zip_snd h4]
end Go.Proofs.YtddddgbboipfeaaGreatDoor
namespace Go.Proofs.YtddddgbboipfeaaGreatDoor
open Go.RowKit Go.Lib
theorem filt_succ {α : Type} {p : α → Bool} {l : List α} {i : Nat} {x : α} (h : l[i]? = some x) : (l.take (i + 1)).filter p = (l.take i).filter p ++ if p x = true then [x] else [] := by
  rw [List.take_add_one, h, List.filter_append]
  cases hp : p x <;> simp [hp]
end Go.Proofs.YtddddgbboipfeaaGreatDoor
namespace Go.Proofs.YtddddgbboipfeaaGreatDoor
open Go.RowKit Go.Lib
theorem fput_last {f : Flds} (h : FSrt f) (s : Str) (x : Doc) : fputs (f ++ [(s, x)]) [] = fput s x f := by
  rw [fputs_append, fputs_srt f [] (by simpa using h)]; rfl
end Go.Proofs.YtddddgbboipfeaaGreatDoor
namespace Go.Proofs.YtddddgbboipfeaaGreatDoor
open Go.RowKit Go.Lib
theorem resIns_stop (x : Res) : ∀ (l : List Res) (k : Nat), k ≤ l.length → (∀ j y, j < k → l[j]? = some y → resLess y x < 0) → (∀ y, l[k]? = some y → ¬ resLess y x < 0) → resIns x l = l.take k ++ [x] ++ l.drop k
  | [], k, hk, _, _ => by
    obtain rfl : k = 0 := by simpa using hk
    rfl
  | y :: l, 0, _, _, h2 => by unfold resIns; rw [if_neg (h2 y rfl)]; rfl
  | y :: l, k + 1, hk, h1, h2 => by
    unfold resIns
    rw [if_pos (h1 0 y (Nat.succ_pos _) rfl), resIns_stop x l k (by simpa using hk) (fun j z hj hz => h1 (j + 1) z (by omega) hz) fun z hz => h2 z hz]
    rfl
section
variable {ops : Array Oper} {w1 : World} {Fin : Act → World → Prop} {o : Oper} {l : List Oper} {i : Nat} {A : (Nat → Value) → Act} {T : List (Nat × (Value → World → Prop))}
end
end Go.Proofs.YtddddgbboipfeaaGreatDoor
namespace Go.Proofs.YtddddgbboipfeaaGreatDoor
open Go.RowKit Go.Lib
theorem wsub64 {a b : Nat} (h : b ≤ a) (ha : a ≤ maxLen) : wrap64 ((a : Int) - (b : Int)) = ((a - b : Nat) : Int) := by
  unfold maxLen at ha
  unfold wrap64; omega
end Go.Proofs.YtddddgbboipfeaaGreatDoor
namespace Go.Proofs.YtddddgbboipfeaaGreatDoor
open Go.RowKit Go.Lib
theorem keys_step {rc : Bool} {l : List Str} (h : keysOk rc l = true) {j : Nat} {s : Str} (hj : l[j]? = some s) : s.size ≤ 256 ∧ ∀ u, l[j + 1]? = some u → sLe u s = false := by
  unfold keysOk keysTo at h
  rw [List.all_eq_true] at h
  have h1 := h j (List.mem_range.2 (List.getElem?_eq_some_iff.1 hj).1)
  unfold keyStep at h1
  rw [strD hj] at h1
  simp only [Bool.and_eq_true, decide_eq_true_eq] at h1
  refine ⟨h1.2, fun u hu => ?_⟩
  have h2 := h (j + 1) (List.mem_range.2 (List.getElem?_eq_some_iff.1 hu).1)
  unfold keyStep at h2
  rw [strD hu, show j + 1 - 1 = j from rfl, strD hj] at h2
  simp only [Bool.and_eq_true, Bool.not_eq_true', Bool.and_eq_false_iff] at h2
  rcases h2.1.1 with h3 | h3
  · simp at h3
  · exact h3
theorem sLt_of_sLe {a b : Str} (h : sLe a b = false) : sLt b a = true := by
  unfold sLe at h
  rw [Bool.or_eq_false_iff] at h
  exact sLt_tri h.1 fun e => by rw [e] at h; simp at h
theorem keys_srt {l : List Str} (h : ∀ j s u, l[j]? = some s → l[j + 1]? = some u → sLt s u = true) : l.Pairwise fun a b => sLt a b = true := by
  induction l with
  | nil => exact .nil
  | cons s l ih =>
    have ht := ih fun j a b h1 h2 => h (j + 1) a b h1 h2
    refine List.pairwise_cons.2 ⟨fun u hu => ?_, ht⟩
    cases l with
    | nil => cases hu
    | cons v l =>
      have h0 := h 0 s v rfl rfl
      rcases List.mem_cons.1 hu with rfl | hu
      · exact h0
      · exact sLt_trans h0 ((List.pairwise_cons.1 ht).1 u hu)
theorem srt_zip {l : List Str} {m : List Doc} (h : l.Pairwise fun a b => sLt a b = true) (hl : l.length = m.length) : FSrt (l.zip m) := by
  rw [← zip_fst hl] at h
  exact List.pairwise_map.1 h
theorem size_zero {s : Str} (h : s.size = 0) : s = ⟨#[]⟩ := by
  cases s with
  | mk d => congr 1; exact Array.eq_empty_of_size_eq_zero h
theorem okKeys_of {d : Doc} {k : Int} (hr : d.right = true) (hk : d.kind = k) (hk2 : k = 1 ∨ k = 2) : OkKeys k d := by
  obtain ⟨_, hz, hp⟩ := Doc.right_parts hr
  rw [Doc.part_kids, Bool.and_eq_true, Bool.and_eq_true] at hp
  obtain ⟨⟨h1, h2⟩, _⟩ := hp
  unfold plain at h1
  rw [if_pos (by omega)] at h1
  simp only [Bool.and_eq_true, decide_eq_true_eq] at h1
  obtain ⟨⟨h3, h4⟩, h5⟩ := h1
  have hl := Doc.sizes_len d.kids
  rw [Doc.size_kids] at hz
  refine ⟨hk, h3, size_zero h4, h5, srt_zip (keys_srt fun j s u hs hu => sLt_of_sLe ((keys_step h2 hs).2 u hu)) h5, fun s hs => ?_, by omega⟩
  obtain ⟨j, hj, rfl⟩ := List.getElem_of_mem hs
  exact (keys_step h2 (List.getElem?_eq_getElem hj)).1
theorem keyIdx_at {l : List Str} (hn : l.Pairwise fun a b => sLt a b = true) {j : Nat} {s : Str} (hj : l[j]? = some s) : keyIdx l s = j := by
  refine idxOf_at hj (by simp) fun y hy => ?_
  obtain ⟨i, hi, rfl⟩ := List.getElem_of_mem hy
  rw [List.length_take] at hi
  have h1 := List.pairwise_iff_getElem.1 hn i j (by omega) (List.getElem?_eq_some_iff.1 hj).1 (by omega)
  rw [(List.getElem?_eq_some_iff.1 hj).2] at h1
  rw [List.getElem_take]
  rw [beq_eq_false_iff_ne]
  intro e
  rw [str_ext e, sLt_irr] at h1; cases h1
theorem keyIdx_miss {l : List Str} {s : Str} (h : keyIdx l s < 0 ∨ s ∉ l) : keyIdx l s = -1 ∧ s ∉ l := by
  have hns : s ∉ l := by
    rcases h with h | h
    · intro hm
      unfold keyIdx idxOf at h
      rw [if_pos (List.any_eq_true.2 ⟨s, hm, by simp⟩)] at h
      omega
    · exact h
  exact ⟨idxOf_none fun y hy => by rw [beq_eq_false_iff_ne]; exact fun e => hns (str_ext e ▸ hy), hns⟩
theorem fshape_of {t : Typ} : ∀ (l : Flds), (∀ p ∈ l, ∃ f c, t.find p.1 = some f ∧ Shape True f.typ p.2 c ∧ c ≤ p.2.size) → ∃ n, FShape True t l n ∧ n ≤ fsize l
  | [], _ => ⟨0, .nil, Nat.le_refl _⟩
  | (s, x) :: l, h => by
    obtain ⟨f, c, h1, h2, h3⟩ := h _ (List.mem_cons_self ..)
    obtain ⟨n, h4, h5⟩ := fshape_of l fun p hp => h p (List.mem_cons_of_mem _ hp)
    exact ⟨c + n, .cons h1 h2 h4, by unfold fsize; simp only at h3 ⊢; omega⟩
theorem lshape_of {t : Typ} : ∀ (l : List Doc), (∀ x ∈ l, ∃ c, Shape True t x c ∧ c ≤ x.size) → ∃ n, LShape True t l n ∧ n ≤ Doc.sizes l
  | [], _ => ⟨0, .nil, Nat.le_refl _⟩
  | x :: l, h => by
    obtain ⟨c, h2, h3⟩ := h _ (List.mem_cons_self ..)
    obtain ⟨n, h4, h5⟩ := lshape_of l fun p hp => h p (List.mem_cons_of_mem _ hp)
    exact ⟨c + n, .cons h2 h4, by rw [Doc.sizes]; omega⟩
theorem shape_errs : ∀ (n : Nat) (t : Typ) (d : Doc), t.depth ≤ n → t.right = true → d.right = true → errs n t d = [] → ∃ c, Shape True t d c ∧ c ≤ d.size
  | 0, t, d, hn, _, _, _ => by have := Typ.depth_parts t; omega
  | n + 1, t, d, hn, ht, hd, he => by
    have he0 := he
    unfold errs at he
    rw [List.append_eq_nil_iff] at he
    obtain ⟨h1, h2⟩ := he
    have hf : fitsE t d = 0 := Decidable.byContradiction fun h => by rw [if_neg h] at h1; cases h1
    rw [if_neg (by omega)] at h2
    have hko : kindsOk t d = true := by
      cases hk : kindsOk t d with
      | true => rfl
      | false => unfold fitsE at hf; rw [if_pos hk] at hf; cases hf
    have hpk := part_kind (Typ.right_parts ht).2.2
    have hds := Doc.size_kids d
    by_cases k1 : t.kind = 1
    · unfold kindsOk at hko
      rw [if_neg (by omega), beq_iff_eq] at hko
      have hok := okKeys_of hd (hko.symm.trans k1) (.inl rfl)
      have hzf : (d.keys.zip d.kids).map (·.1) = d.keys := zip_fst hok.2.2.2.1
      have hks : d.keys.Pairwise fun a b => sLt a b = true := by
        have := List.pairwise_map (f := fun p : Str × Doc => p.1) (R := fun a b => sLt a b = true).2 hok.2.2.2.2.1
        rwa [hzf] at this
      unfold errsIn at h2
      rw [if_pos k1, List.append_eq_nil_iff, List.flatMap_eq_nil_iff, List.flatMap_eq_nil_iff] at h2
      obtain ⟨hfl, hkl⟩ := h2
      have hall : ∀ p ∈ d.keys.zip d.kids, ∃ f c, t.find p.1 = some f ∧ Shape True f.typ p.2 c ∧ c ≤ p.2.size := fun p hp => by
        obtain ⟨j, hj, hpj⟩ := List.getElem_of_mem hp
        obtain ⟨hjs, hjx⟩ := (List.getElem?_zip_eq_some (i := j) (z := p)).1 (hpj ▸ List.getElem?_eq_getElem hj)
        have hk := hkl p.1 (List.mem_of_getElem? hjs)
        rcases find_cases t p.1 with ⟨h3, _⟩ | ⟨i, f, h3, h4, h5, h6⟩
        · unfold errsK at hk; rw [if_pos (by omega)] at hk; cases hk
        · have h7 := hfl f (List.mem_of_getElem? h3)
          rw [errsF_at (j := j) (y := p.2) (by rw [h6]; exact keyIdx_at hks hjs) hjx] at h7
          obtain ⟨c, h8, h9⟩ := shape_errs n f.typ p.2 (by have := fld_depth (List.mem_of_getElem? h3); omega) (Typ.right_fld ht (List.mem_of_getElem? h3)) (Doc.right_kid hd (List.mem_of_getElem? hjx)) h7
          exact ⟨f, c, h5, h8, h9⟩
      obtain ⟨c, h3, h4⟩ := fshape_of _ hall
      refine ⟨c + 1, .recd k1 hok h3 fun s f hs ho hg => ?_, ?_⟩
      · have hsn : s ∉ d.keys := by rw [← hzf]; exact fget_none.1 hg
        obtain ⟨h5, h6, _⟩ := Typ.find_name hs
        have h7 := hfl f h6
        rw [errsF_miss (by rw [h5]; exact (keyIdx_miss (.inr hsn)).1), ho] at h7
        cases h7
      · rw [fsize_sizes, zip_snd hok.2.2.2.1] at h4; omega
    unfold errsIn at h2
    rw [if_neg k1] at h2
    by_cases k23 : t.kind = 2 ∨ t.kind = 3
    · rw [if_pos k23, List.flatMap_eq_nil_iff] at h2
      obtain ⟨hof, hor⟩ := Typ.right_one ht k23
      unfold kindsOk at hko
      rw [if_neg (by omega), beq_iff_eq] at hko
      have hall : ∀ x ∈ d.kids, ∃ c, Shape True t.of0 x c ∧ c ≤ x.size := fun x hx => by
        have h3 := h2 x hx
        unfold errsO at h3
        rw [hof] at h3
        exact shape_errs n t.of0 x (by have := of_depth (t := t) (x := t.of0) (by rw [hof]; exact List.mem_singleton.2 rfl); omega) hor (Doc.right_kid hd hx) h3
      obtain ⟨c, h3, h4⟩ := lshape_of _ hall
      rcases k23 with k2 | k3
      · exact ⟨c, .dict k2 (okKeys_of hd (hko.symm.trans k2) (.inr rfl)) h3, by omega⟩
      · refine ⟨c, .list k3 ?_ h3 ?_, by omega⟩
        · obtain ⟨_, _, hp⟩ := Doc.right_parts hd
          rw [Doc.part_kids, Bool.and_eq_true, Bool.and_eq_true] at hp
          have h5 := hp.1.1
          unfold plain at h5
          rw [if_neg (by omega), if_pos (by omega)] at h5
          simp only [Bool.and_eq_true, decide_eq_true_eq] at h5
          exact ⟨hko.symm.trans k3, h5.1.1, size_zero h5.1.2, List.eq_nil_of_length_eq_zero h5.2⟩
        · unfold fitsE at hf
          rw [if_neg (by rw [show kindsOk t d = true from by unfold kindsOk; rw [if_neg (by omega), beq_iff_eq]; exact hko]; decide), if_pos (.inr k3)] at hf
          unfold withinE at hf
          have : ¬ ((d.kids.length : Int) < t.lo ∨ t.hi < d.kids.length) := fun h => by rw [if_pos h] at hf; cases hf
          omega
    · refine ⟨0, .leaf (by simp only [scalarB, Bool.and_eq_true, decide_eq_true_eq]; omega) fun _ => ?_, Nat.zero_le _⟩
      unfold isOf bothRight
      rw [ht, hd]
      simp only [Bool.and_self, Bool.true_and, decide_eq_true_eq]
      unfold errs
      rw [if_pos hf, if_neg (by omega)]
      unfold errsIn
      rw [if_neg k1, if_neg k23]; rfl
theorem isof_shape {t : Typ} {d : Doc} (h : isOf t d = true) : ∃ c, Shape True t d c ∧ c ≤ d.size := by
  unfold isOf bothRight at h
  simp only [Bool.and_eq_true, decide_eq_true_eq] at h
  exact shape_errs 12 t d (Typ.right_parts h.1.1).2.1 h.1.1 h.1.2 h.2
theorem int_of {t : Typ} {d : Doc} (h : isOf t d = true) (hk : t.kind = 4) : d = .mk 4 d.num ⟨#[]⟩ [] [] ∧ t.lo ≤ d.num ∧ d.num ≤ t.hi := by
  unfold isOf bothRight at h
  simp only [Bool.and_eq_true, decide_eq_true_eq] at h
  obtain ⟨⟨ht, hd⟩, he⟩ := h
  unfold errs at he
  rw [List.append_eq_nil_iff] at he
  have hf : fitsE t d = 0 := Decidable.byContradiction fun h => by have := he.1; rw [if_neg h] at this; cases this
  have hko : kindsOk t d = true := by
    cases hk : kindsOk t d with
    | true => rfl
    | false => unfold fitsE at hf; rw [if_pos hk] at hf; cases hf
  unfold fitsE at hf
  rw [if_neg (by rw [hko]; decide), if_neg (by omega), if_pos hk] at hf
  unfold withinE at hf
  have h1 : ¬ (d.num < t.lo ∨ t.hi < d.num) := fun h => by rw [if_pos h] at hf; cases hf
  unfold kindsOk at hko
  rw [if_neg (by omega), beq_iff_eq] at hko
  obtain ⟨_, _, hp⟩ := Doc.right_parts hd
  rw [Doc.part_kids, Bool.and_eq_true, Bool.and_eq_true] at hp
  have h5 := hp.1.1
  unfold plain at h5
  rw [if_neg (by omega), if_neg (by omega)] at h5
  split at h5
  · cases h5
  rename_i h6
  rw [if_pos (by omega), decide_eq_true_eq] at h5
  refine ⟨?_, by omega, by omega⟩
  cases d with
  | mk k n s ks ds =>
    simp only [Doc.kind, Doc.num, Doc.str, Doc.keys, Doc.kids] at *
    rw [size_zero h5, List.eq_nil_of_length_eq_zero (show ks.length = 0 by omega), List.eq_nil_of_length_eq_zero (show ds.length = 0 by omega)]
    congr 1; omega
theorem int_is {t : Typ} {n : Int} (ht : t.right = true) (hk : t.kind = 4) (h1 : t.lo ≤ n) (h2 : n ≤ t.hi) : isOf t (.mk 4 n ⟨#[]⟩ [] []) = true := by
  unfold isOf bothRight
  have hd : (Doc.mk 4 n ⟨#[]⟩ [] []).right = true := by
    have hz : (Doc.mk 4 n ⟨#[]⟩ [] []).depth ≤ 12 := by simp [Doc.depth, Doc.depths]
    have hs : (Doc.mk 4 n ⟨#[]⟩ [] []).size ≤ 512 := by simp [Doc.size, Doc.sizes]
    unfold Doc.right
    rw [decide_eq_true hz, decide_eq_true hs, Doc.part_kids]
    rfl
  rw [ht, hd]
  simp only [Bool.and_self, Bool.true_and, decide_eq_true_eq]
  have hko : kindsOk t (.mk 4 n ⟨#[]⟩ [] []) = true := by unfold kindsOk; rw [if_neg (by omega), hk]; rfl
  have hf : fitsE t (.mk 4 n ⟨#[]⟩ [] []) = 0 := by
    unfold fitsE
    rw [if_neg (by rw [hko]; decide), if_neg (by omega), if_pos hk]
    unfold withinE
    rw [if_neg]
    simp only [Doc.num]; omega
  unfold errs
  rw [if_pos hf, if_neg (by omega)]
  unfold errsIn
  rw [if_neg (by omega), if_neg (by omega)]; rfl
end Go.Proofs.YtddddgbboipfeaaGreatDoor
namespace Go.Proofs.YtddddgbboipfeaaGreatDoor
open Go.RowKit Go.Lib
theorem fdel_len (s : Str) (f : Flds) : (fdel s f).length ≤ f.length := List.length_filter_le _ _
theorem fput_len (s : Str) (d : Doc) (f : Flds) : (fput s d f).length ≤ f.length + 1 := fputs_len [(s, d)] f
end Go.Proofs.YtddddgbboipfeaaGreatDoor
namespace Go.Proofs.YtddddgbboipfeaaGreatDoor
open Go.RowKit Go.Lib
/-- How the document converts a number. -/
def cvR (d : Doc) (sw : List (Int × Int)) : Doc := .mk d.kind (Lens.swap d.num sw) d.str d.keys d.kids
theorem swap_in {t : Typ} {sw : List (Int × Int)} (h : swapsE sw t = 0) {n : Int} (h1 : t.lo ≤ n) (h2 : n ≤ t.hi) : t.lo ≤ Lens.swap n sw ∧ Lens.swap n sw ≤ t.hi := by
  have hall : ∀ m ∈ swapNums sw, t.lo ≤ m ∧ m ≤ t.hi := fun m hm => by
    unfold swapsE at h
    split at h
    · cases h
    · split at h
      · cases h
      · rename_i h3
        rw [List.any_eq_true, not_exists] at h3
        have := h3 m
        simp only [Bool.or_eq_true, decide_eq_true_eq, not_and, not_or] at this
        have := this hm
        omega
  clear h
  induction sw with
  | nil => exact ⟨h1, h2⟩
  | cons p sw ih =>
    have e : swapNums (p :: sw) = p.1 :: p.2 :: swapNums sw := rfl
    rw [e] at hall
    unfold Lens.swap
    split
    · exact hall _ (List.mem_cons_of_mem _ (List.mem_cons_self ..))
    · split
      · exact hall _ (List.mem_cons_self ..)
      · exact ih fun m hm => hall m (List.mem_cons_of_mem _ (List.mem_cons_of_mem _ hm))
theorem cv_one {d : Doc} {ty : Typ} (h : isOf ty d = true) (hk : ty.kind = 4) (sw : List (Int × Int)) : cvP d sw = cvR d sw := by
  rw [(int_of h hk).1]; rfl
theorem cvP_ok : CvOk cvP where
  good := fun ty d sw hk hs h => by
    obtain ⟨_, h1, h2⟩ := int_of h hk
    obtain ⟨h3, h4⟩ := swap_in hs h1 h2
    exact int_is (by unfold isOf bothRight at h; simp only [Bool.and_eq_true] at h; exact h.1.1) hk h3 h4
  size := fun d sw => by show (Doc.mk _ _ _ _ _).size ≤ _; have := d.size_pos; simp only [Doc.size, Doc.sizes]; omega
  tidy := fun d sw _ => (Doc.tidy_iff _).2 ⟨Nat.le_refl _, nofun⟩
theorem cvR_ok : CvOk cvR where
  good := fun ty d sw hk hs h => by rw [← cv_one h hk]; exact cvP_ok.good ty d sw hk hs h
  size := fun d sw => by rw [Doc.size_kids, Doc.size_kids d]; exact Nat.le_refl _
  tidy := fun d sw h => (Doc.tidy_iff _).2 ((Doc.tidy_iff d).1 h)
/-- Alike, or there is an error in both. -/
def BothW (r q : Option (Flds × WS)) : Prop := ∀ a b, r = some a → q = some b → a = b ∨ (a.2.err ≠ 0 ∧ b.2.err ≠ 0)
theorem BothW.rfl {r q : Option (Flds × WS)} (h : r = q) : BothW r q := fun _ _ h1 h2 => .inl (Option.some.inj (h1.symm.trans (h.trans h2)))
theorem Goes.bad {r q : Option (Flds × WS)} {t u : Typ} {c K d L : Nat} {f g : Flds} {w : WS} (h : Goes r t c K f w) (k : Goes q u d L g w) (hw : w.err ≠ 0) : BothW r q := fun a b h1 h2 => by
  obtain ⟨f1, w1, e1, _, _, _, h3⟩ := h
  obtain ⟨f2, w2, e2, _, _, _, h4⟩ := k
  rw [e1] at h1; rw [e2] at h2
  cases h1; cases h2
  exact .inr ⟨h3 hw, h4 hw⟩
theorem Goes.keeps {r : Option (Flds × WS)} {t : Typ} {c K : Nat} {f : Flds} {w : WS} (h : Goes r t c K f w) {a : Flds × WS} (ha : r = some a) (hw : w.err ≠ 0) : a.2.err ≠ 0 := by
  obtain ⟨f1, w1, e1, _, _, _, h3⟩ := h
  rw [e1] at ha; cases ha; exact h3 hw
theorem bothBind {r q : Option (Flds × WS)} {t : Typ} {c K : Nat} {f : Flds} {w : WS} (g1 : Goes r t c K f w) (g2 : Goes q t c K f w) (hb : BothW r q) {F G : Flds × WS → Option (Flds × WS)}
    (h : ∀ f' w', RecOk (w'.err = 0) t f' c → Td f' w' → Gr K (fsize f) (fsize f') w w' → (∃ u L, Goes (F (f', w')) u c L f' w') ∧ (∃ u L, Goes (G (f', w')) u c L f' w') ∧ BothW (F (f', w')) (G (f', w'))) : BothW (r.bind F) (q.bind G) := by
  obtain ⟨f1, w1, e1, a1, a2, a3, a4⟩ := g1
  obtain ⟨f2, w2, e2, b1, b2, b3, b4⟩ := g2
  subst e1; subst e2
  intro a b ha hb'
  rw [Option.bind_some] at ha hb'
  rcases hb _ _ rfl rfl with h1 | ⟨h1, h2⟩
  · cases h1
    exact (h f1 w1 a1 a2 a3).2.2 a b ha hb'
  · obtain ⟨⟨u, L, k1⟩, _, _⟩ := h f1 w1 a1 a2 a3
    obtain ⟨_, ⟨v, M, k2⟩, _⟩ := h f2 w2 b1 b2 b3
    exact .inr ⟨k1.keeps ha h1, k2.keeps hb' h2⟩
theorem bothMap {r q : Option (Flds × WS)} (hb : BothW r q) {F : Flds × WS → Option (Flds × WS)} (h : ∀ p a, F p = some a → a.2 = p.2) : BothW (r.bind F) (q.bind F) := fun a b ha hb' => by
  cases r with
  | none => cases ha
  | some p =>
    cases q with
    | none => cases hb'
    | some p2 =>
      rw [Option.bind_some] at ha hb'
      rcases hb _ _ rfl rfl with h1 | ⟨h1, h2⟩
      · subst h1; exact .inl (Option.some.inj (ha.symm.trans hb'))
      · exact .inr ⟨by rw [h _ _ ha]; exact h1, by rw [h _ _ hb']; exact h2⟩
theorem bothFold {F G : Str → Flds → WS → Option (Flds × WS)} {u u' : Typ} {K : Nat} (hu : u.right = true) (huk : u.kind = 1) (hu' : u'.right = true) (huk' : u'.kind = 1)
    (hF : ∀ (s : Str) (g : Flds) (w : WS) (c : Nat), RecOk (w.err = 0) u g c → Td g w → Room (K * (c + 1)) (fsize g) w → Goes (F s g w) u' c (K * (c + 1)) g w)
    (hG : ∀ (s : Str) (g : Flds) (w : WS) (c : Nat), RecOk (w.err = 0) u g c → Td g w → Room (K * (c + 1)) (fsize g) w → Goes (G s g w) u' c (K * (c + 1)) g w)
    (hB : ∀ (s : Str) (g : Flds) (w : WS) (c : Nat), RecOk (w.err = 0) u g c → Td g w → Room (K * (c + 1)) (fsize g) w → BothW (F s g w) (G s g w)) :
    ∀ (l : List (Str × Doc)) (w : WS) (n : Nat), LShape (w.err = 0) u (l.map (·.2)) n → Td l w → Room (K * n) (fsize l) w →
      ∀ a b, foldKids F l w = some a → foldKids G l w = some b → a = b ∨ (a.2.err ≠ 0 ∧ b.2.err ≠ 0)
  | [], w, n, h, hd, hr, a, b, ha, hb => by
    unfold foldKids at ha hb
    exact .inl (Option.some.inj (ha.symm.trans hb))
  | (s, d) :: l, w, n, h, hd, hr, a, b, ha, hb => by
    cases h with
    | @cons _ _ _ c m hx hl =>
      obtain ⟨c1, rfl, ho, hrec⟩ := hx.open huk
      have hdt := hd.flds (s, d) (List.mem_cons_self ..)
      have hsz : fsize (fOf d) + 1 = d.size := fsize_fOf ho
      have hK : K * (c1 + 1 + m) = K * (c1 + 1) + K * m := Nat.mul_add _ _ _
      rw [hK] at hr
      have hfl : fsize ((s, d) :: l) = d.size + fsize l := rfl
      rw [hfl] at hr
      have htd : Td (fOf d) w := ⟨tidy_fOf ho hdt, hd.res, hd.needs⟩
      have hrm := hr.mono (Nat.le_add_right (K * (c1 + 1)) _) (show fsize (fOf d) ≤ _ by omega)
      obtain ⟨a1, a2⟩ := a
      obtain ⟨b1, b2⟩ := b
      obtain ⟨_, g1, w1, ds1, e1, _, k1, rfl⟩ := foldKids_cons ha
      obtain ⟨_, g2, w2, ds2, e2, _, k2, rfl⟩ := foldKids_cons hb
      have step : ∀ {H : Str → Flds → WS → Option (Flds × WS)} {g' : Flds} {wi : WS}, Goes (H s (fOf d) w) u' c1 (K * (c1 + 1)) (fOf d) w → H s (fOf d) w = some (g', wi) → LShape (wi.err = 0) u (l.map (·.2)) m ∧ Td l wi ∧ Room (K * m) (fsize l) wi := fun {H g' wi} hg e => by
        obtain ⟨gg, ww, h1, h2, h3, h4, h5⟩ := hg
        rw [e] at h1; cases h1
        refine ⟨hl.mono fun e => Decidable.byContradiction fun e2 => h5 e2 e, ⟨fun p hp => hd.flds p (List.mem_cons_of_mem _ hp), h3.res, h3.needs⟩, ?_⟩
        obtain ⟨a1, a2, a3⟩ := hr
        obtain ⟨b1, b2, b3⟩ := h4
        exact ⟨by omega, by omega, by omega⟩
      obtain ⟨s1, s2, s3⟩ := step (hF s (fOf d) w c1 hrec htd hrm) e1
      obtain ⟨t1, t2, t3⟩ := step (hG s (fOf d) w c1 hrec htd hrm) e2
      rcases hB s (fOf d) w c1 hrec htd hrm _ _ e1 e2 with h1 | ⟨h1, h2⟩
      · cases h1
        rcases bothFold hu huk hu' huk' hF hG hB l w1 m s1 s2 s3 _ _ k1 k2 with h3 | h3
        · cases h3; exact .inl rfl
        · exact .inr h3
      · obtain ⟨_, x1, y1, _, _, _, _, _, _, y2⟩ := folds hu huk hu' huk' hF l w1 m s1 s2 s3
        obtain ⟨_, x2, z1, _, _, _, _, _, _, z2⟩ := folds hu huk hu' huk' hG l w2 m t1 t2 t3
        rw [k1] at y1; cases y1
        rw [k2] at z1; cases z1
        exact .inr ⟨y2 h1, z2 h2⟩
section
variable {ed : Int} {bk : Bool}
def StepsBoth (ed : Int) (bk : Bool) (l : List Lens) : Prop := ∀ (i : Int) (t : Typ) (f : Flds) (w : WS) (c : Nat) (st : List Int) (ks : List Str), t.right = true → t.kind = 1 → (Lens.steps (effs bk l) t).2 = 0 → RecOk (w.err = 0) t f c → Td f w →
  Room (Lens.size l * (c + 1)) (fsize f) w → st.length + Lens.size l ≤ 1000 → ks.length + Lens.size l ≤ 1000 → BothW (wsteps cvP ed bk i l st ks f w) (wsteps cvR ed bk i l st ks f w)
theorem body_same {n : Int} (h8 : n ≠ 8) (h9 : n ≠ 9) (h10 : n ≠ 10) (a b : Str) (ty : Typ) (d : Doc) (sw : List (Int × Int)) (subs : List Lens) (st : List Int) (ks : List Str) (f : Flds) (w : WS) : wbody cvP ed bk n a b ty d sw subs st ks f w = wbody cvR ed bk n a b ty d sw subs st ks f w := by
  unfold wbody
  simp only [if_neg h8, if_neg h9, if_neg h10]
theorem step_both (s : Lens) (hsub : StepsBoth ed bk s.subs) (t : Typ) (f : Flds) (w : WS) (c : Nat) (st : List Int) (ks : List Str) (ht : t.right = true) (hk : t.kind = 1) (h0 : (Lens.at1 (eff bk s) t).2 = 0) (hr : (Lens.at1 (eff bk s) t).1.right = true)
    (h : RecOk (w.err = 0) t f c) (hd : Td f w) (hm : Room ((1 + Lens.size1 s) * (c + 1)) (fsize f) w) (hst : st.length + Lens.size1 s ≤ 1000) (hks : ks.length + Lens.size1 s + 1 ≤ 1000) :
    BothW (wstep cvP ed bk s st ks f w) (wstep cvR ed bk s st ks f w) := by
  by_cases hw0 : w.err ≠ 0
  · exact (step_goes cvP_ok s (steps_go cvP_ok _ s.subs (Nat.le_refl _)) t f w c st ks ht hk h0 hr h hd hm hst hks).bad (step_goes cvR_ok s (steps_go cvR_ok _ s.subs (Nat.le_refl _)) t f w c st ks ht hk h0 hr h hd hm hst hks) hw0
  have hw : w.err = 0 := Classical.not_not.1 hw0
  have hK3 : Lens.size s.subs = Lens.size1 s := by cases s; rfl
  obtain ⟨k, a0, b0, ty, d, sw, subs⟩ := s
  obtain ⟨p1, p2, p3, p4, p5, p6, p7⟩ := eff_parts bk k a0 b0 ty d sw subs
  generalize eff bk (.mk k a0 b0 ty d sw subs) = q at *
  generalize hZ : Lens.size1 (.mk k a0 b0 ty d sw subs) = Z at *
  rw [wstep_body, wstep_body, ← p1, ← p2, ← p3]
  rw [← p1] at p7
  by_cases hc : q.kind ≠ 8 ∧ q.kind ≠ 9 ∧ q.kind ≠ 10
  · exact .rfl (body_same hc.1 hc.2.1 hc.2.2 ..)
  have hq : q.kind = 8 ∨ q.kind = 9 ∨ q.kind = 10 := by omega
  have k2 : q.kind ≠ 2 := by omega
  have hb : ¬ (q.kind < 1 ∨ 10 < q.kind) := by omega
  cases hf : t.find q.a with
  | none => rw [Lens.at1_miss k2 hb hf] at h0; cases h0
  | some g =>
  rw [Lens.at1_some k2 hb hf] at h0 hr
  obtain ⟨hgn, hgm, _⟩ := Typ.find_name hf
  have hgr := Typ.right_fld ht hgm
  by_cases h7 : g.opt = true ∧ q.kind ≠ 1
  · rw [if_pos h7] at h0; cases h0
  rw [if_neg h7, if_neg (by omega), if_neg (by omega), if_neg (by omega), if_neg (by omega), if_neg (by omega), if_neg (by omega)] at h0 hr
  unfold wbody
  by_cases hwk : ¬ WOk f w st ks ∨ 256 < q.a.size
  · (repeat rw [if_pos hwk]); exact .rfl rfl
  repeat rw [if_neg hwk]
  repeat rw [if_neg (show ¬ q.kind = 1 by omega)]
  repeat rw [if_neg k2]
  cases hgf : fget q.a f with
  | none => exact .rfl rfl
  | some x =>
  simp only
  obtain ⟨g', ca, m, hf', hx, hfd, hcm⟩ := h.take hgf
  rw [hf] at hf'; cases hf'
  have hxt : x.tidy := hd.flds _ (fget_mem hgf)
  have hxs : x.size ≤ fsize f := fsize_mem (p := (q.a, x)) (fget_mem hgf)
  repeat rw [if_neg (show q.kind ≠ 3 by omega)]
  repeat rw [if_neg (show q.kind ≠ 4 by omega)]
  repeat rw [if_neg (show q.kind ≠ 5 by omega)]
  repeat rw [if_neg (show q.kind ≠ 6 by omega)]
  repeat rw [if_neg (show q.kind ≠ 7 by omega)]
  by_cases k8 : q.kind = 8
  · rw [if_pos k8] at h0
    repeat rw [if_pos k8]
    have g4 : g.typ.kind = 4 := Decidable.byContradiction fun h => by rw [if_pos h] at h0; cases h0
    rw [cv_one ((hx.scalar (by simp [scalarB, g4])).2 hw) g4]
    exact .rfl rfl
  rw [if_neg k8] at h0 hr
  repeat rw [if_neg k8]
  have hcz : Z * (c + 1) ≤ (1 + Z) * (c + 1) := Nat.mul_le_mul_right _ (Nat.le_add_left _ _)
  by_cases k9 : q.kind = 9
  · rw [if_pos k9] at h0 hr
    repeat rw [if_pos k9]
    by_cases hok : ¬ OkKeys 1 x
    · (repeat rw [if_pos hok]); exact .rfl rfl
    repeat rw [if_neg hok]
    by_cases g1 : g.typ.kind = 1
    · rw [if_neg (show ¬ (g.typ.kind ≠ 1) by omega), p7 (.inl k9)] at h0
      obtain ⟨c1, rfl, hok, hrec⟩ := hx.open g1
      have hsx := fsize_fOf hok
      have hkk : Lens.size subs * (c1 + 1) ≤ (1 + Z) * (c + 1) := Nat.le_trans (Nat.mul_le_mul (Nat.le_of_eq hK3) (by omega)) hcz
      exact bothMap (hsub 0 g.typ (fOf x) w c1 st ks hgr g1 h0 hrec ⟨tidy_fOf hok hxt, hd.res, hd.needs⟩ (hm.mono hkk (by omega)) (by show _ + Lens.size subs ≤ _; have : Lens.size subs = Z := hK3; omega) (by show _ + Lens.size subs ≤ _; have : Lens.size subs = Z := hK3; omega)) fun p a ha => by
        split at ha
        · cases ha; rfl
        · cases ha
    · rw [if_pos g1] at h0; cases h0
  rw [if_neg k9] at h0 hr
  repeat rw [if_neg k9]
  have k10 : q.kind = 10 := by omega
  repeat rw [if_pos k10]
  by_cases hok : ¬ OkKeys 2 x
  · (repeat rw [if_pos hok]); exact .rfl rfl
  repeat rw [if_neg hok]
  by_cases g2 : g.typ.kind ≠ 2 ∨ g.typ.of0.kind ≠ 1
  · rw [if_pos g2] at h0; cases h0
  rw [if_neg g2] at h0 hr
  rw [not_or, Classical.not_not, Classical.not_not] at g2
  rw [p7 (.inr k10)] at h0 hr
  obtain ⟨hok, hl⟩ := hx.dictKids g2.1
  have hor := (Typ.right_one hgr (.inl g2.1)).2
  have hzs := zip_snd hok.2.2.2.1
  have hfz : fsize (x.keys.zip x.kids) + 1 = x.size := by rw [fsize_sizes, hzs, Doc.size_kids]
  have hsz : Lens.size subs = Z := hK3
  have hkk : Lens.size subs * ca ≤ (1 + Z) * (c + 1) := Nat.le_trans (Nat.mul_le_mul (Nat.le_of_eq hK3) (by omega)) hcz
  have hfold := bothFold (F := fun s g w => wsteps cvP ed bk 0 subs st (ks ++ [s]) g w) (G := fun s g w => wsteps cvR ed bk 0 subs st (ks ++ [s]) g w) (K := Lens.size subs) hor g2.2 (Lens.steps_right _ _ hor h0) (steps_kind _ _ hor g2.2 h0)
    (fun s g' w' c' h1 h2 h3 => steps_go cvP_ok _ subs (Nat.le_refl _) 0 g.typ.of0 g' w' c' st (ks ++ [s]) hor g2.2 h0 h1 h2 h3 (by omega) (by rw [List.length_append, List.length_singleton]; omega))
    (fun s g' w' c' h1 h2 h3 => steps_go cvR_ok _ subs (Nat.le_refl _) 0 g.typ.of0 g' w' c' st (ks ++ [s]) hor g2.2 h0 h1 h2 h3 (by omega) (by rw [List.length_append, List.length_singleton]; omega))
    (fun s g' w' c' h1 h2 h3 => hsub 0 g.typ.of0 g' w' c' st (ks ++ [s]) hor g2.2 h0 h1 h2 h3 (by show _ + Lens.size subs ≤ _; omega) (by rw [List.length_append, List.length_singleton]; show _ + 1 + Lens.size subs ≤ _; omega))
    (x.keys.zip x.kids) w ca (by rw [hzs]; exact hl) ⟨fun p hp => ((Doc.tidy_iff x).1 hxt).2 _ (by rw [← hzs]; exact List.mem_map_of_mem hp), hd.res, hd.needs⟩ (hm.mono hkk (by omega))
  intro a b ha hb'
  cases h1 : foldKids (fun s g w => wsteps cvP ed bk 0 subs st (ks ++ [s]) g w) (x.keys.zip x.kids) w with
  | none => rw [h1] at ha; cases ha
  | some p =>
    cases h2 : foldKids (fun s g w => wsteps cvR ed bk 0 subs st (ks ++ [s]) g w) (x.keys.zip x.kids) w with
    | none => rw [h2] at hb'; cases hb'
    | some p2 =>
      rw [h1] at ha; rw [h2] at hb'
      cases ha; cases hb'
      rcases hfold _ _ h1 h2 with h3 | ⟨h3, h4⟩
      · subst h3; exact .inl rfl
      · exact .inr ⟨h3, h4⟩
theorem steps_both : ∀ (n : Nat) (l : List Lens), Lens.size l ≤ n → StepsBoth ed bk l
  | _, [], _ => fun i t f w c st ks ht hk h0 h hd hm _ _ => by unfold wsteps; exact .rfl rfl
  | 0, s :: l, hn => by rw [Lens.size] at hn; omega
  | n + 1, s :: l, hn => fun i t f w c st ks ht hk h0 h hd hm hst hks => by
    have hz : Lens.size (s :: l) = 1 + Lens.size1 s + Lens.size l := rfl
    have hzs : Lens.size s.subs = Lens.size1 s := by cases s; rfl
    have hsub := steps_both n s.subs (by omega)
    have hl := steps_both n l (by omega)
    have gP := steps_go (ed := ed) (bk := bk) cvP_ok _ l (Nat.le_refl _)
    have gR := steps_go (ed := ed) (bk := bk) cvR_ok _ l (Nat.le_refl _)
    have sP := steps_go (ed := ed) (bk := bk) cvP_ok _ s.subs (Nat.le_refl _)
    have sR := steps_go (ed := ed) (bk := bk) cvR_ok _ s.subs (Nat.le_refl _)
    unfold wsteps
    cases bk with
    | false =>
      obtain ⟨h1, h2, h3⟩ := steps_one (s := s) (l := l) h0
      rw [show (Lens.steps (effs false (s :: l)) t) = _ from h3] at h0
      rw [hz, Nat.add_mul] at hm
      simp only [Bool.false_eq_true, if_false]
      have hm1 := hm.mono (Nat.le_add_right _ _) (Nat.le_refl _)
      exact bothBind (step_goes cvP_ok s sP t f w c (st ++ [i]) ks ht hk h1 h2 h hd hm1 (by rw [List.length_append, List.length_singleton]; omega) (by omega)) (step_goes cvR_ok s sR t f w c (st ++ [i]) ks ht hk h1 h2 h hd hm1 (by rw [List.length_append, List.length_singleton]; omega) (by omega))
        (step_both s hsub t f w c (st ++ [i]) ks ht hk h1 h2 h hd hm1 (by rw [List.length_append, List.length_singleton]; omega) (by omega)) fun f' w' g1 g2 g3 =>
        ⟨⟨_, _, gP (i + 1) _ f' w' c st ks h2 (Lens.at1_fit s t ht hk h1).2 h0 g1 g2 (hm.next g3) (by omega) (by omega)⟩, ⟨_, _, gR (i + 1) _ f' w' c st ks h2 (Lens.at1_fit s t ht hk h1).2 h0 g1 g2 (hm.next g3) (by omega) (by omega)⟩,
          hl (i + 1) _ f' w' c st ks h2 (Lens.at1_fit s t ht hk h1).2 h0 g1 g2 (hm.next g3) (by omega) (by omega)⟩
    | true =>
      change (Lens.steps (Lens.back l ++ [s.turn]) t).2 = 0 at h0
      obtain ⟨h1, h2⟩ := steps_append _ _ _ h0
      rw [h2] at h0
      obtain ⟨h3, h4, h5⟩ := steps_one h0
      have hr1 := Lens.steps_right _ _ ht h1
      have hk1 := steps_kind _ _ ht hk h1
      rw [hz, Nat.add_mul, Nat.add_comm] at hm
      simp only [if_true]
      have hm1 := hm.mono (Nat.le_add_right _ _) (Nat.le_refl _)
      exact bothBind (gP (i + 1) t f w c st ks ht hk h1 h hd hm1 (by omega) (by omega)) (gR (i + 1) t f w c st ks ht hk h1 h hd hm1 (by omega) (by omega)) (hl (i + 1) t f w c st ks ht hk h1 h hd hm1 (by omega) (by omega)) fun f' w' g1 g2 g3 =>
        ⟨⟨_, _, step_goes (bk := true) cvP_ok s sP _ f' w' c (st ++ [i]) ks hr1 hk1 h3 h4 g1 g2 (hm.next g3) (by rw [List.length_append, List.length_singleton]; omega) (by omega)⟩, ⟨_, _, step_goes (bk := true) cvR_ok s sR _ f' w' c (st ++ [i]) ks hr1 hk1 h3 h4 g1 g2 (hm.next g3) (by rw [List.length_append, List.length_singleton]; omega) (by omega)⟩,
          step_both (bk := true) s hsub _ f' w' c (st ++ [i]) ks hr1 hk1 h3 h4 g1 g2 (hm.next g3) (by rw [List.length_append, List.length_singleton]; omega) (by omega)⟩
/-- An error is told by its number. -/
theorem wstep_err {cv : Doc → List (Int × Int) → Doc} (s : Lens) (hsub : ∀ i st ks f w p, wsteps cv ed bk i s.subs st ks f w = some p → p.2.err = w.err ∨ p.2.err = 8) {st : List Int} {ks : List Str} {f : Flds} {w : WS} {p : Flds × WS} (h : wstep cv ed bk s st ks f w = some p) : p.2.err = w.err ∨ p.2.err = 8 := by
  obtain ⟨k, a0, b0, ty, d, sw, subs⟩ := s
  have hfold : ∀ (l : List (Str × Doc)) (w : WS) (q : List Doc × WS), foldKids (fun s g w => wsteps cv ed bk 0 subs st (ks ++ [s]) g w) l w = some q → q.2.err = w.err ∨ q.2.err = 8 := fun l => by
    induction l with
    | nil => intro w q hq; unfold foldKids at hq; cases hq; exact .inl rfl
    | cons x l ih =>
      intro w q hq
      obtain ⟨s, d⟩ := x
      obtain ⟨q1, q2⟩ := q
      obtain ⟨_, g1, w1, ds1, e1, _, k1, rfl⟩ := foldKids_cons hq
      have h1 := hsub 0 _ _ _ _ _ e1
      have h2 := ih _ _ k1
      simp only at h1 h2 ⊢
      omega
  rw [wstep_body] at h
  unfold wbody at h
  by_cases c0 : ¬ WOk f w st ks ∨ 256 < (turnA bk k a0 b0).size
  · rw [if_pos c0] at h; cases h
  rw [if_neg c0] at h
  by_cases c1 : turnK bk k = 1
  · rw [if_pos c1] at h
    split at h
    · cases h
    · split at h
      · cases h; exact .inl rfl
      · cases h; exact .inl rfl
  rw [if_neg c1] at h
  by_cases c2 : turnK bk k = 2
  · rw [if_pos c2] at h
    split at h
    · cases h
    · split at h
      · cases h; exact .inl rfl
      · cases h
        simp only
        split
        · exact .inl rfl
        · exact .inr rfl
  rw [if_neg c2] at h
  cases hx : fget (turnA bk k a0 b0) f with
  | none => rw [hx] at h; cases h
  | some x =>
  rw [hx] at h
  simp only at h
  by_cases c3 : turnK bk k = 3
  · rw [if_pos c3] at h; cases h; exact .inl rfl
  rw [if_neg c3] at h
  by_cases c4 : turnK bk k = 4
  · rw [if_pos c4] at h
    split at h
    · cases h
    · split at h
      · cases h
      · cases h; exact .inl rfl
  rw [if_neg c4] at h
  by_cases c5 : turnK bk k = 5
  · rw [if_pos c5] at h
    split at h
    · cases h
    · split at h
      · cases h
      · cases h; exact .inl rfl
  rw [if_neg c5] at h
  by_cases c6 : turnK bk k = 6
  · rw [if_pos c6] at h; cases h; exact .inl rfl
  rw [if_neg c6] at h
  by_cases c7 : turnK bk k = 7
  · rw [if_pos c7] at h
    split at h
    · cases h
    · cases h; exact .inl rfl
  rw [if_neg c7] at h
  by_cases c8 : turnK bk k = 8
  · rw [if_pos c8] at h; cases h; exact .inl rfl
  rw [if_neg c8] at h
  by_cases c9 : turnK bk k = 9
  · rw [if_pos c9] at h
    split at h
    · cases h
    · cases hq : wsteps cv ed bk 0 subs st ks (fOf x) w with
      | none => rw [hq] at h; cases h
      | some q =>
        rw [hq, Option.bind_some] at h
        split at h
        · cases h; exact hsub 0 st ks (fOf x) w q hq
        · cases h
  rw [if_neg c9] at h
  by_cases c10 : turnK bk k = 10
  · rw [if_pos c10] at h
    split at h
    · cases h
    · cases hq : foldKids (fun s g w => wsteps cv ed bk 0 subs st (ks ++ [s]) g w) (x.keys.zip x.kids) w with
      | none => rw [hq] at h; cases h
      | some q =>
        rw [hq, Option.bind_some] at h
        cases h; exact hfold _ _ _ hq
  rw [if_neg c10] at h; cases h
theorem wsteps_err {cv : Doc → List (Int × Int) → Doc} : ∀ (n : Nat) (l : List Lens), Lens.size l ≤ n → ∀ i st ks f w p, wsteps cv ed bk i l st ks f w = some p → p.2.err = w.err ∨ p.2.err = 8
  | _, [], _, i, st, ks, f, w, p, h => by unfold wsteps at h; cases h; exact .inl rfl
  | 0, s :: l, hn, _, _, _, _, _, _, _ => by rw [Lens.size] at hn; omega
  | n + 1, s :: l, hn, i, st, ks, f, w, p, h => by
    have hz : Lens.size (s :: l) = 1 + Lens.size1 s + Lens.size l := rfl
    have hzs : Lens.size s.subs = Lens.size1 s := by cases s; rfl
    have hsub := wsteps_err (cv := cv) n s.subs (by omega)
    have hl := wsteps_err (cv := cv) n l (by omega)
    unfold wsteps at h
    split at h
    · cases hq : wsteps cv ed bk (i + 1) l st ks f w with
      | none => rw [hq] at h; cases h
      | some q =>
        rw [hq, Option.bind_some] at h
        have h1 := hl _ _ _ _ _ _ hq
        have h2 := wstep_err s hsub h
        omega
    · cases hq : wstep cv ed bk s (st ++ [i]) ks f w with
      | none => rw [hq] at h; cases h
      | some q =>
        rw [hq, Option.bind_some] at h
        have h1 := wstep_err s hsub hq
        have h2 := hl _ _ _ _ _ _ h
        omega
end
end Go.Proofs.YtddddgbboipfeaaGreatDoor
