/- Part 10 of what StageOrder and StagePlans ask: for every input each returns true, and its input reads as it did. No condition. -/
import Derived.Test.YtelkpflpgpdkdaaGreatDoorPt9
import Derived.Lib.Bytealg
namespace Go.Proofs.YtelkpflpgpdkdaaGreatDoor
open Go.RowKit Go.Lib
theorem toList_data (s : ByteArray) : s.toList = s.data.toList := by
  exact ByteArray.toList_eq s
theorem str_ext {a b : ByteArray} (h : a.toList = b.toList) : a = b := by
  rw [toList_data, toList_data] at h
  cases a; cases b
  congr 1
  exact Array.ext' h
theorem find_cases (t : Typ) (s : Str) : (fieldIdx t s = -1 ∧ t.find s = none) ∨ ∃ (j : Nat) (x : Fld), t.fields[j]? = some x ∧ fieldIdx t s = (j : Int) ∧ t.find s = some x ∧ x.name = s := by
  unfold fieldIdx Typ.find
  by_cases hk : t.kind = 1
  · simp only [if_pos hk]
    cases hf : t.fields.find? (fun f => f.name.toList == s.toList) with
    | none =>
      left
      refine ⟨idxOf_none fun y hy => ?_, by first | rfl | trivial⟩
      have := List.find?_eq_none.1 hf y hy
      simpa using this
    | some x =>
      right
      obtain ⟨hx, l1, l2, hl, hn⟩ := List.find?_eq_some_iff_append.1 hf
      refine ⟨l1.length, x, by rw [hl]; simp, ?_, by first | rfl | trivial, str_ext (by simpa using hx)⟩
      refine idxOf_at (x := x) (by rw [hl]; simp) hx fun y hy => ?_
      rw [hl, List.take_left' rfl] at hy
      simpa using hn y hy
  · simp only [if_neg hk]
    exact .inl ⟨by first | rfl | trivial, by first | rfl | trivial⟩
theorem ins_perm (f : Fld) (l : List Fld) : (Typ.ins f l).Perm (l ++ [f]) := by
  induction l with
  | nil => exact List.Perm.refl _
  | cons g l ih =>
    unfold Typ.ins
    split
    · exact ih.cons g
    · exact List.perm_append_singleton f (g :: l) |>.symm
end Go.Proofs.YtelkpflpgpdkdaaGreatDoor
namespace Go.Proofs.YtelkpflpgpdkdaaGreatDoor
open Go.RowKit Go.Lib
theorem flat_len {α β : Type} {f : α → List β} {k : Nat} (hk : ∀ x, (f x).length = k) (l : List α) : (l.flatMap f).length = l.length * k := by
  induction l with
  | nil => simp
  | cons x l ih => rw [List.flatMap_cons, List.length_append, hk, ih, List.length_cons, Nat.add_mul]; omega
end Go.Proofs.YtelkpflpgpdkdaaGreatDoor
namespace Go.Proofs.YtelkpflpgpdkdaaGreatDoor
open Go.RowKit Go.Lib
/-- How many fields come ahead of a name. -/
def ahead (s : Str) (l : List Fld) : Nat := (l.takeWhile fun g => sLt g.name s).length
end Go.Proofs.YtelkpflpgpdkdaaGreatDoor
namespace Go.Proofs.YtelkpflpgpdkdaaGreatDoor
open Go.RowKit Go.Lib
theorem without_len (t : Typ) (s : Str) : (t.without s).fields.length ≤ t.fields.length := List.length_filter_le _ _
end Go.Proofs.YtelkpflpgpdkdaaGreatDoor
namespace Go.Proofs.YtelkpflpgpdkdaaGreatDoor
open Go.RowKit Go.Lib
theorem ins_len (f : Fld) : ∀ l : List Fld, (Typ.ins f l).length = l.length + 1
  | [] => rfl
  | g :: l => by
    unfold Typ.ins
    split
    · simp only [List.length_cons, ins_len f l]
    · rfl
theorem find_name {t : Typ} {s : Str} {f : Fld} (h : t.find s = some f) : f.name = s := by
  rcases find_cases t s with ⟨_, h2⟩ | ⟨_, x, _, _, h2, h3⟩
  · rw [h2] at h; cases h
  · rw [h2] at h; cases h; exact h3
theorem with_len (t : Typ) (f : Fld) : (t.with_ f).fields.length = t.fields.length + 1 := ins_len f t.fields
theorem set_len (t : Typ) (s : Str) (x : Typ) : (t.set s x).fields.length ≤ t.fields.length + 1 := by
  unfold Typ.set
  rw [with_len]
  exact Nat.succ_le_succ (without_len t s)
end Go.Proofs.YtelkpflpgpdkdaaGreatDoor
namespace Go.Proofs.YtelkpflpgpdkdaaGreatDoor
open Go.RowKit Go.Lib
theorem swapNums_len (l : List (Int × Int)) : (swapNums l).length = l.length * 2 := flat_len (f := fun p : Int × Int => [p.1, p.2]) (fun _ => rfl) l
theorem nodup_snoc {L : List Int} {x : Int} (h : L.Nodup) (hx : x ∉ L) : (L ++ (some x).toList).Nodup := by
  rw [List.nodup_append]
  refine ⟨h, by simp, fun a ha b hb hab => hx ?_⟩
  have hb : b = x := by simpa using hb
  rw [← hb, ← hab]
  exact ha
end Go.Proofs.YtelkpflpgpdkdaaGreatDoor
namespace Go.Proofs.YtelkpflpgpdkdaaGreatDoor
open Go.RowKit Go.Lib
namespace Typ
theorem part_slim : ∀ (n : Nat) (t : Typ), t.size ≤ n → t.part = true → t.slim
  | 0, t, h, _ => by have := size_pos t; omega
  | n + 1, t, h, hp => by
    have hb : bareT t = true := by rw [part_kids, Bool.and_eq_true] at hp; exact hp.1
    have hq := hp
    rw [part_kids, Bool.and_eq_true] at hq
    have hq := hq.2
    simp only [bareT, Bool.not_eq_true', Bool.or_eq_false_iff, Bool.and_eq_false_iff, decide_eq_false_iff_not] at hb
    have hn : t.names.length ≤ 1000000 := by
      by_cases h7 : t.kind = 7
      · rw [if_neg (by omega), if_neg (by omega), if_neg (by omega), if_neg (by omega), if_neg (by omega), if_pos h7] at hq
        simp only [namesOk, Bool.and_eq_true, decide_eq_true_eq] at hq
        omega
      · have := hb.1.1.2; omega
    have hf : ∀ f ∈ t.fields, f.typ.slim := fun f hf => by
      have hl := List.length_pos_of_mem hf
      have h1 : t.kind = 1 := by have := hb.1.1.1; omega
      rw [if_pos h1, Bool.and_eq_true, List.all_eq_true] at hq
      exact part_slim n f.typ (by have := fld_size hf; omega) (hq.2 f hf)
    have ho : ∀ x ∈ t.of, x.slim := fun x hx => by
      have hl := List.length_pos_of_mem hx
      have h1 : t.kind = 2 ∨ t.kind = 3 := by have := hb.1.2; omega
      rw [if_neg (by omega), if_pos h1] at hq
      simp only [Bool.and_eq_true, List.all_eq_true] at hq
      exact part_slim n x (by have := of_size hx; omega) (hq.2 x hx)
    cases t
    exact ⟨hn, tslimFs_of hf, tslims_of ho⟩
theorem right_fit {t : Typ} (h : t.right = true) : t.fit := by
  simp only [right, Bool.and_eq_true, decide_eq_true_eq] at h
  exact ⟨by omega, part_slim _ t (Nat.le_refl _) h.2⟩
theorem fld_depth {t : Typ} {f : Fld} (h : f ∈ t.fields) : f.typ.depth < t.depth := by
  have : ∀ l : List Fld, f ∈ l → f.typ.depth ≤ depthFs l := fun l hl => by
    induction l with
    | nil => cases hl
    | cons g l ih =>
      simp only [depthFs]
      rcases List.mem_cons.1 hl with rfl | hl
      · cases f; exact Nat.le_max_left _ _
      · exact Nat.le_trans (ih hl) (Nat.le_max_right _ _)
  have := this _ h
  have hd := depth_parts t
  omega
theorem of_depth {t x : Typ} (h : x ∈ t.of) : x.depth < t.depth := by
  have : ∀ l : List Typ, x ∈ l → x.depth ≤ depths l := fun l hl => by
    induction l with
    | nil => cases hl
    | cons g l ih =>
      simp only [depths]
      rcases List.mem_cons.1 hl with rfl | hl
      · exact Nat.le_max_left _ _
      · exact Nat.le_trans (ih hl) (Nat.le_max_right _ _)
  have := this _ h
  have hd := depth_parts t
  omega
theorem right_parts {t : Typ} (h : t.right = true) : t.size ≤ 128 ∧ t.depth ≤ 12 ∧ t.part = true := by
  simpa only [right, Bool.and_eq_true, decide_eq_true_eq, and_assoc] using h
theorem right_of {t : Typ} (h1 : t.size ≤ 128) (h2 : t.depth ≤ 12) (h3 : t.part = true) : t.right = true := by
  simp only [right, Bool.and_eq_true, decide_eq_true_eq]
  exact ⟨⟨h1, h2⟩, h3⟩
theorem right_fld {t : Typ} {f : Fld} (h : t.right = true) (hf : f ∈ t.fields) : f.typ.right = true := by
  obtain ⟨h1, h2, h3⟩ := right_parts h
  refine right_of (by have := fld_size hf; omega) (by have := fld_depth hf; omega) ?_
  have hl := List.length_pos_of_mem hf
  rw [part_kids, Bool.and_eq_true] at h3
  have hb := h3.1
  have hq := h3.2
  simp only [bareT, Bool.not_eq_true', Bool.or_eq_false_iff, Bool.and_eq_false_iff, decide_eq_false_iff_not] at hb
  have h1 : t.kind = 1 := by have := hb.1.1.1; omega
  rw [if_pos h1, Bool.and_eq_true, List.all_eq_true] at hq
  exact hq.2 f hf
theorem right_kid {t x : Typ} (h : t.right = true) (hx : x ∈ t.of) : x.right = true := by
  obtain ⟨h1, h2, h3⟩ := right_parts h
  refine right_of (by have := of_size hx; omega) (by have := of_depth hx; omega) ?_
  have hl := List.length_pos_of_mem hx
  rw [part_kids, Bool.and_eq_true] at h3
  have hb := h3.1
  have hq := h3.2
  simp only [bareT, Bool.not_eq_true', Bool.or_eq_false_iff, Bool.and_eq_false_iff, decide_eq_false_iff_not] at hb
  have h1 : t.kind = 2 ∨ t.kind = 3 := by have := hb.1.2; omega
  rw [if_neg (by omega), if_pos h1] at hq
  simp only [Bool.and_eq_true, List.all_eq_true] at hq
  exact hq.2 x hx
/-- A dictionary, or a list, that is right is of one type. -/
theorem right_one {t : Typ} (h : t.right = true) (hk : t.kind = 2 ∨ t.kind = 3) : t.of = [t.of0] ∧ t.of0.right = true := by
  obtain ⟨_, _, h3⟩ := right_parts h
  rw [part_kids, Bool.and_eq_true] at h3
  have hq := h3.2
  rw [if_neg (by omega), if_pos hk] at hq
  simp only [Bool.and_eq_true, decide_eq_true_eq] at hq
  obtain ⟨x, hx⟩ := List.length_eq_one_iff.1 hq.1.1.1
  have h4 : t.of0 = x := by simp [of0, hx]
  rw [h4]
  exact ⟨hx, right_kid h (by rw [hx]; exact List.mem_singleton.2 rfl)⟩
theorem sizeFs_ins (f : Fld) : ∀ l : List Fld, sizeFs (ins f l) = f.typ.size + sizeFs l
  | [] => by simp [ins, sizeFs, sizeF_typ]
  | g :: l => by
    unfold ins
    split
    · simp only [sizeFs, sizeFs_ins f l]; omega
    · simp only [sizeFs, sizeF_typ]
theorem sizeFs_filter (p : Fld → Bool) : ∀ l : List Fld, sizeFs (l.filter p) ≤ sizeFs l
  | [] => Nat.le_refl _
  | g :: l => by
    have := sizeFs_filter p l
    by_cases h : p g = true
    · rw [List.filter_cons_of_pos h]; simp only [sizeFs]; omega
    · rw [List.filter_cons_of_neg h]; simp only [sizeFs]; omega
theorem mem_ins {f g : Fld} : ∀ {l : List Fld}, g ∈ ins f l → g = f ∨ g ∈ l
  | [], h => by simpa [ins] using h
  | e :: l, h => by
    unfold ins at h
    split at h
    · rcases List.mem_cons.1 h with rfl | h
      · exact .inr (List.mem_cons_self ..)
      · exact (mem_ins h).imp id (List.mem_cons_of_mem _)
    · exact List.mem_cons.1 h
theorem fld_slim {t : Typ} (h : t.slim) : ∀ f ∈ t.fields, f.typ.slim := fun f hf => by cases t; exact slimFs_mem h.2.1 hf
theorem rec_slim {l : List Fld} (h : ∀ f ∈ l, f.typ.slim) : (mk 1 0 0 [] l []).slim := ⟨Nat.zero_le _, tslimFs_of h, trivial⟩
theorem with_small {t : Typ} {f : Fld} (ht : t.slim) (hf : f.typ.slim) : (t.with_ f).size ≤ t.size + f.typ.size ∧ (t.with_ f).slim := by
  refine ⟨?_, rec_slim fun g hg => ?_⟩
  · simp only [with_, size, sizes, sizeFs_ins]; rw [size_parts t]; omega
  · rcases mem_ins hg with rfl | hg
    · exact hf
    · exact fld_slim ht g hg
theorem without_small {t : Typ} (s : Str) (ht : t.slim) : (t.without s).size ≤ t.size ∧ (t.without s).slim := by
  refine ⟨?_, rec_slim fun g hg => fld_slim ht g (List.mem_filter.1 hg).1⟩
  have := sizeFs_filter (fun f => !(f.name.toList == s.toList)) t.fields
  simp only [without, size, sizes]; rw [size_parts t]; omega
theorem set_small {t x : Typ} (s : Str) (ht : t.slim) (hx : x.slim) : (t.set s x).size ≤ t.size + x.size ∧ (t.set s x).slim := by
  obtain ⟨h1, h2⟩ := without_small s ht
  obtain ⟨h3, h4⟩ := with_small (f := .mk s false x) h2 hx
  exact ⟨Nat.le_trans h3 (by simp only [Fld.typ]; omega), h4⟩
theorem find_mem {t : Typ} {s : Str} {f : Fld} (h : t.find s = some f) : f ∈ t.fields := by
  unfold find at h
  split at h
  · exact List.mem_of_find?_eq_some h
  · cases h
theorem eqL_eq : ∀ {l m : List Str}, eqL l m = true → l = m
  | [], [], _ => rfl
  | [], _ :: _, h => by simp [eqL] at h
  | _ :: _, [], h => by simp [eqL] at h
  | a :: l, b :: m, h => by
    simp only [eqL, Bool.and_eq_true] at h
    rw [show a = b from str_ext (by simpa using h.1), eqL_eq h.2]
mutual
theorem same_eq : ∀ (t u : Typ), t.same u = true → t = u
  | .mk k lo hi ns fs of, .mk k' lo' hi' ns' fs' of', h => by
    simp only [same, Bool.and_eq_true, beq_iff_eq] at h
    obtain ⟨⟨⟨⟨⟨h1, h2⟩, h3⟩, h4⟩, h5⟩, h6⟩ := h
    rw [h1, h2, h3, eqL_eq h4, sameFs_eq fs fs' h5, sames_eq of of' h6]
theorem sameF_eq : ∀ (f g : Fld), sameF f g = true → f = g
  | .mk n o t, .mk n' o' t', h => by
    simp only [sameF, Bool.and_eq_true] at h
    rw [show n = n' from str_ext (by simpa using h.1.1), show o = o' by simpa using h.1.2, same_eq t t' h.2]
theorem sameFs_eq : ∀ (l m : List Fld), sameFs l m = true → l = m
  | [], [], _ => rfl
  | [], _ :: _, h => by simp [sameFs] at h
  | _ :: _, [], h => by simp [sameFs] at h
  | f :: l, g :: m, h => by
    simp only [sameFs, Bool.and_eq_true] at h
    rw [sameF_eq f g h.1, sameFs_eq l m h.2]
theorem sames_eq : ∀ (l m : List Typ), sames l m = true → l = m
  | [], [], _ => rfl
  | [], _ :: _, h => by simp [sames] at h
  | _ :: _, [], h => by simp [sames] at h
  | f :: l, g :: m, h => by
    simp only [sames, Bool.and_eq_true] at h
    rw [same_eq f g h.1, sames_eq l m h.2]
end
end Typ
namespace Lens
theorem at1_add {s : Lens} (h : s.kind = 2) (t : Typ) : at1 s t = (t.with_ (.mk s.a false s.typ), addE t s.a s.typ s.doc) := by
  cases s; simp only [kind] at h; simp only [at1, if_pos h, a, typ, doc]
theorem at1_bad {s : Lens} (h : s.kind < 1 ∨ 10 < s.kind) (t : Typ) : at1 s t = (t, 1) := by
  have h2 : s.kind ≠ 2 := by omega
  cases s; simp only [kind] at h h2; simp only [at1, if_neg h2, if_pos h]
theorem at1_miss {s : Lens} {t : Typ} (h2 : s.kind ≠ 2) (hb : ¬ (s.kind < 1 ∨ 10 < s.kind)) (hf : t.find s.a = none) : at1 s t = (t, 9) := by
  cases s; simp only [kind, a] at h2 hb hf; simp only [at1, if_neg h2, if_neg hb, hf]
theorem at1_some {s : Lens} {t : Typ} {f : Fld} (h2 : s.kind ≠ 2) (hb : ¬ (s.kind < 1 ∨ 10 < s.kind)) (hf : t.find s.a = some f) : at1 s t =
    if f.opt = true ∧ s.kind ≠ 1 then (t, 7) else
    if s.kind = 1 then ((t.without s.a).with_ (.mk s.b f.opt f.typ), renameE t s.b) else
    if s.kind = 3 then (t.without s.a, removeE f s.typ s.doc) else
    if s.kind = 4 then (hoistT t f s.a s.b, hoistE t f s.b) else
    if s.kind = 5 then (plungeT t f s.a s.b, plungeE t f s.a s.b) else
    if s.kind = 6 then (t.set s.a (.mk 3 1 1 [] [] [f.typ]), if scalarB f.typ then 0 else 7) else
    if s.kind = 7 then (t.set s.a f.typ.of0, headE f) else
    if s.kind = 8 then (t, if f.typ.kind ≠ 4 then 7 else swapsE s.swaps f.typ) else
    if s.kind = 9 then (if f.typ.kind ≠ 1 then (t, 7) else (t.set s.a (steps s.subs f.typ).1, (steps s.subs f.typ).2)) else
    if f.typ.kind ≠ 2 ∨ f.typ.of0.kind ≠ 1 then (t, 7) else (t.set s.a (.mk 2 f.typ.lo f.typ.hi [] [] [(steps s.subs f.typ.of0).1]), (steps s.subs f.typ.of0).2) := by
  cases s; simp only [kind, a] at h2 hb hf; simp only [at1, if_neg h2, if_neg hb, hf, kind, a, b, typ, doc, swaps, subs]
  rfl
theorem steps_right : ∀ (l : List Lens) (t : Typ), t.right = true → (steps l t).2 = 0 → (steps l t).1.right = true
  | [], _, ht, _ => ht
  | s :: l, t, _, h => by
    unfold steps at h ⊢
    by_cases h1 : (at1 s t).2 = 0
    · rw [if_neg (by omega)] at h ⊢
      cases h2 : (at1 s t).1.right with
      | false => rw [h2, if_pos rfl] at h; cases h
      | true =>
        rw [h2, if_neg (by decide)] at h
        rw [if_neg (by decide)]
        exact steps_right l _ h2 h
    · rw [if_pos h1] at h
      exact absurd h h1
/-- What a step makes of a right record is a record, and small. -/
theorem at1_fit (s : Lens) (t : Typ) (ht : t.right = true) (hk : t.kind = 1) (h0 : (at1 s t).2 = 0) : (at1 s t).1.fit ∧ (at1 s t).1.kind = 1 := by
  obtain ⟨hz, _, _⟩ := Typ.right_parts ht
  have hs := (Typ.right_fit ht).2
  have fit : ∀ {x : Typ}, x.size ≤ 1000 ∧ x.slim → x.fit := fun h => ⟨by omega, h.2⟩
  by_cases h2 : s.kind = 2
  · rw [at1_add h2] at h0 ⊢
    have hr : s.typ.right = true := by
      simp only [addE, scalarE] at h0
      repeat' (split at h0; · cases h0)
      rename_i h _ 
      simp only [Bool.and_eq_false_iff, not_or, Bool.not_eq_false] at h
      exact h.1
    obtain ⟨h1, h3⟩ := Typ.with_small (f := .mk s.a false s.typ) hs (Typ.right_fit hr).2
    have := (Typ.right_parts hr).1
    exact ⟨fit ⟨Nat.le_trans h1 (by simp only [Fld.typ]; omega), h3⟩, rfl⟩
  by_cases hb : s.kind < 1 ∨ 10 < s.kind
  · rw [at1_bad hb] at h0; cases h0
  cases hf : t.find s.a with
  | none => rw [at1_miss h2 hb hf] at h0; cases h0
  | some f =>
    rw [at1_some h2 hb hf] at h0 ⊢
    have hm := Typ.find_mem hf
    have hfr := Typ.right_fld ht hm
    have hfs := (Typ.right_fit hfr).2
    have hfz := (Typ.right_parts hfr).1
    by_cases h7 : f.opt = true ∧ s.kind ≠ 1
    · rw [if_pos h7] at h0; cases h0
    rw [if_neg h7] at h0 ⊢
    by_cases k1 : s.kind = 1
    · rw [if_pos k1]
      obtain ⟨h1, h3⟩ := Typ.without_small s.a hs
      obtain ⟨h4, h5⟩ := Typ.with_small (f := .mk s.b f.opt f.typ) h3 hfs
      exact ⟨fit ⟨Nat.le_trans h4 (by rw [show (Fld.mk s.b f.opt f.typ).typ = f.typ from rfl]; omega), h5⟩, rfl⟩
    rw [if_neg k1] at h0 ⊢
    by_cases k3 : s.kind = 3
    · rw [if_pos k3]
      obtain ⟨h1, h3⟩ := Typ.without_small s.a hs
      exact ⟨fit ⟨by simp only; omega, h3⟩, rfl⟩
    rw [if_neg k3] at h0 ⊢
    by_cases k4 : s.kind = 4
    · rw [if_pos k4]
      simp only [hoistT]
      cases hg : f.typ.find s.b with
      | none => exact ⟨fit ⟨by simp only; omega, hs⟩, hk⟩
      | some g =>
        have hgr := Typ.right_fld hfr (Typ.find_mem hg)
        obtain ⟨h1, h3⟩ := Typ.without_small s.b hfs
        obtain ⟨h4, h5⟩ := Typ.set_small s.a hs h3
        obtain ⟨h6, h8⟩ := Typ.with_small (f := g) h5 (Typ.right_fit hgr).2
        have := (Typ.right_parts hgr).1
        exact ⟨fit ⟨by simp only; omega, h8⟩, rfl⟩
    rw [if_neg k4] at h0 ⊢
    by_cases k5 : s.kind = 5
    · rw [if_pos k5]
      simp only [plungeT]
      cases hg : t.find s.b with
      | none => exact ⟨fit ⟨by simp only; omega, hs⟩, hk⟩
      | some g =>
        have hgr := Typ.right_fld ht (Typ.find_mem hg)
        obtain ⟨h1, h3⟩ := Typ.with_small (f := g) hfs (Typ.right_fit hgr).2
        obtain ⟨h4, h5⟩ := Typ.set_small s.a hs h3
        obtain ⟨h6, h8⟩ := Typ.without_small s.b h5
        have := (Typ.right_parts hgr).1
        exact ⟨fit ⟨by simp only; omega, h8⟩, rfl⟩
    rw [if_neg k5] at h0 ⊢
    by_cases k6 : s.kind = 6
    · rw [if_pos k6]
      obtain ⟨h4, h5⟩ := Typ.set_small (x := .mk 3 1 1 [] [] [f.typ]) s.a hs ⟨Nat.zero_le _, trivial, hfs, trivial⟩
      exact ⟨fit ⟨Nat.le_trans h4 (by simp only [Typ.size, Typ.sizeFs, Typ.sizes]; omega), h5⟩, rfl⟩
    rw [if_neg k6] at h0 ⊢
    by_cases k7 : s.kind = 7
    · rw [if_pos k7] at h0 ⊢
      have h3 : f.typ.kind = 3 := by
        simp only [headE] at h0
        split at h0
        · cases h0
        · rename_i h; simp only [not_or, Decidable.not_not] at h; exact h.1
      have h4 := (Typ.right_one hfr (.inr h3)).2
      obtain ⟨h5, h6⟩ := Typ.set_small s.a hs (Typ.right_fit h4).2
      have := (Typ.right_parts h4).1
      exact ⟨fit ⟨by simp only; omega, h6⟩, rfl⟩
    rw [if_neg k7] at h0 ⊢
    by_cases k8 : s.kind = 8
    · rw [if_pos k8]
      exact ⟨fit ⟨by simp only; omega, hs⟩, hk⟩
    rw [if_neg k8] at h0 ⊢
    by_cases k9 : s.kind = 9
    · rw [if_pos k9] at h0 ⊢
      by_cases k10 : f.typ.kind ≠ 1
      · rw [if_pos k10] at h0; cases h0
      · rw [if_neg k10] at h0 ⊢
        have h4 := steps_right s.subs f.typ hfr h0
        obtain ⟨h5, h6⟩ := Typ.set_small s.a hs (Typ.right_fit h4).2
        have := (Typ.right_parts h4).1
        exact ⟨fit ⟨by simp only; omega, h6⟩, rfl⟩
    rw [if_neg k9] at h0 ⊢
    by_cases k11 : f.typ.kind ≠ 2 ∨ f.typ.of0.kind ≠ 1
    · rw [if_pos k11] at h0; cases h0
    · rw [if_neg k11] at h0 ⊢
      have h3 : f.typ.kind = 2 := by omega
      have h4 := steps_right s.subs f.typ.of0 (Typ.right_one hfr (.inl h3)).2 h0
      obtain ⟨h5, h6⟩ := Typ.set_small (x := .mk 2 f.typ.lo f.typ.hi [] [] [(steps s.subs f.typ.of0).1]) s.a hs ⟨Nat.zero_le _, trivial, (Typ.right_fit h4).2, trivial⟩
      have := (Typ.right_parts h4).1
      exact ⟨fit ⟨Nat.le_trans h5 (by simp only [Typ.size, Typ.sizeFs, Typ.sizes]; omega), h6⟩, rfl⟩
end Lens
end Go.Proofs.YtelkpflpgpdkdaaGreatDoor
namespace Go.Proofs.YtelkpflpgpdkdaaGreatDoor
open Go.RowKit Go.Lib
theorem right_len {t : Typ} (h : t.right = true) : t.fields.length ≤ 128 := by
  have h1 := Typ.sizeFs_len t.fields; have h2 := Typ.size_parts t; have h3 := (Typ.right_parts h).1; omega
end Go.Proofs.YtelkpflpgpdkdaaGreatDoor
namespace Go.Proofs.YtelkpflpgpdkdaaGreatDoor
open Go.RowKit Go.Lib
def fldZero : Fld := .mk ⟨#[]⟩ false (.mk 0 0 0 [] [] [])
end Go.Proofs.YtelkpflpgpdkdaaGreatDoor
namespace Go.Proofs.YtelkpflpgpdkdaaGreatDoor
open Go.RowKit Go.Lib
theorem less_cmp : ∀ l m : List UInt8, Op.bytesLess l m = decide (Lib.compareBytes l m < 0)
  | [], [] => rfl
  | [], _ :: _ => rfl
  | _ :: _, [] => rfl
  | a :: l, b :: m => by
    unfold Op.bytesLess Lib.compareBytes
    have := less_cmp l m
    by_cases h1 : a < b
    · simp [h1]
    · by_cases h2 : b < a
      · have : ¬ a = b := by rintro rfl; exact h1 h2
        simp [h1, h2, this]
      · have : a = b := UInt8.le_antisymm (UInt8.not_lt.1 h2) (UInt8.not_lt.1 h1)
        subst this
        simp [h1, less_cmp l m]
theorem cmpB_neg : ∀ l m : List UInt8, Lib.compareBytes m l = - Lib.compareBytes l m
  | [], [] => rfl
  | [], _ :: _ => rfl
  | _ :: _, [] => rfl
  | a :: l, b :: m => by
    unfold Lib.compareBytes
    by_cases h1 : a < b
    · have : ¬ b < a := UInt8.not_lt.2 (UInt8.le_of_lt h1)
      simp [h1, this]
    · by_cases h2 : b < a
      · simp [h1, h2]
      · simp [h1, h2, cmpB_neg l m]
theorem cmpB_zero : ∀ l m : List UInt8, Lib.compareBytes l m = 0 → l = m
  | [], [], _ => rfl
  | [], _ :: _, h => by simp [Lib.compareBytes] at h
  | _ :: _, [], h => by simp [Lib.compareBytes] at h
  | a :: l, b :: m, h => by
    unfold Lib.compareBytes at h
    by_cases h1 : a < b
    · simp [h1] at h
    · by_cases h2 : b < a
      · simp [h1, h2] at h
      · have : a = b := UInt8.le_antisymm (UInt8.not_lt.1 h2) (UInt8.not_lt.1 h1)
        subst this
        simp only [h1, if_false] at h
        rw [cmpB_zero l m h]
theorem cmpB_refl (l : List UInt8) : Lib.compareBytes l l = 0 := by have := cmpB_neg l l; omega
theorem cmpB_trans : ∀ l m n : List UInt8, Lib.compareBytes l m < 0 → Lib.compareBytes m n < 0 → Lib.compareBytes l n < 0
  | [], [], _, h, _ => by simp [Lib.compareBytes] at h
  | [], _ :: _, [], _, h => by simp [Lib.compareBytes] at h
  | [], _ :: _, _ :: _, _, _ => by simp [Lib.compareBytes]
  | _ :: _, [], _, h, _ => by simp [Lib.compareBytes] at h
  | _ :: _, _ :: _, [], _, h => by simp [Lib.compareBytes] at h
  | a :: l, b :: m, c :: n, h, k => by
    unfold Lib.compareBytes at h k ⊢
    by_cases h1 : a < b
    · by_cases h2 : b < c
      · simp [UInt8.lt_trans h1 h2]
      · by_cases h3 : c < b
        · simp [h2, h3] at k
        · have : b = c := UInt8.le_antisymm (UInt8.not_lt.1 h3) (UInt8.not_lt.1 h2)
          subst this; simp [h1]
    · by_cases h2 : b < a
      · simp [h1, h2] at h
      · have : a = b := UInt8.le_antisymm (UInt8.not_lt.1 h2) (UInt8.not_lt.1 h1)
        subst this
        simp only [h1, if_false] at h
        by_cases h3 : a < c
        · simp [h3]
        · by_cases h4 : c < a
          · simp [h3, h4] at k
          · simp only [h3, h4, if_false] at k ⊢
            exact cmpB_trans l m n h k
theorem sLt_cmp (a b : Str) : sLt a b = decide (Lib.compareBytes a.toList b.toList < 0) := less_cmp _ _
theorem sLt_irr (a : Str) : sLt a a = false := by rw [sLt_cmp, cmpB_refl]; rfl
theorem sLt_trans {a b c : Str} (h : sLt a b = true) (k : sLt b c = true) : sLt a c = true := by
  rw [sLt_cmp, decide_eq_true_eq] at *; exact cmpB_trans _ _ _ h k
theorem sLt_asym {a b : Str} (h : sLt a b = true) : sLt b a = false := by
  rw [sLt_cmp, decide_eq_true_eq] at h
  rw [sLt_cmp, cmpB_neg]; simp; omega
theorem sLt_tri {a b : Str} (h : sLt a b = false) (k : a ≠ b) : sLt b a = true := by
  rw [sLt_cmp, decide_eq_false_iff_not] at h
  rw [sLt_cmp, cmpB_neg, decide_eq_true_eq]
  have : Lib.compareBytes a.toList b.toList ≠ 0 := fun h0 => k (str_ext (cmpB_zero _ _ h0))
  omega
theorem sLt_ntrans {a b c : Str} (h : sLt a b = false) (k : sLt b c = false) : sLt a c = false := by
  cases hac : sLt a c with
  | false => rfl
  | true =>
    by_cases hab : a = b
    · subst hab; rw [hac] at k; cases k
    · have := sLt_trans (sLt_tri h hab) hac
      rw [this] at k; cases k
theorem perm_sorted {α : Type} {R : α → α → Prop} (asym : ∀ a b, R a b → ¬ R b a) : ∀ {l m : List α}, l.Perm m → l.Pairwise R → m.Pairwise R → l = m
  | [], m, h, _, _ => (List.nil_perm.1 h).symm ▸ rfl
  | a :: l, [], h, _, _ => by simpa using h.length_eq
  | a :: l, b :: m, h, h1, h2 => by
    obtain ⟨h3, h4⟩ := List.pairwise_cons.1 h1
    obtain ⟨h5, h6⟩ := List.pairwise_cons.1 h2
    have hab : a = b := by
      rcases List.mem_cons.1 (h.mem_iff.1 (List.mem_cons_self ..)) with h7 | h7
      · exact h7
      · rcases List.mem_cons.1 (h.mem_iff.2 (List.mem_cons_self ..)) with h8 | h8
        · exact h8.symm
        · exact absurd (h3 b h8) (asym _ _ (h5 a h7))
    subst hab
    rw [perm_sorted asym (List.Perm.cons_inv h) h4 h6]
/-- By rising names. -/
def Srt (l : List Fld) : Prop := l.Pairwise fun a b => sLt a.name b.name = true
namespace Typ
theorem ins_perm (f : Fld) : ∀ l : List Fld, (ins f l).Perm (l ++ [f])
  | [] => List.Perm.refl _
  | g :: l => by
    unfold ins
    split
    · exact (ins_perm f l).cons g
    · exact (List.perm_append_singleton f (g :: l)).symm
theorem ins_srt {f : Fld} : ∀ {l : List Fld}, Srt l → (∀ g ∈ l, g.name ≠ f.name) → Srt (ins f l)
  | [], _, _ => by simp [ins, Srt]
  | g :: l, h, hn => by
    obtain ⟨h1, h2⟩ := List.pairwise_cons.1 h
    unfold ins
    split
    · rename_i hg
      refine List.pairwise_cons.2 ⟨fun x hx => ?_, ins_srt h2 fun x hx => hn x (List.mem_cons_of_mem _ hx)⟩
      rcases mem_ins hx with rfl | hx
      · exact hg
      · exact h1 x hx
    · rename_i hg
      have hfg : sLt f.name g.name = true := sLt_tri (by simpa using hg) (hn g (List.mem_cons_self ..))
      refine List.pairwise_cons.2 ⟨fun x hx => ?_, h⟩
      rcases List.mem_cons.1 hx with rfl | hx
      · exact hfg
      · exact sLt_trans hfg (h1 x hx)
theorem without_srt {t : Typ} (s : Str) (h : Srt t.fields) : Srt (t.without s).fields := List.Pairwise.filter _ h
theorem without_not {t : Typ} (s : Str) : ∀ g ∈ (t.without s).fields, g.name ≠ s := fun g hg he => by
  have := (List.mem_filter.1 hg).2
  rw [he] at this; simp at this
theorem sorted_ins {l m : List Fld} {f : Fld} (hs : Srt l) (hn : ∀ g ∈ l, g.name ≠ f.name) (hp : m.Perm (l ++ [f])) (h : m.Pairwise fun a b => sLt b.name a.name = false) : m = ins f l := by
  have h1 := ins_srt hs hn
  have hp1 := hp.trans (ins_perm f l).symm
  have h2 : m.Pairwise fun a b => a.name ≠ b.name := (List.Perm.pairwise_iff (fun h => fun e => h e.symm) hp1).2 (h1.imp fun h e => by rw [e, sLt_irr] at h; cases h)
  exact perm_sorted (R := fun a b : Fld => sLt a.name b.name = true) (fun a b h k => by rw [sLt_asym h] at k; cases k) hp1 ((h.and h2).imp fun h => sLt_tri h.1 (Ne.symm h.2)) h1
end Typ
end Go.Proofs.YtelkpflpgpdkdaaGreatDoor
namespace Go.Proofs.YtelkpflpgpdkdaaGreatDoor
open Go.RowKit Go.Lib
instance : Inhabited Fld := ⟨fldZero⟩
end Go.Proofs.YtelkpflpgpdkdaaGreatDoor
namespace Go.Proofs.YtelkpflpgpdkdaaGreatDoor
open Go.RowKit Go.Lib
theorem right_srt {t : Typ} (h : t.right = true) : Srt t.fields := by
  obtain ⟨_, _, h3⟩ := Typ.right_parts h
  rw [Typ.part_kids, Bool.and_eq_true] at h3
  have hb := h3.1
  have hq := h3.2
  by_cases h1 : t.kind = 1
  · rw [if_pos h1, Bool.and_eq_true, Bool.and_eq_true] at hq
    have hall := List.all_eq_true.1 hq.1.1
    have hstep : ∀ j (hj : j + 1 < t.fields.length), sLt (t.fields[j]'(by omega)).name (t.fields[j + 1]).name = true := fun j hj => by
      have := hall (j + 1) (List.mem_range.2 hj)
      simp only [fldStep, List.getElem?_eq_getElem hj, Nat.add_sub_cancel, List.getElem?_eq_getElem (show j < t.fields.length by omega), Bool.and_eq_true, Bool.not_eq_true', Nat.zero_lt_succ, decide_true, Bool.true_and] at this
      obtain ⟨_, h⟩ := this
      simp only [sLe, Bool.or_eq_false_iff] at h
      refine sLt_tri ?_ ?_
      · simpa [sLt] using h.1
      · intro e; rw [e] at h; simp at h
    unfold Srt
    rw [List.pairwise_iff_getElem]
    have key : ∀ d i (hi : i + d + 1 < t.fields.length), sLt (t.fields[i]'(by omega)).name (t.fields[i + d + 1]).name = true := fun d => by
      induction d with
      | zero => exact fun i hi => hstep i hi
      | succ d ih => exact fun i hi => sLt_trans (ih i (by omega)) (hstep (i + d + 1) hi)
    intro i j hi hj hij
    have := key (j - i - 1) i (by omega)
    simpa only [show i + (j - i - 1) + 1 = j by omega] using this
  · simp only [bareT, Bool.not_eq_true', Bool.or_eq_false_iff, Bool.and_eq_false_iff, decide_eq_false_iff_not] at hb
    have : t.fields = [] := List.eq_nil_of_length_eq_zero (by have := hb.1.1.1; omega)
    rw [this]; exact List.Pairwise.nil
theorem with_srt {t : Typ} {f : Fld} (h : Srt t.fields) (hn : ∀ g ∈ t.fields, g.name ≠ f.name) : Srt (t.with_ f).fields := Typ.ins_srt h hn
theorem set_srt {t x : Typ} (s : Str) (h : Srt t.fields) : Srt (t.set s x).fields := with_srt (Typ.without_srt s h) (Typ.without_not s)
end Go.Proofs.YtelkpflpgpdkdaaGreatDoor
