/- Part 11 of what StageOrder and StagePlans ask: for every input each returns true, and its input reads as it did. No condition. -/
import Derived.Test.YtelkpflpgpdkdaaGreatDoorPt10
namespace Go.Proofs.YtelkpflpgpdkdaaGreatDoor
open Go.RowKit Go.Lib
theorem right_bare {t : Typ} (h : t.right = true) (hk : t.kind = 2 ∨ t.kind = 3) : t.names = [] ∧ t.fields = [] := by
  obtain ⟨_, _, h3⟩ := Typ.right_parts h
  have hb := part_bare h3
  simp only [bareT, Bool.not_eq_true', Bool.or_eq_false_iff, Bool.and_eq_false_iff, decide_eq_false_iff_not] at hb
  exact ⟨List.eq_nil_of_length_eq_zero (by have := hb.1.1.2; omega), List.eq_nil_of_length_eq_zero (by have := hb.1.1.1; omega)⟩
end Go.Proofs.YtelkpflpgpdkdaaGreatDoor
namespace Go.Proofs.YtelkpflpgpdkdaaGreatDoor
open Go.RowKit Go.Lib
def I64 (n : Int) : Prop := (Lit.int .i64 n).wf = true
end Go.Proofs.YtelkpflpgpdkdaaGreatDoor
namespace Go.Proofs.YtelkpflpgpdkdaaGreatDoor
open Go.RowKit Go.Lib
theorem not_nodup {L : List Int} {k : Nat} {z : Int} (h : L[k]? = some z) (h2 : z ∈ L.take k) : ¬ L.Nodup := fun hn => by
  rw [← List.take_append_drop k L, List.nodup_append] at hn
  exact hn.2.2 z h2 z (List.mem_of_getElem? (i := 0) (by rw [List.getElem?_drop]; exact h)) rfl
end Go.Proofs.YtelkpflpgpdkdaaGreatDoor
namespace Go.Proofs.YtelkpflpgpdkdaaGreatDoor
open Go.RowKit Go.Lib
namespace Lens
mutual
/-- Its swaps' numbers are numbers of 64 bits. -/
def wide1 : Lens → Prop
  | .mk _ _ _ _ _ sw subs => (∀ n ∈ swapNums sw, I64 n) ∧ wides subs
def wides : List Lens → Prop
  | [] => True
  | s :: l => wide1 s ∧ wides l
end
theorem wides_mem {l : List Lens} (h : wides l) {s : Lens} (hs : s ∈ l) : (∀ n ∈ swapNums s.swaps, I64 n) ∧ wides s.subs := by
  induction l with
  | nil => cases hs
  | cons e l ih =>
    rcases List.mem_cons.1 hs with rfl | hs
    · cases s; exact h.1
    · exact ih h.2 hs
end Lens
theorem steps_bad {s : Lens} {l : List Lens} {t : Typ} (h : (s.at1 t).2 ≠ 0) : Lens.steps (s :: l) t = (.mk 0 0 0 [] [] [], (s.at1 t).2) := by
  unfold Lens.steps; rw [if_pos h]
theorem steps_full {s : Lens} {l : List Lens} {t : Typ} (h : (s.at1 t).2 = 0) (h2 : (s.at1 t).1.right = false) : Lens.steps (s :: l) t = (.mk 0 0 0 [] [] [], 2) := by
  unfold Lens.steps; rw [if_neg (fun hn => hn h), if_pos h2]
theorem steps_on {s : Lens} {l : List Lens} {t : Typ} (h : (s.at1 t).2 = 0) (h2 : (s.at1 t).1.right = true) : Lens.steps (s :: l) t = Lens.steps l (s.at1 t).1 := by
  conv => lhs; unfold Lens.steps
  rw [if_neg (fun hn => hn h), if_neg (by rw [h2]; decide)]
end Go.Proofs.YtelkpflpgpdkdaaGreatDoor
namespace Go.Proofs.YtelkpflpgpdkdaaGreatDoor
open Go.RowKit Go.Lib
theorem turn_kind (s : Lens) : Lens.turn s = if s.kind = 1 then .mk s.kind s.b s.a s.typ s.doc s.swaps s.subs else if s.kind = 2 ∨ s.kind = 4 ∨ s.kind = 6 then .mk (s.kind + 1) s.a s.b s.typ s.doc s.swaps s.subs else if s.kind = 3 ∨ s.kind = 5 ∨ s.kind = 7 then .mk (s.kind - 1) s.a s.b s.typ s.doc s.swaps s.subs
    else if s.kind = 9 ∨ s.kind = 10 then .mk s.kind s.a s.b s.typ s.doc s.swaps (Lens.back s.subs) else s := by
  cases s
  rfl
end Go.Proofs.YtelkpflpgpdkdaaGreatDoor
namespace Go.Proofs.YtelkpflpgpdkdaaGreatDoor
open Go.RowKit Go.Lib
theorem turn_same (s : Lens) : (Lens.turn s).typ = s.typ ∧ (Lens.turn s).doc = s.doc ∧ (Lens.turn s).swaps = s.swaps := by
  rw [turn_kind]
  split
  · exact ⟨rfl, rfl, rfl⟩
  · split
    · exact ⟨rfl, rfl, rfl⟩
    · split
      · exact ⟨rfl, rfl, rfl⟩
      · split <;> exact ⟨rfl, rfl, rfl⟩
end Go.Proofs.YtelkpflpgpdkdaaGreatDoor
namespace Go.Proofs.YtelkpflpgpdkdaaGreatDoor
open Go.RowKit Go.Lib
namespace Typ
inductive Good : Typ → Prop where
  | mk (t : Typ) (hf : ∀ f ∈ t.fields, Good f.typ) (hk : ∀ x ∈ t.of, x.kind ≠ 0) (ho : ∀ x ∈ t.of, Good x) : Good t
theorem Good.fld {t : Typ} (h : Good t) {f : Fld} (hf : f ∈ t.fields) : Good f.typ := by cases h with | mk _ h _ _ => exact h f hf
end Typ
end Go.Proofs.YtelkpflpgpdkdaaGreatDoor
namespace Go.Proofs.YtelkpflpgpdkdaaGreatDoor
open Go.RowKit Go.Lib
abbrev Flds := List (Str × Doc)
def FSrt (l : Flds) : Prop := l.Pairwise fun p q => sLt p.1 q.1 = true
def fget (s : Str) : Flds → Option Doc
  | [] => none
  | p :: l => if p.1 = s then some p.2 else fget s l
def fdel (s : Str) (l : Flds) : Flds := l.filter fun p => decide (p.1 ≠ s)
def fput (s : Str) (d : Doc) : Flds → Flds
  | [] => [(s, d)]
  | p :: l => if sLt p.1 s then p :: fput s d l else if sLt s p.1 then (s, d) :: p :: l else (s, d) :: l
def fputs : List (Str × Doc) → Flds → Flds
  | [], l => l
  | p :: m, l => fputs m (fput p.1 p.2 l)
def fOf (d : Doc) : Flds := fputs (d.keys.zip d.kids) []
def recOf (l : Flds) : Doc := .mk 1 0 ⟨#[]⟩ (l.map (·.1)) (l.map (·.2))
theorem fget_put (s u : Str) (d : Doc) : ∀ l : Flds, fget u (fput s d l) = if u = s then some d else fget u l
  | [] => by
    simp only [fput, fget]
    by_cases h : u = s
    · subst h; simp
    · rw [if_neg h, if_neg fun e => h e.symm]
  | p :: l => by
    have ih := fget_put s u d l
    unfold fput
    split
    · rename_i h1
      simp only [fget, ih]
      by_cases h : u = s
      · subst h
        have : p.1 ≠ u := fun e => by rw [e, sLt_irr] at h1; cases h1
        simp [this]
      · simp only [if_neg h]
    · rename_i h1
      split
      · simp only [fget]
        by_cases h : u = s
        · subst h; simp
        · rw [if_neg h, if_neg fun e => h e.symm]
      · rename_i h2
        have he : p.1 = s := Decidable.byContradiction fun hne => h2 (sLt_tri (by simpa using h1) hne)
        simp only [fget]
        by_cases h : u = s
        · subst h; simp
        · rw [if_neg h, if_neg fun e => h e.symm, if_neg fun e => h (e.symm.trans he)]
theorem fget_del (s u : Str) : ∀ l : Flds, fget u (fdel s l) = if u = s then none else fget u l
  | [] => by simp [fdel, fget]
  | p :: l => by
    have ih := fget_del s u l
    unfold fdel at ih ⊢
    by_cases hp : p.1 = s
    · rw [List.filter_cons_of_neg (by simpa using hp), ih]
      by_cases h : u = s
      · simp [h]
      · simp only [if_neg h, fget]
        rw [if_neg fun e => h (e.symm.trans hp)]
    · rw [List.filter_cons_of_pos (by simpa using hp)]
      simp only [fget, ih]
      by_cases h : u = s
      · subst h; simp [hp]
      · simp only [if_neg h]
theorem fget_mem {s : Str} {d : Doc} : ∀ {l : Flds}, fget s l = some d → (s, d) ∈ l
  | [], h => by cases h
  | p :: l, h => by
    unfold fget at h
    split at h
    · rename_i e; cases h; rw [← e]; exact List.mem_cons_self ..
    · exact List.mem_cons_of_mem _ (fget_mem h)
theorem fget_none {s : Str} : ∀ {l : Flds}, fget s l = none ↔ s ∉ l.map (·.1)
  | [] => by simp [fget]
  | p :: l => by
    unfold fget
    have ih := @fget_none s l
    split
    · rename_i e; simp [e]
    · rename_i e
      rw [ih, List.map_cons, List.mem_cons]
      exact ⟨fun h => by rintro (h1 | h1); exact e h1.symm; exact h h1, fun h h1 => h (.inr h1)⟩
theorem fput_mem {s : Str} {d : Doc} {x : Str × Doc} : ∀ {l : Flds}, x ∈ fput s d l → x = (s, d) ∨ x ∈ l
  | [], h => by simpa [fput] using h
  | p :: l, h => by
    unfold fput at h
    split at h
    · rcases List.mem_cons.1 h with h | h
      · exact .inr (h ▸ List.mem_cons_self ..)
      · exact (fput_mem h).imp_right (List.mem_cons_of_mem _)
    · split at h
      · rcases List.mem_cons.1 h with h | h
        · exact .inl h
        · exact .inr h
      · rcases List.mem_cons.1 h with h | h
        · exact .inl h
        · exact .inr (List.mem_cons_of_mem _ h)
theorem FSrt.put {s : Str} {d : Doc} : ∀ {l : Flds}, FSrt l → FSrt (fput s d l)
  | [], _ => by simp [fput, FSrt]
  | p :: l, h => by
    obtain ⟨h1, h2⟩ := List.pairwise_cons.1 h
    unfold fput
    split
    · rename_i hlt
      refine List.pairwise_cons.2 ⟨fun q hq => ?_, FSrt.put h2⟩
      rcases fput_mem hq with rfl | hq
      · exact hlt
      · exact h1 q hq
    · rename_i hn
      split
      · rename_i hlt
        refine List.pairwise_cons.2 ⟨fun q hq => ?_, h⟩
        rcases List.mem_cons.1 hq with rfl | hq
        · exact hlt
        · exact sLt_trans hlt (h1 q hq)
      · rename_i h3
        have he : p.1 = s := Decidable.byContradiction fun hne => h3 (sLt_tri (by simpa using hn) hne)
        subst he
        exact List.pairwise_cons.2 ⟨h1, h2⟩
theorem FSrt.del {s : Str} {l : Flds} (h : FSrt l) : FSrt (fdel s l) := List.Pairwise.filter _ h
theorem FSrt.puts {m : List (Str × Doc)} : ∀ {l : Flds}, FSrt l → FSrt (fputs m l) := by
  induction m with
  | nil => exact fun h => h
  | cons p m ih => exact fun h => ih h.put
theorem fOf_srt (d : Doc) : FSrt (fOf d) := FSrt.puts List.Pairwise.nil
/-- Two lists of the same fields are one. -/
theorem flds_ext : ∀ {l m : Flds}, FSrt l → FSrt m → (∀ s, fget s l = fget s m) → l = m
  | [], [], _, _, _ => rfl
  | [], q :: m, _, _, h => by have := h q.1; simp [fget] at this
  | p :: l, [], _, _, h => by have := h p.1; simp [fget] at this
  | p :: l, q :: m, hl, hm, h => by
    obtain ⟨h1, h2⟩ := List.pairwise_cons.1 hl
    obtain ⟨h3, h4⟩ := List.pairwise_cons.1 hm
    have hne1 : ∀ x ∈ l, x.1 ≠ p.1 := fun x hx e => by have := h1 x hx; rw [e, sLt_irr] at this; cases this
    have hne3 : ∀ x ∈ m, x.1 ≠ q.1 := fun x hx e => by have := h3 x hx; rw [e, sLt_irr] at this; cases this
    have e : p.1 = q.1 := Decidable.byContradiction fun hne => by
      have hp := h p.1
      have hq := h q.1
      simp only [fget, if_true, if_neg fun e : q.1 = p.1 => hne e.symm] at hp
      simp only [fget, if_true, if_neg hne] at hq
      have a1 := h3 _ (fget_mem hp.symm)
      have a2 := h1 _ (fget_mem hq)
      rw [sLt_asym a1] at a2; cases a2
    have e2 : p.2 = q.2 := by
      have hp := h p.1
      simp only [fget, if_true, if_pos e.symm] at hp
      exact Option.some.inj hp
    have e3 : l = m := flds_ext h2 h4 fun s => by
      by_cases hs : s = p.1
      · subst hs
        rw [fget_none.2 fun hm => by obtain ⟨x, hx, hxe⟩ := List.mem_map.1 hm; exact hne1 x hx hxe, fget_none.2 fun hm => by obtain ⟨x, hx, hxe⟩ := List.mem_map.1 hm; exact hne3 x hx (hxe.trans e)]
      · have := h s
        simp only [fget, if_neg fun e : p.1 = s => hs e.symm, if_neg fun e' : q.1 = s => hs (e'.symm.trans e.symm)] at this
        exact this
    rw [e3, Prod.ext e e2]
theorem fputs_srt : ∀ (m l : Flds), FSrt (l ++ m) → fputs m l = l ++ m
  | [], l, _ => by simp [fputs]
  | p :: m, l, h => by
    have hp : fput p.1 p.2 l = l ++ [p] := by
      have hall : ∀ x ∈ l, sLt x.1 p.1 = true := fun x hx => (List.pairwise_append.1 h).2.2 x hx p (List.mem_cons_self ..)
      clear h
      induction l with
      | nil => rfl
      | cons x l ih =>
        unfold fput
        rw [if_pos (hall x (List.mem_cons_self ..)), ih fun y hy => hall y (List.mem_cons_of_mem _ hy)]
        rfl
    unfold fputs
    rw [hp, fputs_srt m _ (by simpa using h)]
    simp
theorem fOf_srted {d : Doc} (h : FSrt (d.keys.zip d.kids)) : fOf d = d.keys.zip d.kids := by
  unfold fOf
  rw [fputs_srt _ _ (by simpa using h)]
  rfl
theorem zip_fst : ∀ {l : List Str} {m : List Doc}, l.length = m.length → (l.zip m).map (·.1) = l
  | [], [], _ => rfl
  | _ :: _, _ :: _, h => by simp [zip_fst (Nat.succ.inj h)]
theorem zip_snd : ∀ {l : List Str} {m : List Doc}, l.length = m.length → (l.zip m).map (·.2) = m
  | [], [], _ => rfl
  | _ :: _, _ :: _, h => by simp [zip_snd (Nat.succ.inj h)]
theorem fOf_rec {l : Flds} (h : FSrt l) : fOf (recOf l) = l := by
  have hz : (recOf l).keys.zip (recOf l).kids = l := by
    show (l.map (·.1)).zip (l.map (·.2)) = l
    rw [List.zip_map', List.map_id']
  rw [fOf_srted (by rw [hz]; exact h), hz]
theorem fputs_append (a b : List (Str × Doc)) : ∀ l : Flds, fputs (a ++ b) l = fputs b (fputs a l) := by
  induction a with
  | nil => exact fun _ => rfl
  | cons p a ih => exact fun l => ih _
/-- The bytes' order, as the library's sorted keys have it. -/
theorem bytesLess_lt : ∀ a b : List UInt8, Op.bytesLess a b = decide (a < b)
  | [], [] => rfl
  | [], _ :: _ => rfl
  | _ :: _, [] => rfl
  | a :: l, b :: m => by
    unfold Op.bytesLess
    have ih := bytesLess_lt l m
    by_cases h : a < b
    · have : a :: l < b :: m := List.Lex.rel h
      simp [h, this]
    · by_cases h2 : a = b
      · subst h2
        rw [ih]
        simp [h]
      · have : ¬ a :: l < b :: m := fun hlt => by
          cases hlt with
          | rel h3 => exact h h3
          | cons h3 => exact h2 rfl
        simp [h, h2, this]
theorem keys_sorted {l : Flds} {ss : List (List UInt8)} (h : FSrt l) (hp : ss.Perm (l.map fun p => p.1.data.toList)) : ss.mergeSort (fun x y => decide (x ≤ y)) = l.map fun p => p.1.data.toList := by
  have tr : ∀ a b c : List UInt8, (decide (a ≤ b)) = true → decide (b ≤ c) = true → decide (a ≤ c) = true := fun a b c h1 h2 => by simp only [decide_eq_true_eq] at *; exact List.le_trans h1 h2
  have tot : ∀ a b : List UInt8, (decide (a ≤ b) || decide (b ≤ a)) = true := fun a b => by simp only [Bool.or_eq_true, decide_eq_true_eq]; exact List.le_total a b
  refine List.Perm.eq_of_pairwise (le := fun a b => decide (a ≤ b) = true) (fun a b _ _ h1 h2 => ?_) (List.pairwise_mergeSort tr tot ss) (List.pairwise_map.2 (h.imp fun {p q} hpq => ?_)) ((List.mergeSort_perm ss _).trans hp)
  · simp only [decide_eq_true_eq] at h1 h2
    exact List.le_antisymm h1 h2
  · unfold sLt at hpq
    rw [bytesLess_lt, decide_eq_true_eq, toList_data, toList_data] at hpq
    exact decide_eq_true (List.le_of_lt hpq)
end Go.Proofs.YtelkpflpgpdkdaaGreatDoor
namespace Go.Proofs.YtelkpflpgpdkdaaGreatDoor
open Go.RowKit Go.Lib
def resDrop (l : List Res) (ed : Int) (st : List Int) (ks : List Str) : List Res := l.filter fun x => !(resLess x (placeRes ed st ks) == 0)
def resIns (x : Res) : List Res → List Res
  | [] => [x]
  | y :: l => if resLess y x < 0 then y :: resIns x l else x :: y :: l
def resPut (l : List Res) (x : Res) : List Res := resIns x (resDrop l x.edge x.step x.at_)
def resGet (l : List Res) (ed : Int) (st : List Int) (ks : List Str) : Option Res := l.find? fun x => resLess x (placeRes ed st ks) == 0
structure WS where
  res : List Res
  needs : List Res
  err : Int
/-- A record, or a dictionary, whose parts may be gone through. -/
def OkKeys (k : Int) (d : Doc) : Prop := d.kind = k ∧ d.num = 0 ∧ d.str = ⟨#[]⟩ ∧ d.keys.length = d.kids.length ∧ FSrt (d.keys.zip d.kids) ∧ (∀ s ∈ d.keys, s.size ≤ 256) ∧ d.keys.length ≤ 1000
/-- What the proofs ask ahead of each step. -/
structure WOk (f : Flds) (w : WS) (st : List Int) (ks : List Str) : Prop where
  srt : FSrt f
  len : f.length ≤ 1000
  docs : ∀ p ∈ f, p.1.size ≤ 256 ∧ p.2.fit
  res : w.res.length ≤ 100000 ∧ ∀ x ∈ w.res, x.fit
  needs : w.needs.length ≤ 100000 ∧ ∀ x ∈ w.needs, x.fit
  place : st.length ≤ 1000 ∧ ks.length ≤ 1000
/-- Fields that a record may be made of. -/
def FOk (f : Flds) : Prop := f.length ≤ 1000 ∧ ∀ p ∈ f, p.1.size ≤ 256 ∧ p.2.fit
def turnK (bk : Bool) (k : Int) : Int := if bk then (if k = 2 ∨ k = 4 ∨ k = 6 then k + 1 else if k = 3 ∨ k = 5 ∨ k = 7 then k - 1 else k) else k
def turnA (bk : Bool) (k : Int) (a b : Str) : Str := if bk = true ∧ k = 1 then b else a
def turnB (bk : Bool) (k : Int) (a b : Str) : Str := if bk = true ∧ k = 1 then a else b
/-- The parts of a dictionary, one behind the other. -/
noncomputable def foldKids (F : Str → Flds → WS → Option (Flds × WS)) : List (Str × Doc) → WS → Option (List Doc × WS)
  | [], w => some ([], w)
  | (s, d) :: l, w => open Classical in if OkKeys 1 d then (F s (fOf d) w).bind fun p => if FOk p.1 then (foldKids F l p.2).bind fun q => some (recOf p.1 :: q.1, q.2) else none else none
section
variable (cv : Doc → List (Int × Int) → Doc) (ed : Int) (bk : Bool)
mutual
noncomputable def wstep : Lens → List Int → List Str → Flds → WS → Option (Flds × WS)
  | .mk k a0 b0 ty d sw subs, st, ks, f, w =>
    let a := turnA bk k a0 b0
    let b := turnB bk k a0 b0
    let n := turnK bk k
    open Classical in
    if ¬ WOk f w st ks ∨ 256 < a.size then none else
    if n = 1 then (if 256 < b.size then none else match fget a f with
      | none => some (f, w)
      | some x => some (fput b x (fdel a f), w)) else
    if n = 2 then (if ¬ (ty.fit ∧ d.fit) then none else match resGet w.res ed st ks with
      | none => some (fput a d f, ⟨w.res, resPut w.needs ⟨ed, st, ks, d⟩, w.err⟩)
      | some y => some (fput a y.doc f, ⟨resDrop w.res ed st ks, resPut w.needs ⟨ed, st, ks, d⟩, if isOf ty y.doc then w.err else 8⟩)) else
    match fget a f with
    | none => none
    | some x =>
      if n = 3 then some (fdel a f, ⟨resPut w.res ⟨ed, st, ks, x⟩, w.needs, w.err⟩) else
      if n = 4 then (if ¬ OkKeys 1 x ∨ 256 < b.size ∨ a = b then none else match fget b (fOf x) with
        | none => none
        | some y => some (fput b y (fput a (recOf (fdel b (fOf x))) f), w)) else
      if n = 5 then (if ¬ OkKeys 1 x ∨ 256 < b.size ∨ a = b then none else match fget b f with
        | none => none
        | some y => some (fput a (recOf (fput b y (fOf x))) (fdel b f), w)) else
      if n = 6 then some (fput a (.mk 3 0 ⟨#[]⟩ [] [x]) f, w) else
      if n = 7 then (match x.kids with
        | [] => none
        | y :: _ => some (fput a y f, w)) else
      if n = 8 then some (fput a (cv x sw) f, w) else
      if n = 9 then (if ¬ OkKeys 1 x then none else (wsteps 0 subs st ks (fOf x) w).bind fun p => if FOk p.1 then some (fput a (recOf p.1) f, p.2) else none) else
      if n = 10 then (if ¬ OkKeys 2 x then none else (foldKids (fun s g w => wsteps 0 subs st (ks ++ [s]) g w) (x.keys.zip x.kids) w).bind fun p => some (fput a (.mk 2 0 ⟨#[]⟩ x.keys p.1) f, p.2)) else none
noncomputable def wsteps : Int → List Lens → List Int → List Str → Flds → WS → Option (Flds × WS)
  | _, [], _, _, f, w => some (f, w)
  | i, s :: l, st, ks, f, w => if bk then (wsteps (i + 1) l st ks f w).bind fun p => wstep s (st ++ [i]) ks p.1 p.2 else (wstep s (st ++ [i]) ks f w).bind fun p => wsteps (i + 1) l st ks p.1 p.2
end
end
end Go.Proofs.YtelkpflpgpdkdaaGreatDoor
namespace Go.Proofs.YtelkpflpgpdkdaaGreatDoor
open Go.RowKit Go.Lib
def zeroD : Doc := .mk 0 0 ⟨#[]⟩ [] []
section
variable {S : List Nat} {w w' : World} {b n : Nat} {l : Flds}
end
end Go.Proofs.YtelkpflpgpdkdaaGreatDoor
namespace Go.Proofs.YtelkpflpgpdkdaaGreatDoor
open Go.RowKit Go.Lib
/-- What a field that moves leaves, and makes, in one record. -/
def moveF (f : Flds) (a b : Str) : Flds := match fget a f with | none => f | some x => fput b x (fdel a f)
/-- What a field leaves, and makes, that moves from one record into another one. -/
def moveT (f g : Flds) (a b : Str) : Flds × Flds := match fget a f with | none => (f, g) | some x => (fdel a f, fput b x g)
end Go.Proofs.YtelkpflpgpdkdaaGreatDoor
namespace Go.Proofs.YtelkpflpgpdkdaaGreatDoor
open Go.RowKit Go.Lib
/-- A step turned round, but for what is within. -/
def turnH (s : Lens) : Lens := .mk (Lens.turn (.mk s.kind s.a s.b s.typ s.doc s.swaps [])).kind (Lens.turn (.mk s.kind s.a s.b s.typ s.doc s.swaps [])).a (Lens.turn (.mk s.kind s.a s.b s.typ s.doc s.swaps [])).b s.typ s.doc s.swaps s.subs
end Go.Proofs.YtelkpflpgpdkdaaGreatDoor
namespace Go.Proofs.YtelkpflpgpdkdaaGreatDoor
open Go.RowKit Go.Lib
theorem fget_of_mem {s : Str} {d : Doc} : ∀ {l : Flds}, FSrt l → (s, d) ∈ l → fget s l = some d
  | p :: l, h, hm => by
    unfold fget
    rcases List.mem_cons.1 hm with rfl | hm
    · rw [if_pos rfl]
    · rw [if_neg fun e => by have := (List.pairwise_cons.1 h).1 _ hm; rw [e, sLt_irr] at this; cases this]
      exact fget_of_mem (List.pairwise_cons.1 h).2 hm
end Go.Proofs.YtelkpflpgpdkdaaGreatDoor
namespace Go.Proofs.YtelkpflpgpdkdaaGreatDoor
open Go.RowKit Go.Lib
namespace Doc
mutual
/-- No row of keys is longer than that of kids. -/
def tidy : Doc → Prop
  | mk _ _ _ keys kids => keys.length ≤ kids.length ∧ tidys kids
def tidys : List Doc → Prop
  | [] => True
  | d :: l => tidy d ∧ tidys l
end
theorem tidys_iff {l : List Doc} : tidys l ↔ ∀ d ∈ l, d.tidy := by
  induction l with
  | nil => exact ⟨fun _ => nofun, fun _ => trivial⟩
  | cons d l ih =>
    rw [tidys, ih, List.forall_mem_cons]
theorem tidy_iff (d : Doc) : d.tidy ↔ d.keys.length ≤ d.kids.length ∧ ∀ x ∈ d.kids, x.tidy := by
  cases d; rw [tidy, tidys_iff]; rfl
theorem size_pos (d : Doc) : 0 < d.size := by rw [size_kids]; omega
mutual
theorem tidy_slim : ∀ d : Doc, d.tidy → d.size ≤ 1000000 → d.slim
  | mk k n s ks ds, h, hz => by
    have h1 := sizes_len ds
    rw [size] at hz
    exact ⟨by have := h.1; omega, tidys_slims ds h.2 (by omega)⟩
theorem tidys_slims : ∀ l : List Doc, tidys l → sizes l ≤ 1000000 → slims l
  | [], _, _ => trivial
  | d :: l, h, hz => by
    rw [sizes] at hz
    exact ⟨tidy_slim d h.1 (by omega), tidys_slims l h.2 (by omega)⟩
end
theorem tidy_fit {d : Doc} (h : d.tidy) (hz : d.size ≤ 1000000) : d.fit := ⟨hz, tidy_slim d h hz⟩
theorem part_tidy : ∀ (n : Nat) (d : Doc), d.size ≤ n → d.part = true → d.tidy
  | 0, d, h, _ => by have := d.size_pos; omega
  | n + 1, d, h, hp => by
    rw [part_kids, Bool.and_eq_true, Bool.and_eq_true, List.all_eq_true] at hp
    refine (tidy_iff d).2 ⟨?_, fun x hx => part_tidy n x ?_ (hp.2 x hx)⟩
    · have h1 := hp.1.1
      unfold plain at h1
      repeat' split at h1
      all_goals simp only [Bool.and_eq_true, decide_eq_true_eq, Bool.false_eq_true] at h1
      all_goals omega
    · have := size_le_sizes hx; rw [size_kids] at h; omega
theorem right_parts {d : Doc} (h : d.right = true) : d.depth ≤ 12 ∧ d.size ≤ 512 ∧ d.part = true := by
  simpa only [right, Bool.and_eq_true, decide_eq_true_eq, and_assoc] using h
theorem right_tidy {d : Doc} (h : d.right = true) : d.tidy := part_tidy _ d (Nat.le_refl _) (right_parts h).2.2
theorem right_fit {d : Doc} (h : d.right = true) : d.fit := tidy_fit (right_tidy h) (by have := (right_parts h).2.1; omega)
theorem right_kid {d x : Doc} (h : d.right = true) (hx : x ∈ d.kids) : x.right = true := by
  obtain ⟨h1, h2, h3⟩ := right_parts h
  rw [part_kids, Bool.and_eq_true, List.all_eq_true] at h3
  have h4 := size_le_sizes hx
  have h5 := depth_le_depths hx
  rw [size_kids] at h2
  rw [depth_kids] at h1
  simp only [right, Bool.and_eq_true, decide_eq_true_eq]
  exact ⟨⟨by omega, by omega⟩, h3.2 x hx⟩
end Doc
/-- How great the fields are. -/
def fsize : Flds → Nat
  | [] => 0
  | p :: l => p.2.size + fsize l
theorem fsize_sizes (l : Flds) : fsize l = Doc.sizes (l.map (·.2)) := by
  induction l with
  | nil => rfl
  | cons p l ih => rw [fsize, ih, List.map_cons, Doc.sizes]
theorem fsize_perm {l m : Flds} (h : l.Perm m) : fsize l = fsize m := by
  induction h with
  | nil => rfl
  | cons p _ ih => simp only [fsize, ih]
  | swap p q l => simp only [fsize]; omega
  | trans _ _ h1 h2 => exact h1.trans h2
theorem fsrt_ne {p : Str × Doc} {l : Flds} (h : FSrt (p :: l)) : ∀ q ∈ l, q.1 ≠ p.1 := fun q hq e => by
  have := (List.pairwise_cons.1 h).1 q hq
  rw [e, sLt_irr] at this; cases this
theorem fdel_none {s : Str} {l : Flds} (h : fget s l = none) : fdel s l = l := by
  rw [fget_none] at h
  exact List.filter_eq_self.2 fun p hp => by
    simp only [decide_eq_true_eq]; rintro rfl; exact h (List.mem_map_of_mem hp)
theorem fdel_perm {s : Str} {d : Doc} : ∀ {l : Flds}, FSrt l → fget s l = some d → l.Perm ((s, d) :: fdel s l)
  | [], _, h => by cases h
  | p :: l, hs, h => by
    have hne := fsrt_ne hs
    unfold fget at h
    by_cases e : p.1 = s
    · rw [if_pos e] at h; cases h
      have : fdel s (p :: l) = l := by
        unfold fdel
        rw [List.filter_cons_of_neg (by simpa using e)]
        exact List.filter_eq_self.2 fun q hq => by simp only [decide_eq_true_eq]; rw [← e]; exact hne q hq
      rw [this, ← e]
    · rw [if_neg e] at h
      have ih := fdel_perm (List.pairwise_cons.1 hs).2 h
      have : fdel s (p :: l) = p :: fdel s l := by unfold fdel; rw [List.filter_cons_of_pos (by simpa using e)]
      rw [this]
      exact (ih.cons p).trans (List.Perm.swap _ _ _)
theorem fput_perm {s : Str} {d : Doc} : ∀ {l : Flds}, fget s l = none → (fput s d l).Perm ((s, d) :: l)
  | [], _ => List.Perm.refl _
  | p :: l, h => by
    unfold fget at h
    by_cases e : p.1 = s
    · rw [if_pos e] at h; cases h
    · rw [if_neg e] at h
      unfold fput
      split
      · exact ((fput_perm h).cons p).trans (List.Perm.swap _ _ _)
      · rename_i h1
        rw [if_pos (sLt_tri (by simpa using h1) e)]
theorem fput_del {s : Str} {d : Doc} {l : Flds} (h : FSrt l) : fput s d l = fput s d (fdel s l) :=
  flds_ext h.put h.del.put fun u => by rw [fget_put, fget_put, fget_del]; split <;> rfl
/-- Put over what may be there. -/
theorem fput_over {s : Str} {d : Doc} {l : Flds} (h : FSrt l) : (fput s d l).Perm ((s, d) :: fdel s l) := by
  rw [fput_del h]
  exact fput_perm (by rw [fget_del, if_pos rfl])
namespace Typ
theorem find_name {t : Typ} {s : Str} {f : Fld} (h : t.find s = some f) : f.name = s ∧ f ∈ t.fields ∧ t.kind = 1 := by
  have h1 := find_mem h
  rcases find_cases t s with ⟨_, h2⟩ | ⟨_, x, _, _, h2, h3⟩
  · rw [h2] at h; cases h
  · rw [h2] at h; cases h
    refine ⟨h3, h1, Decidable.byContradiction fun hk => ?_⟩
    unfold find at h2; rw [if_neg hk] at h2; cases h2
theorem find_of {t : Typ} (hk : t.kind = 1) : ∀ s, t.find s = t.fields.find? fun f => f.name.toList == s.toList := fun s => by unfold find; rw [if_pos hk]
theorem find_srt {t : Typ} (hk : t.kind = 1) (hs : Srt t.fields) {f : Fld} (hf : f ∈ t.fields) : t.find f.name = some f := by
  rw [find_of hk]
  generalize t.fields = l at *
  induction l with
  | nil => cases hf
  | cons g l ih =>
    obtain ⟨h1, h2⟩ := List.pairwise_cons.1 hs
    rcases List.mem_cons.1 hf with rfl | hf
    · rw [List.find?_cons_of_pos (by simp)]
    · rw [List.find?_cons_of_neg fun e => ?_]
      · exact ih h2 hf
      · have := h1 f hf
        rw [str_ext (a := g.name) (b := f.name) (by simpa using e), sLt_irr] at this; cases this
theorem find_iff {t : Typ} (hk : t.kind = 1) (hs : Srt t.fields) {s : Str} {f : Fld} : t.find s = some f ↔ f ∈ t.fields ∧ f.name = s :=
  ⟨fun h => ⟨(find_name h).2.1, (find_name h).1⟩, fun ⟨h1, h2⟩ => by rw [← h2]; exact find_srt hk hs h1⟩
theorem find_without {t : Typ} (hk : t.kind = 1) (hs : Srt t.fields) (a s : Str) : (t.without a).find s = if s = a then none else t.find s := by
  have hs2 := without_srt a hs
  refine Option.ext fun f => ?_
  rw [find_iff rfl hs2]
  have hm : f ∈ (t.without a).fields ↔ f ∈ t.fields ∧ f.name ≠ a := by
    show f ∈ t.fields.filter _ ↔ _
    rw [List.mem_filter]
    simp only [Bool.not_eq_true', beq_eq_false_iff_ne, ne_eq]
    exact ⟨fun h => ⟨h.1, fun e => h.2 (by rw [e])⟩, fun h => ⟨h.1, fun e => h.2 (str_ext e)⟩⟩
  rw [hm]
  split
  · rename_i e; subst e
    exact ⟨fun h => absurd h.2 h.1.2, nofun⟩
  · rename_i e
    rw [find_iff hk hs]
    exact ⟨fun h => ⟨h.1.1, h.2⟩, fun h => ⟨⟨h.1, by rw [h.2]; exact e⟩, h.2⟩⟩
theorem find_with {t : Typ} (hk : t.kind = 1) (hs : Srt t.fields) {g : Fld} (hn : ∀ f ∈ t.fields, f.name ≠ g.name) (s : Str) : (t.with_ g).find s = if s = g.name then some g else t.find s := by
  have hs2 := with_srt hs hn
  refine Option.ext fun f => ?_
  rw [find_iff rfl hs2]
  have hm : f ∈ (t.with_ g).fields ↔ f = g ∨ f ∈ t.fields := by
    show f ∈ ins g t.fields ↔ _
    rw [(Typ.ins_perm g t.fields).mem_iff, List.mem_append, List.mem_singleton, or_comm]
  rw [hm]
  split
  · rename_i e; subst e
    constructor
    · rintro ⟨rfl | h, h2⟩
      · rfl
      · exact absurd h2 (hn f h)
    · rintro h; cases h; exact ⟨.inl rfl, rfl⟩
  · rename_i e
    rw [find_iff hk hs]
    constructor
    · rintro ⟨rfl | h, h2⟩
      · exact absurd h2.symm e
      · exact ⟨h, h2⟩
    · exact fun h => ⟨.inr h.1, h.2⟩
theorem find_none {t : Typ} (hk : t.kind = 1) (hs : Srt t.fields) {s : Str} (h : t.find s = none) : ∀ f ∈ t.fields, f.name ≠ s := fun f hf e => by
  rw [(find_iff hk hs).2 ⟨hf, e⟩] at h; cases h
theorem find_set {t : Typ} (hk : t.kind = 1) (hs : Srt t.fields) (a : Str) (x : Typ) (s : Str) : (t.set a x).find s = if s = a then some (.mk a false x) else t.find s := by
  unfold set
  rw [find_with rfl (without_srt a hs) (without_not a)]
  show (if s = a then _ else _) = _
  split
  · rfl
  · rename_i e; rw [find_without hk hs, if_neg e]
theorem right_name {t : Typ} (h : t.right = true) {s : Str} {f : Fld} (hf : t.find s = some f) : s.size ≤ 16 := by
  obtain ⟨h1, h2, hk⟩ := find_name hf
  obtain ⟨_, _, h3⟩ := right_parts h
  rw [part_kids, Bool.and_eq_true, if_pos hk] at h3
  simp only [Bool.and_eq_true] at h3
  obtain ⟨j, hj, hjx⟩ := List.getElem_of_mem h2
  have h4 := h3.2.1.1
  unfold fldsTo at h4
  rw [List.all_eq_true] at h4
  have h5 := h4 j (List.mem_range.2 hj)
  unfold fldStep at h5
  rw [List.getElem?_eq_getElem hj, List.getElem?_eq_getElem (show j - 1 < t.fields.length by omega)] at h5
  simp only [Bool.and_eq_true, nameOk, decide_eq_true_eq] at h5
  rw [hjx, h1] at h5
  exact h5.1.1.2
theorem right_few {t : Typ} (h : t.right = true) : t.fields.length ≤ 128 := by
  have h1 := (right_parts h).1
  have h2 := sizeFs_len t.fields
  have := size_parts t
  omega
end Typ
mutual
/-- A document of a type, with n records within; where e does not hold, what has no parts by its type may be whatever. -/
inductive Shape (e : Prop) : Typ → Doc → Nat → Prop where
  | recd {t : Typ} {d : Doc} {n : Nat} (hk : t.kind = 1) (ho : OkKeys 1 d) (hf : FShape e t (d.keys.zip d.kids) n) (hq : ∀ s f, t.find s = some f → f.opt = false → fget s (d.keys.zip d.kids) ≠ none) : Shape e t d (n + 1)
  | dict {t : Typ} {d : Doc} {n : Nat} (hk : t.kind = 2) (ho : OkKeys 2 d) (h : LShape e t.of0 d.kids n) : Shape e t d n
  | list {t : Typ} {d : Doc} {n : Nat} (hk : t.kind = 3) (hd : d.kind = 3 ∧ d.num = 0 ∧ d.str = ⟨#[]⟩ ∧ d.keys = []) (h : LShape e t.of0 d.kids n) (hl : t.lo ≤ d.kids.length ∧ (d.kids.length : Int) ≤ t.hi) : Shape e t d n
  | leaf {t : Typ} {d : Doc} (hk : scalarB t = true) (he : e → isOf t d = true) : Shape e t d 0
inductive FShape (e : Prop) : Typ → Flds → Nat → Prop where
  | nil {t : Typ} : FShape e t [] 0
  | cons {t : Typ} {s : Str} {x : Doc} {l : Flds} {f : Fld} {c n : Nat} (hf : t.find s = some f) (hx : Shape e f.typ x c) (hl : FShape e t l n) : FShape e t ((s, x) :: l) (c + n)
inductive LShape (e : Prop) : Typ → List Doc → Nat → Prop where
  | nil {t : Typ} : LShape e t [] 0
  | cons {t : Typ} {x : Doc} {l : List Doc} {c n : Nat} (hx : Shape e t x c) (hl : LShape e t l n) : LShape e t (x :: l) (c + n)
end
mutual
theorem Shape.mono {e e' : Prop} (he : e' → e) {t : Typ} {d : Doc} {n : Nat} : Shape e t d n → Shape e' t d n
  | .recd hk ho hf hq => .recd hk ho (FShape.mono he hf) hq
  | .dict hk ho h => .dict hk ho (LShape.mono he h)
  | .list hk hd h hl => .list hk hd (LShape.mono he h) hl
  | .leaf hk h => .leaf hk fun x => h (he x)
theorem FShape.mono {e e' : Prop} (he : e' → e) {t : Typ} {l : Flds} {n : Nat} : FShape e t l n → FShape e' t l n
  | .nil => .nil
  | .cons hf hx hl => .cons hf (Shape.mono he hx) (FShape.mono he hl)
theorem LShape.mono {e e' : Prop} (he : e' → e) {t : Typ} {l : List Doc} {n : Nat} : LShape e t l n → LShape e' t l n
  | .nil => .nil
  | .cons hx hl => .cons (Shape.mono he hx) (LShape.mono he hl)
end
theorem FShape.uncons {e : Prop} {t : Typ} {s : Str} {x : Doc} {l : Flds} {n : Nat} (h : FShape e t ((s, x) :: l) n) : ∃ f c m, t.find s = some f ∧ Shape e f.typ x c ∧ FShape e t l m ∧ n = c + m := by
  cases h with
  | cons hf hx hl => exact ⟨_, _, _, hf, hx, hl, rfl⟩
theorem FShape.perm {e : Prop} {t : Typ} {l m : Flds} (hp : l.Perm m) : ∀ {n : Nat}, FShape e t l n → FShape e t m n := by
  induction hp with
  | nil => exact fun h => h
  | cons p _ ih =>
    intro n h
    obtain ⟨f, c, m, hf, hx, hl, rfl⟩ := h.uncons
    exact .cons hf hx (ih hl)
  | swap p q l =>
    intro n h
    obtain ⟨f, c, m, hf, hx, hl, rfl⟩ := h.uncons
    obtain ⟨f2, c2, m2, hf2, hx2, hl2, rfl⟩ := hl.uncons
    rw [show c + (c2 + m2) = c2 + (c + m2) by omega]
    exact .cons hf2 hx2 (.cons hf hx hl2)
  | trans _ _ h1 h2 => exact fun h => h2 (h1 h)
theorem FShape.turn {e : Prop} {t t' : Typ} : ∀ {l : Flds} {n : Nat}, FShape e t l n → (∀ s ∈ l.map (·.1), t'.find s = t.find s) → FShape e t' l n
  | [], _, .nil, _ => .nil
  | _ :: _, _, .cons hf hx hl, h => .cons ((h _ (List.mem_cons_self ..)).trans hf) hx (FShape.turn hl fun s hs => h s (List.mem_cons_of_mem _ hs))
theorem FShape.named {e : Prop} {t : Typ} : ∀ {l : Flds} {n : Nat}, FShape e t l n → ∀ s ∈ l.map (·.1), ∃ f, t.find s = some f
  | [], _, .nil, _, hs => by cases hs
  | _ :: _, _, .cons hf _ hl, s, hs => by
    rcases List.mem_cons.1 hs with rfl | hs
    · exact ⟨_, hf⟩
    · exact FShape.named hl s hs
/-- A record's fields, by its type. -/
structure RecOk (e : Prop) (t : Typ) (f : Flds) (c : Nat) : Prop where
  srt : FSrt f
  flds : FShape e t f c
  need : ∀ s g, t.find s = some g → g.opt = false → fget s f ≠ none
theorem RecOk.take {e : Prop} {t : Typ} {f : Flds} {c : Nat} (h : RecOk e t f c) {s : Str} {x : Doc} (hs : fget s f = some x) : ∃ g a b, t.find s = some g ∧ Shape e g.typ x a ∧ FShape e t (fdel s f) b ∧ c = a + b :=
  (h.flds.perm (fdel_perm h.srt hs)).uncons
theorem RecOk.miss {e : Prop} {t : Typ} {f : Flds} {c : Nat} (h : RecOk e t f c) {s : Str} (hs : t.find s = none) : fget s f = none := by
  rw [fget_none]
  intro hm
  obtain ⟨g, hg⟩ := h.flds.named s hm
  rw [hs] at hg; cases hg
theorem RecOk.there {e : Prop} {t : Typ} {f : Flds} {c : Nat} (h : RecOk e t f c) {s : Str} {g : Fld} (hs : t.find s = some g) (ho : g.opt = false) : ∃ x a b, fget s f = some x ∧ Shape e g.typ x a ∧ FShape e t (fdel s f) b ∧ c = a + b := by
  cases hg : fget s f with
  | none => exact absurd hg (h.need s g hs ho)
  | some x =>
    obtain ⟨g', a, b, h1, h2⟩ := h.take hg
    rw [hs] at h1; cases h1
    exact ⟨x, a, b, rfl, h2⟩
theorem fdel_names {s u : Str} {l : Flds} (h : u ∈ (fdel s l).map (·.1)) : u ≠ s ∧ u ∈ l.map (·.1) := by
  obtain ⟨p, hp, rfl⟩ := List.mem_map.1 h
  unfold fdel at hp
  rw [List.mem_filter, decide_eq_true_eq] at hp
  exact ⟨hp.2, List.mem_map_of_mem hp.1⟩
theorem nodup_len {α : Type} [DecidableEq α] : ∀ (l m : List α), l.Nodup → (∀ x ∈ l, x ∈ m) → l.length ≤ m.length
  | [], _, _, _ => Nat.zero_le _
  | x :: l, m, h, hs => by
    obtain ⟨h1, h2⟩ := List.nodup_cons.1 h
    have hx := hs x (List.mem_cons_self ..)
    have := nodup_len l (m.erase x) h2 fun y hy => (List.mem_erase_of_ne (by rintro rfl; exact h1 hy)).2 (hs y (List.mem_cons_of_mem _ hy))
    rw [List.length_erase_of_mem hx] at this
    have := List.length_pos_of_mem hx
    simp only [List.length_cons]; omega
theorem RecOk.len {e : Prop} {t : Typ} {f : Flds} {c : Nat} (h : RecOk e t f c) (ht : t.right = true) : f.length ≤ 128 := by
  have hn : (f.map (·.1)).Nodup := List.pairwise_map.2 (h.srt.imp fun {p q} hpq e => by rw [e, sLt_irr] at hpq; cases hpq)
  have := nodup_len (f.map (·.1)) (t.fields.map Fld.name) hn fun s hs => by
    obtain ⟨g, hg⟩ := h.flds.named s hs
    obtain ⟨h1, h2, _⟩ := Typ.find_name hg
    rw [← h1]; exact List.mem_map_of_mem h2
  rw [List.length_map, List.length_map] at this
  exact Nat.le_trans this (Typ.right_few ht)
theorem RecOk.small {e : Prop} {t : Typ} {f : Flds} {c : Nat} (h : RecOk e t f c) (ht : t.right = true) : ∀ s ∈ f.map (·.1), s.size ≤ 16 := fun s hs => by
  obtain ⟨g, hg⟩ := h.flds.named s hs
  exact Typ.right_name ht hg
theorem recOf_zip (l : Flds) : (recOf l).keys.zip (recOf l).kids = l := by
  show (l.map (·.1)).zip (l.map (·.2)) = l
  rw [List.zip_map', List.map_id']
theorem RecOk.shape {e : Prop} {t : Typ} {f : Flds} {c : Nat} (h : RecOk e t f c) (ht : t.right = true) (hk : t.kind = 1) : Shape e t (recOf f) (c + 1) := by
  refine .recd hk ⟨rfl, rfl, rfl, ?_, ?_, fun s hs => ?_, ?_⟩ ?_ ?_
  · show (f.map (·.1)).length = (f.map (·.2)).length
    rw [List.length_map, List.length_map]
  · rw [recOf_zip]; exact h.srt
  · have := h.small ht s hs; omega
  · have := h.len ht; show (f.map (·.1)).length ≤ 1000; rw [List.length_map]; omega
  · rw [recOf_zip]; exact h.flds
  · rw [recOf_zip]; exact h.need
theorem Shape.open {e : Prop} {t : Typ} {d : Doc} {n : Nat} (h : Shape e t d n) (hk : t.kind = 1) : ∃ c, n = c + 1 ∧ OkKeys 1 d ∧ RecOk e t (fOf d) c := by
  cases h with
  | recd _ ho hf hq => exact ⟨_, rfl, ho, by rw [fOf_srted ho.2.2.2.2.1]; exact ⟨ho.2.2.2.2.1, hf, hq⟩⟩
  | dict hk2 => omega
  | list hk2 => omega
  | leaf hk2 => rw [scalarB, hk] at hk2; cases hk2
theorem Shape.scalar {e : Prop} {t : Typ} {d : Doc} {n : Nat} (h : Shape e t d n) (hk : scalarB t = true) : n = 0 ∧ (e → isOf t d = true) := by
  have h4 : 4 ≤ t.kind := by simp only [scalarB, Bool.and_eq_true, decide_eq_true_eq] at hk; exact hk.1
  cases h with
  | recd hk2 => omega
  | dict hk2 => omega
  | list hk2 => omega
  | leaf _ he => exact ⟨rfl, he⟩
theorem Shape.dictKids {e : Prop} {t : Typ} {d : Doc} {n : Nat} (h : Shape e t d n) (hk : t.kind = 2) : OkKeys 2 d ∧ LShape e t.of0 d.kids n := by
  cases h with
  | recd hk2 => omega
  | dict _ h1 h2 => exact ⟨h1, h2⟩
  | list hk2 => omega
  | leaf hk2 => rw [scalarB, hk] at hk2; cases hk2
theorem Shape.listKids {e : Prop} {t : Typ} {d : Doc} {n : Nat} (h : Shape e t d n) (hk : t.kind = 3) : LShape e t.of0 d.kids n ∧ t.lo ≤ d.kids.length ∧ (d.kids.length : Int) ≤ t.hi := by
  cases h with
  | recd hk2 => omega
  | dict hk2 => omega
  | list _ _ h1 h2 => exact ⟨h1, h2⟩
  | leaf hk2 => rw [scalarB, hk] at hk2; cases hk2
theorem LShape.one {e : Prop} {t : Typ} {x : Doc} {n : Nat} : LShape e t [x] n ↔ Shape e t x n := by
  constructor
  · intro h
    cases h with
    | cons hx hl => cases hl; exact hx
  · intro h
    have := LShape.cons h (LShape.nil (e := e) (t := t))
    rwa [Nat.add_zero] at this
end Go.Proofs.YtelkpflpgpdkdaaGreatDoor
