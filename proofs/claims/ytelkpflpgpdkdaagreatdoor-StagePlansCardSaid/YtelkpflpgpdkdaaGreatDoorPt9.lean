/- Part 9 of what StageOrder and StagePlans ask: for every input each returns true, and its input reads as it did. No condition. -/
import Derived.Test.YtelkpflpgpdkdaaGreatDoorPt8
namespace Go.Proofs.YtelkpflpgpdkdaaGreatDoor
open Go.RowKit Go.Lib
def kindsOk (t : Typ) (d : Doc) : Bool := if t.kind = 7 then d.kind == 6 else t.kind == d.kind
def withinE (n : Int) (t : Typ) : Int := if n < t.lo ∨ t.hi < n then 8 else 0
/-- Are both right? -/
def bothRight (t : Typ) (d : Doc) : Bool := t.right && d.right
def fitsE (t : Typ) (d : Doc) : Int :=
  if kindsOk t d = false then 7 else if t.kind = 2 ∨ t.kind = 3 then withinE d.kids.length t else if t.kind = 4 then withinE d.num t else if t.kind = 6 then withinE d.str.size t
  else if t.kind = 7 then (if (t.names.any fun s => s.toList == d.str.toList) = true then 0 else 8) else 0
end Go.Proofs.YtelkpflpgpdkdaaGreatDoor
namespace Go.Proofs.YtelkpflpgpdkdaaGreatDoor
open Go.RowKit Go.Lib
def resLess (x y : Res) : Int := if cmpI x.edge y.edge ≠ 0 then cmpI x.edge y.edge else if cmpL cmpI x.step y.step ≠ 0 then cmpL cmpI x.step y.step else cmpL cmpS x.at_ y.at_
/-- Small enough to be gone over. -/
def Res.fit (x : Res) : Prop := x.step.length ≤ 1000000 ∧ x.at_.length ≤ 1000000 ∧ x.doc.fit
theorem resLess_first (x y : Res) : firstNZ [cmpI x.edge y.edge, cmpL cmpI x.step y.step, cmpL cmpS x.at_ y.at_] = resLess x y := by
  simp only [firstNZ, resLess]
  split
  · rfl
  · split
    · rfl
    · split
      · rfl
      · rename_i h; exact (Decidable.not_not.1 h).symm
end Go.Proofs.YtelkpflpgpdkdaaGreatDoor
namespace Go.Proofs.YtelkpflpgpdkdaaGreatDoor
open Go.RowKit Go.Lib
namespace Lens
/-- The steps within those of a row. -/
def subsSize : List Lens → Nat
  | [] => 0
  | s :: l => size s.subs + subsSize l
theorem size1_subs (s : Lens) : size1 s = size s.subs := by cases s; rfl
theorem depth1_subs (s : Lens) : depth1 s = depth s.subs := by cases s; rfl
theorem size_subs (l : List Lens) : size l = l.length + subsSize l := by
  induction l with
  | nil => rfl
  | cons s l ih => simp only [size, subsSize, size1_subs, List.length_cons, ih]; omega
theorem subsSize_append (l m : List Lens) : subsSize (l ++ m) = subsSize l + subsSize m := by
  induction l with
  | nil => simp [subsSize]
  | cons s l ih => simp only [List.cons_append, subsSize, ih]; omega
theorem depth_append (l m : List Lens) : depth (l ++ m) = max (depth l) (depth m) := by
  induction l with
  | nil => simp [depth]
  | cons s l ih => simp only [List.cons_append, depth, ih]; omega
theorem take_subsSize {l : List Lens} {k : Nat} {x : Lens} (h : l[k]? = some x) : subsSize (l.take (k + 1)) = subsSize (l.take k) + size x.subs := by
  rw [List.take_add_one, h, Option.toList_some, subsSize_append]; simp [subsSize]
theorem take_depth {l : List Lens} {k : Nat} {x : Lens} (h : l[k]? = some x) : depth (l.take (k + 1)) = max (depth (l.take k)) (depth x.subs + 1) := by
  rw [List.take_add_one, h, Option.toList_some, depth_append]; simp [depth, depth1_subs]
theorem depth_le : ∀ (n : Nat) (l : List Lens), size l ≤ n → depth l ≤ size l := by
  intro n
  induction n with
  | zero => intro l h; cases l with | nil => exact Nat.le_refl _ | cons s l => simp [size] at h
  | succ n ih =>
    intro l h
    induction l with
    | nil => exact Nat.le_refl _
    | cons s l ihl =>
      simp only [size, depth, size1_subs, depth1_subs] at h ⊢
      have h1 := ih s.subs (by omega)
      have h2 := ihl (by omega)
      omega
theorem depth_take (l : List Lens) (k : Nat) : depth (l.take k) ≤ depth l := by
  have h1 := depth_append (l.take k) (l.drop k)
  rw [List.take_append_drop] at h1
  omega
end Lens
end Go.Proofs.YtelkpflpgpdkdaaGreatDoor
namespace Go.Proofs.YtelkpflpgpdkdaaGreatDoor
open Go.RowKit Go.Lib
/-- A place, as a thing that is left out there. -/
def placeRes (edge : Int) (st : List Int) (ks : List Str) : Res := ⟨edge, st, ks, .mk 0 0 ⟨#[]⟩ [] []⟩
def resIdx (l : List Res) (edge : Int) (st : List Int) (ks : List Str) : Int := idxOf (fun x => resLess x (placeRes edge st ks) == 0) l
end Go.Proofs.YtelkpflpgpdkdaaGreatDoor
namespace Go.Proofs.YtelkpflpgpdkdaaGreatDoor
open Go.RowKit Go.Lib
/-- The thing at place j is right, and behind the one ahead of it. -/
def resStep (l : List Res) (j : Nat) : Bool := match l[j]?, l[j - 1]? with
  | some x, some p => x.doc.right && !(decide (0 < j) && decide (0 ≤ resLess p x))
  | _, _ => true
def resTo (l : List Res) (k : Nat) : Bool := (List.range k).all (resStep l)
def resRight (l : List Res) : Bool := resTo l l.length && decide (l.length ≤ 256)
theorem resTo_succ (l : List Res) (k : Nat) : resTo l (k + 1) = (resTo l k && resStep l k) := by simp [resTo, List.range_succ]
theorem resTo_false {l : List Res} {k : Nat} (hk : k < l.length) (h : resStep l k = false) : resRight l = false := by
  rw [resRight, resTo]
  have : (List.range l.length).all (resStep l) = false := by
    rw [Bool.eq_false_iff]
    intro hall
    rw [List.all_eq_true] at hall
    rw [hall k (List.mem_range.2 hk)] at h
    cases h
  rw [this, Bool.false_and]
end Go.Proofs.YtelkpflpgpdkdaaGreatDoor
namespace Go.Proofs.YtelkpflpgpdkdaaGreatDoor
open Go.RowKit Go.Lib
/-- Where a hop leads. -/
def hopEnd (j : Join) (back : Bool) : Int := if back then j.from_ else j.to
def schemaIdx (r : Registry) (s : Str) : Int := idxOf (fun x : Named => x.name.toList == s.toList) r.schemas
end Go.Proofs.YtelkpflpgpdkdaaGreatDoor
namespace Go.Proofs.YtelkpflpgpdkdaaGreatDoor
open Go.RowKit Go.Lib
/-- What is left of 700 parts behind those of a row, each told by f. -/
def fewKs (f : Doc → Int) : List Doc → Int → Option Int
  | [], v => some v
  | x :: l, v => if f x = 0 ∨ v - 700 + f x ≤ 1 then none else fewKs f l (v - 700 + f x)
/-- How many parts are left of 700; 0: too many, or too deep. -/
def fewD : Nat → Doc → Int
  | 0, _ => 0
  | n + 1, d => if 600 < d.kids.length ∨ 600 < d.keys.length ∨ 600 < d.str.size then 0 else match fewKs (fewD n) d.kids 700 with
    | none => 0
    | some v => if (d.keys.all fun s => decide (s.size ≤ 600)) = true then v - 1 else 0
/-- Is it small? -/
def fewDoc (d : Doc) : Bool := decide (0 < fewD 20 d)
end Go.Proofs.YtelkpflpgpdkdaaGreatDoor
namespace Go.Proofs.YtelkpflpgpdkdaaGreatDoor
open Go.RowKit Go.Lib
def fewTs (f : Typ → Int) : List Typ → Int → Option Int
  | [], v => some v
  | x :: l, v => if f x = 0 ∨ v - 200 + f x ≤ 1 then none else fewTs f l (v - 200 + f x)
/-- How many parts are left of 200; 0: too many, or too deep. -/
def fewT : Nat → Typ → Int
  | 0, _ => 0
  | n + 1, t => if 60 < t.fields.length ∨ 60 < t.of.length ∨ 60 < t.names.length then 0 else
    if (t.names.all fun y => decide (y.size ≤ 300)) = true ∧ (t.fields.all fun y => decide (y.name.size ≤ 100)) = true then match fewTs (fewT n) (t.fields.map Fld.typ ++ t.of) 200 with
      | none => 0
      | some v => v - 1
    else 0
/-- Is it small? -/
def fewTyp (t : Typ) : Bool := decide (0 < fewT 20 t)
end Go.Proofs.YtelkpflpgpdkdaaGreatDoor
namespace Go.Proofs.YtelkpflpgpdkdaaGreatDoor
open Go.RowKit Go.Lib
/-- What a step must be, but for those within; z: what those within tell. -/
def fewStep (x : Lens) (z : Int) : Bool := fewTyp x.typ && fewDoc x.doc && !decide (z < 0) && !decide (100 < x.swaps.length) && !decide (200 < IntKind.i64.wrap ((x.a.size : Int) + (x.b.size : Int)))
def fewLs (f : List Lens → Int) : List Lens → Int → Option Int
  | [], v => some v
  | x :: l, v => if fewStep x (f x.subs) = false ∨ 100 < v + f x.subs then none else fewLs f l (v + f x.subs)
/-- How many steps there are, within n - 1; -1: too many, or too deep. -/
def fewL : Nat → List Lens → Int
  | 0, _ => -1
  | n + 1, l => if 100 < l.length then -1 else match fewLs (fewL n) l l.length with
    | none => -1
    | some v => v
theorem fewLs_le {f : List Lens → Int} (hf : ∀ x, -1 ≤ f x ∧ f x ≤ 100) : ∀ (l : List Lens) (v r : Int), 0 ≤ v → v ≤ 100 → fewLs f l v = some r → 0 ≤ r ∧ r ≤ 100
  | [], v, r, h1, h2, h => by cases h; exact ⟨h1, h2⟩
  | x :: l, v, r, h1, h2, h => by
    rw [fewLs] at h
    split at h
    · cases h
    · rename_i hn
      have hs : fewStep x (f x.subs) = true := by
        cases hc : fewStep x (f x.subs) with
        | true => rfl
        | false => exact absurd (.inl hc) hn
      have hz : ¬ f x.subs < 0 := by
        intro hz
        rw [fewStep, decide_eq_true hz] at hs
        simp at hs
      exact fewLs_le hf l _ r (by omega) (by omega) h
theorem fewL_le : ∀ (n : Nat) (l : List Lens), -1 ≤ fewL n l ∧ fewL n l ≤ 100
  | 0, _ => by unfold fewL; omega
  | n + 1, l => by
    unfold fewL
    split
    · omega
    · split
      · omega
      · rename_i v hv
        have := fewLs_le (fewL_le n) l _ v (by omega) (by omega) hv
        omega
/-- Is it small? -/
def fewLens (l : List Lens) : Bool := decide (0 ≤ fewL 13 l)
end Go.Proofs.YtelkpflpgpdkdaaGreatDoor
namespace Go.Proofs.YtelkpflpgpdkdaaGreatDoor
open Go.RowKit Go.Lib
def fewNamed (x : Named) : Bool := fewTyp x.typ
def fewJoin (x : Join) : Bool := fewLens x.lens
def fewReg (r : Registry) : Bool := decide (r.schemas.length ≤ 20) && decide (r.joins.length ≤ 20) && (r.schemas.all fewNamed && r.joins.all fewJoin)
end Go.Proofs.YtelkpflpgpdkdaaGreatDoor
namespace Go.Proofs.YtelkpflpgpdkdaaGreatDoor
open Go.RowKit Go.Lib
def resSame (x y : Res) : Bool := resLess x y == 0 && decide (Doc.cmp x.doc y.doc = 0)
def stateSame (s t : State) : Bool := decide (Doc.cmp s.doc t.doc = 0) && eqF resSame s.res t.res
def State.fit (s : State) : Prop := s.doc.fit ∧ s.res.length ≤ 1000000 ∧ ∀ x ∈ s.res, x.fit
end Go.Proofs.YtelkpflpgpdkdaaGreatDoor
namespace Go.Proofs.YtelkpflpgpdkdaaGreatDoor
open Go.RowKit Go.Lib
theorem slims_of {l : List Doc} (h : ∀ x ∈ l, x.slim) : Doc.slims l := by
  induction l with
  | nil => trivial
  | cons x l ih => exact ⟨h x (List.mem_cons_self ..), ih fun y hy => h y (List.mem_cons_of_mem _ hy)⟩
theorem fewKs_sum {f : Doc → Int} : ∀ (l : List Doc) (v r : Int), (∀ x ∈ l, f x ≠ 0 → f x = 700 - x.size ∧ x.slim) → fewKs f l v = some r → r = v - Doc.sizes l ∧ ∀ x ∈ l, x.slim
  | [], v, r, _, h => by
    cases h
    exact ⟨by simp [Doc.sizes], fun x hx => by cases hx⟩
  | x :: l, v, r, hf, h => by
    rw [fewKs] at h
    split at h
    · cases h
    · rename_i hn
      obtain ⟨h1, h2⟩ := hf x (List.mem_cons_self ..) (by intro h0; exact hn (.inl h0))
      obtain ⟨h3, h4⟩ := fewKs_sum l _ r (fun y hy => hf y (List.mem_cons_of_mem _ hy)) h
      refine ⟨by rw [h3, h1]; simp only [Doc.sizes]; omega, fun y hy => ?_⟩
      rcases List.mem_cons.1 hy with rfl | hy
      · exact h2
      · exact h4 y hy
theorem fewD_size : ∀ (n : Nat) (d : Doc), fewD n d ≠ 0 → fewD n d = 700 - d.size ∧ d.slim
  | 0, d, h => absurd rfl h
  | n + 1, d, h => by
    unfold fewD at h ⊢
    split at h
    · exact absurd rfl h
    · rename_i hc
      rw [if_neg hc]
      split at h
      · exact absurd rfl h
      · rename_i v hv
        split at h
        · rename_i hk
          obtain ⟨h1, h2⟩ := fewKs_sum d.kids 700 v (fun x _ hx => fewD_size n x hx) hv
          rw [if_pos hk, h1]
          refine ⟨by rw [Doc.size_kids]; omega, ?_⟩
          cases d
          exact ⟨by simp only [Doc.keys] at hc; omega, slims_of h2⟩
        · exact absurd rfl h
theorem fewDoc_fit {d : Doc} (h : fewDoc d = true) : d.fit := by
  have h1 : 0 < fewD 20 d := of_decide_eq_true h
  obtain ⟨h2, h3⟩ := fewD_size 20 d (by omega)
  exact ⟨by omega, h3⟩
theorem tslims_of {l : List Typ} (h : ∀ x ∈ l, x.slim) : Typ.slims l := by
  induction l with
  | nil => trivial
  | cons x l ih => exact ⟨h x (List.mem_cons_self ..), ih fun y hy => h y (List.mem_cons_of_mem _ hy)⟩
theorem tslimFs_of {l : List Fld} (h : ∀ x ∈ l, x.typ.slim) : Typ.slimFs l := by
  induction l with
  | nil => trivial
  | cons x l ih =>
    refine ⟨?_, ih fun y hy => h y (List.mem_cons_of_mem _ hy)⟩
    have := h x (List.mem_cons_self ..)
    cases x
    exact this
theorem fewTs_sum {f : Typ → Int} : ∀ (l : List Typ) (v r : Int), (∀ x ∈ l, f x ≠ 0 → f x = 200 - x.size ∧ x.slim) → fewTs f l v = some r → r = v - Typ.sizes l ∧ ∀ x ∈ l, x.slim
  | [], v, r, _, h => by
    cases h
    exact ⟨by simp [Typ.sizes], fun x hx => by cases hx⟩
  | x :: l, v, r, hf, h => by
    rw [fewTs] at h
    split at h
    · cases h
    · rename_i hn
      obtain ⟨h1, h2⟩ := hf x (List.mem_cons_self ..) (by intro h0; exact hn (.inl h0))
      obtain ⟨h3, h4⟩ := fewTs_sum l _ r (fun y hy => hf y (List.mem_cons_of_mem _ hy)) h
      refine ⟨by rw [h3, h1]; simp only [Typ.sizes]; omega, fun y hy => ?_⟩
      rcases List.mem_cons.1 hy with rfl | hy
      · exact h2
      · exact h4 y hy
theorem sizes_map (l : List Fld) : Typ.sizes (l.map Fld.typ) = Typ.sizeFs l := by
  induction l with
  | nil => rfl
  | cons f l ih => simp only [List.map_cons, Typ.sizes, Typ.sizeFs, Typ.sizeF_typ, ih]
theorem fewT_size : ∀ (n : Nat) (t : Typ), fewT n t ≠ 0 → fewT n t = 200 - t.size ∧ t.slim
  | 0, t, h => absurd rfl h
  | n + 1, t, h => by
    unfold fewT at h ⊢
    split at h
    · exact absurd rfl h
    · rename_i hc
      rw [if_neg hc]
      split at h
      · rename_i hk
        rw [if_pos hk]
        split at h
        · exact absurd rfl h
        · rename_i v hv
          obtain ⟨h1, h2⟩ := fewTs_sum _ 200 v (fun x _ hx => fewT_size n x hx) hv
          rw [h1, Typ.sizes_append, sizes_map]
          refine ⟨by rw [Typ.size_parts]; omega, ?_⟩
          have h3 : ∀ x ∈ t.fields, x.typ.slim := fun x hx => h2 x.typ (List.mem_append_left _ (List.mem_map_of_mem hx))
          have h4 : ∀ x ∈ t.of, x.slim := fun x hx => h2 x (List.mem_append_right _ hx)
          cases t
          exact ⟨by simp only [Typ.names] at hc; omega, tslimFs_of h3, tslims_of h4⟩
      · exact absurd rfl h
theorem fewTyp_fit {t : Typ} (h : fewTyp t = true) : t.fit := by
  have h1 : 0 < fewT 20 t := of_decide_eq_true h
  obtain ⟨h2, h3⟩ := fewT_size 20 t (by omega)
  exact ⟨by omega, h3⟩
theorem fewStep_true {x : Lens} {z : Int} (h : fewStep x z = true) : fewTyp x.typ = true ∧ fewDoc x.doc = true ∧ 0 ≤ z ∧ x.swaps.length ≤ 100 := by
  simp only [fewStep, Bool.and_eq_true, Bool.not_eq_true', decide_eq_false_iff_not] at h
  obtain ⟨⟨⟨⟨h1, h2⟩, h3⟩, h4⟩, _⟩ := h
  exact ⟨h1, h2, by omega, by omega⟩
theorem fewLs_sum {f : List Lens → Int} : ∀ (l : List Lens) (v r : Int), (∀ x ∈ l, 0 ≤ f x.subs → f x.subs = Lens.size x.subs ∧ Lens.fits x.subs) → fewLs f l v = some r → r = v + Lens.subsSize l ∧ Lens.fits l
  | [], v, r, _, h => by
    cases h
    exact ⟨by simp [Lens.subsSize], trivial⟩
  | x :: l, v, r, hf, h => by
    rw [fewLs] at h
    split at h
    · cases h
    · rename_i hn
      have hs : fewStep x (f x.subs) = true := by
        cases hc : fewStep x (f x.subs) with
        | true => rfl
        | false => exact absurd (.inl hc) hn
      obtain ⟨h1, h2, h3, h4⟩ := fewStep_true hs
      obtain ⟨h5, h6⟩ := hf x (List.mem_cons_self ..) h3
      obtain ⟨h7, h8⟩ := fewLs_sum l _ r (fun y hy => hf y (List.mem_cons_of_mem _ hy)) h
      refine ⟨by rw [h7, h5]; simp only [Lens.subsSize]; omega, ?_, h8⟩
      have h9 := fewTyp_fit h1
      have h10 := fewDoc_fit h2
      cases x
      exact ⟨h9, h10, by simp only [Lens.swaps] at h4; omega, h6⟩
theorem fewL_size : ∀ (n : Nat) (l : List Lens), 0 ≤ fewL n l → fewL n l = Lens.size l ∧ Lens.fits l
  | 0, l, h => by unfold fewL at h; omega
  | n + 1, l, h => by
    unfold fewL at h ⊢
    split at h
    · omega
    · rename_i hc
      rw [if_neg hc]
      split at h
      · omega
      · rename_i v hv
        obtain ⟨h1, h2⟩ := fewLs_sum l _ v (fun x _ hx => fewL_size n x.subs hx) hv
        exact ⟨by rw [h1, Lens.size_subs]; omega, h2⟩
theorem fewLens_fit {l : List Lens} (h : fewLens l = true) : Lens.fit l := by
  have h1 : 0 ≤ fewL 13 l := of_decide_eq_true h
  obtain ⟨h2, h3⟩ := fewL_size 13 l h1
  have h4 := (fewL_le 13 l).2
  exact ⟨by omega, h3⟩
theorem fewReg_fit {r : Registry} (h : fewReg r = true) : r.schemas.length ≤ 20 ∧ r.joins.length ≤ 20 ∧ (∀ x ∈ r.schemas, x.typ.fit) ∧ ∀ x ∈ r.joins, Lens.fit x.lens := by
  simp only [fewReg, Bool.and_eq_true, decide_eq_true_eq] at h
  exact ⟨h.1.1, h.1.2, fun x hx => fewTyp_fit (List.all_eq_true.1 h.2.1 x hx), fun x hx => fewLens_fit (List.all_eq_true.1 h.2.2 x hx)⟩
end Go.Proofs.YtelkpflpgpdkdaaGreatDoor
namespace Go.Proofs.YtelkpflpgpdkdaaGreatDoor
open Go.RowKit Go.Lib
/-- Of a record's field. -/
def errsF (go : Typ → Doc → List Int) (d : Doc) (f : Fld) : List Int :=
  if 0 ≤ keyIdx d.keys f.name then (match d.kids[(keyIdx d.keys f.name).toNat]? with | some x => go f.typ x | none => []) else if f.opt then [] else [9]
def errsK (t : Typ) (s : Str) : List Int := if fieldIdx t s < 0 then [10] else []
def errsO (go : Typ → Doc → List Int) (t : Typ) (x : Doc) : List Int := match t.of with | o :: _ => go o x | [] => []
def errsIn (go : Typ → Doc → List Int) (t : Typ) (d : Doc) : List Int :=
  if t.kind = 1 then t.fields.flatMap (errsF go d) ++ d.keys.flatMap (errsK t) else if t.kind = 2 ∨ t.kind = 3 then d.kids.flatMap (errsO go t) else []
/-- The faults' numbers, down to a depth. -/
def errs : Nat → Typ → Doc → List Int
  | 0, _, _ => []
  | n + 1, t, d => (if fitsE t d = 0 then [] else [fitsE t d]) ++ if fitsE t d = 7 then [] else errsIn (errs n) t d
/-- Is a document of a type? -/
def isOf (t : Typ) (d : Doc) : Bool := bothRight t d && decide (errs 12 t d = [])
theorem flatMap_len {α β : Type} {l : List α} {f : α → List β} {g : α → Nat} (h : ∀ x ∈ l, (f x).length ≤ g x) : (l.flatMap f).length ≤ (l.map g).sum := by
  induction l with
  | nil => simp
  | cons x l ih =>
    have h1 := h x (List.mem_cons_self ..)
    have h2 := ih fun y hy => h y (List.mem_cons_of_mem _ hy)
    simp only [List.flatMap_cons, List.length_append, List.map_cons, List.sum_cons]
    omega
theorem sizeFs_sum (l : List Fld) : (l.map fun f => f.typ.size).sum = Typ.sizeFs l := by
  induction l with
  | nil => rfl
  | cons f l ih => rw [List.map_cons, List.sum_cons, ih]; cases f; rfl
theorem dsizes_sum (l : List Doc) : (l.map Doc.size).sum = Doc.sizes l := by
  induction l with
  | nil => rfl
  | cons f l ih => rw [List.map_cons, List.sum_cons, ih]; rfl
theorem sum_mul (l : List Nat) (c : Nat) : (l.map (· * c)).sum = l.sum * c := by
  induction l with
  | nil => simp
  | cons x l ih => simp only [List.map_cons, List.sum_cons, ih, Nat.add_mul]
theorem keys_flat (l : List Str) (t : Typ) : (l.flatMap (errsK t)).length ≤ l.length := by
  induction l with
  | nil => simp
  | cons x l ih =>
    have : (errsK t x).length ≤ 1 := by unfold errsK; split <;> simp
    simp only [List.flatMap_cons, List.length_append, List.length_cons]
    omega
theorem mul_sum (l : List Nat) (c : Nat) : (l.map (c * ·)).sum = c * l.sum := by
  induction l with
  | nil => simp
  | cons x l ih => simp only [List.map_cons, List.sum_cons, ih, Nat.mul_add]
theorem fld_depth {t : Typ} {f : Fld} (h : f ∈ t.fields) : f.typ.depth < t.depth := by
  have hd := Typ.depth_parts t
  have : ∀ l : List Fld, f ∈ l → f.typ.depth ≤ Typ.depthFs l := fun l => by
    induction l with
    | nil => intro h; cases h
    | cons g l ih =>
      intro h
      simp only [Typ.depthFs]
      rcases List.mem_cons.1 h with rfl | h
      · rw [Typ.depthF_typ]; omega
      · have := ih h; omega
  have := this _ h
  omega
theorem of_depth {t x : Typ} (h : x ∈ t.of) : x.depth < t.depth := by
  have hd := Typ.depth_parts t
  have : ∀ l : List Typ, x ∈ l → x.depth ≤ Typ.depths l := fun l => by
    induction l with
    | nil => intro h; cases h
    | cons g l ih =>
      intro h
      simp only [Typ.depths]
      rcases List.mem_cons.1 h with rfl | h
      · omega
      · have := ih h; omega
  have := this _ h
  omega
theorem part_kind {t : Typ} (h : t.part = true) : 1 ≤ t.kind ∧ t.kind ≤ 7 := by
  rw [Typ.part_kids] at h
  simp only [Bool.and_eq_true] at h
  have h2 := h.2
  by_cases h1 : t.kind = 1
  · omega
  rw [if_neg h1] at h2
  by_cases h3 : t.kind = 2 ∨ t.kind = 3
  · omega
  rw [if_neg h3] at h2
  by_cases h4 : t.kind = 4
  · omega
  rw [if_neg h4] at h2
  by_cases h5 : t.kind = 5
  · omega
  rw [if_neg h5] at h2
  by_cases h6 : t.kind = 6
  · omega
  rw [if_neg h6] at h2
  by_cases h7 : t.kind = 7
  · omega
  rw [if_neg h7] at h2
  cases h2
theorem part_bare {t : Typ} (h : t.part = true) : bareT t = true := by
  rw [Typ.part_kids, Bool.and_eq_true] at h
  exact h.1
theorem part_nofields {t : Typ} (h : t.part = true) (hk : t.kind ≠ 1) : t.fields = [] := by
  have h1 := part_bare h
  unfold bareT at h1
  simp only [Bool.not_eq_true', Bool.or_eq_false_iff, Bool.and_eq_false_iff, decide_eq_false_iff_not, Classical.not_not, hk, false_or] at h1
  exact List.eq_nil_of_length_eq_zero h1.1.1.1
theorem part_of {t : Typ} (h : t.part = true) (hk : t.kind = 2 ∨ t.kind = 3) : ∃ o, t.of = [o] ∧ o.part = true := by
  rw [Typ.part_kids, if_neg (by omega), if_pos hk] at h
  simp only [Bool.and_eq_true, decide_eq_true_eq, List.all_eq_true] at h
  obtain ⟨_, ⟨⟨h1, _⟩, _⟩, h2⟩ := h
  match ho : t.of, h1 with
  | [o], _ => exact ⟨o, rfl, h2 o (by rw [ho]; exact List.mem_singleton.2 rfl)⟩
theorem fits_seven {t : Typ} {d : Doc} (h : fitsE t d ≠ 7) : kindsOk t d = true := by
  cases hk : kindsOk t d with
  | true => rfl
  | false => exact absurd (by unfold fitsE; rw [if_pos hk]) h
theorem fits_kind {t : Typ} {d : Doc} (h : fitsE t d ≠ 7) (h3 : t.kind ≤ 3) : t.kind = d.kind := by
  have := fits_seven h
  unfold kindsOk at this
  rw [if_neg (by omega)] at this
  simpa using this
theorem errs_seven {n : Nat} {t : Typ} {d : Doc} (h : fitsE t d = 7) : errs (n + 1) t d = [7] := by
  simp [errs, h]
theorem errs_split (n : Nat) {t : Typ} {d : Doc} (hp : t.part = true) (h : fitsE t d ≠ 7) : errs (n + 1) t d = (if fitsE t d = 0 then [] else [fitsE t d]) ++ t.fields.flatMap (errsF (errs n) d) ++ (if t.kind = 1 then d.keys.flatMap (errsK t) else []) ++ (if t.kind = 2 ∨ t.kind = 3 then d.kids.flatMap (errsO (errs n) t) else []) := by
  simp only [errs, if_neg h, errsIn]
  by_cases h1 : t.kind = 1
  · have h23 : ¬ (t.kind = 2 ∨ t.kind = 3) := by omega
    rw [if_pos h1, if_pos h1, if_neg h23]; simp
  · rw [if_neg h1, if_neg h1, part_nofields hp h1]; simp
theorem keyIdx_cases (l : List Str) (s : Str) : keyIdx l s = -1 ∨ ∃ j : Nat, j < l.length ∧ keyIdx l s = (j : Int) := by
  unfold keyIdx idxOf
  split
  · rename_i h
    right
    obtain ⟨x, hx, hp⟩ := List.any_eq_true.1 h
    exact ⟨_, List.findIdx_lt_length_of_exists ⟨x, hx, hp⟩, rfl⟩
  · exact .inl rfl
theorem errsF_at {go : Typ → Doc → List Int} {d y : Doc} {f : Fld} {j : Nat} (hk : keyIdx d.keys f.name = (j : Int)) (hy : d.kids[j]? = some y) : errsF go d f = go f.typ y := by
  unfold errsF
  rw [hk, if_pos (by omega), Int.toNat_natCast, hy]
theorem errsF_miss {go : Typ → Doc → List Int} {d : Doc} {f : Fld} (hk : keyIdx d.keys f.name = -1) : errsF go d f = if f.opt then [] else [9] := by
  unfold errsF
  rw [hk, if_neg (by omega)]
end Go.Proofs.YtelkpflpgpdkdaaGreatDoor
namespace Go.Proofs.YtelkpflpgpdkdaaGreatDoor
open Go.RowKit Go.Lib
theorem flat_take {α β : Type} {l : List α} {f : α → List β} {k : Nat} {x : α} (h : l[k]? = some x) : (l.take (k + 1)).flatMap f = (l.take k).flatMap f ++ f x := by
  rw [List.take_add_one, h, List.flatMap_append]; simp
theorem flat_take_le {α β : Type} (l : List α) (f : α → List β) (k : Nat) : ((l.take k).flatMap f).length ≤ (l.flatMap f).length := by
  have : l.flatMap f = (l.take k).flatMap f ++ (l.drop k).flatMap f := by rw [← List.flatMap_append, List.take_append_drop]
  rw [this, List.length_append]; omega
end Go.Proofs.YtelkpflpgpdkdaaGreatDoor
namespace Go.Proofs.YtelkpflpgpdkdaaGreatDoor
open Go.RowKit Go.Lib
theorem errs_ne : ∀ (n : Nat) (t : Typ) (d : Doc), ∀ x ∈ errs n t d, x ≠ 0
  | 0, _, _, x, hx => by simp [errs] at hx
  | n + 1, t, d, x, hx => by
    simp only [errs, List.mem_append] at hx
    rcases hx with hx | hx
    · split at hx
      · cases hx
      · rename_i h; rw [List.mem_singleton.1 hx]; exact h
    · split at hx
      · cases hx
      · unfold errsIn at hx
        split at hx
        · rcases List.mem_append.1 hx with hx | hx
          · obtain ⟨f, _, hf⟩ := List.mem_flatMap.1 hx
            unfold errsF at hf
            split at hf
            · split at hf
              · exact errs_ne n _ _ x hf
              · cases hf
            · split at hf
              · cases hf
              · rw [List.mem_singleton.1 hf]; decide
          · obtain ⟨s, _, hs⟩ := List.mem_flatMap.1 hx
            unfold errsK at hs
            split at hs
            · rw [List.mem_singleton.1 hs]; decide
            · cases hs
        · split at hx
          · obtain ⟨y, _, hy⟩ := List.mem_flatMap.1 hx
            unfold errsO at hy
            split at hy
            · exact errs_ne n _ _ x hy
            · cases hy
          · cases hx
def allE (t : Typ) (d : Doc) : List Int := if bothRight t d then errs 12 t d else [1]
theorem isOf_all (t : Typ) (d : Doc) : isOf t d = decide (allE t d = []) := by
  unfold isOf allE
  cases bothRight t d <;> simp
theorem isOf_head (t : Typ) (d : Doc) : isOf t d = ((allE t d).headD 0 == 0) := by
  rw [isOf_all]
  have h : ∀ x ∈ allE t d, x ≠ 0 := by
    unfold allE
    split
    · exact errs_ne 12 t d
    · simp
  cases hl : allE t d with
  | nil => rfl
  | cons x l =>
    have := h x (by rw [hl]; exact List.mem_cons_self ..)
    simpa using this
theorem right_parts {t : Typ} {d : Doc} (h : bothRight t d = true) : t.size ≤ 128 ∧ t.depth ≤ 12 ∧ t.part = true ∧ d.size ≤ 512 ∧ d.part = true := by
  simp only [bothRight, Typ.right, Doc.right, Bool.and_eq_true, decide_eq_true_eq] at h
  exact ⟨h.1.1.1, h.1.1.2, h.1.2, h.2.1.2, h.2.2⟩
end Go.Proofs.YtelkpflpgpdkdaaGreatDoor
namespace Go.Proofs.YtelkpflpgpdkdaaGreatDoor
open Go.RowKit Go.Lib
namespace Typ
/-- A record's field. -/
def find (t : Typ) (s : Str) : Option Fld := if t.kind = 1 then t.fields.find? (fun f => f.name.toList == s.toList) else none
def without (t : Typ) (s : Str) : Typ := .mk 1 0 0 [] (t.fields.filter fun f => !(f.name.toList == s.toList)) []
def ins (f : Fld) : List Fld → List Fld
  | [] => [f]
  | g :: l => if sLt g.name f.name then g :: ins f l else f :: g :: l
def with_ (t : Typ) (f : Fld) : Typ := .mk 1 0 0 [] (ins f t.fields) []
def set (t : Typ) (s : Str) (x : Typ) : Typ := (t.without s).with_ (.mk s false x)
def of0 (t : Typ) : Typ := t.of.headD t
end Typ
def swapNums (l : List (Int × Int)) : List Int := l.flatMap fun p => [p.1, p.2]
def swapsE (l : List (Int × Int)) (t : Typ) : Int :=
  if l.length = 0 ∨ 32 < l.length ∨ ¬ (swapNums l).Nodup then 1 else if (swapNums l).any (fun n => decide (n < t.lo) || decide (t.hi < n)) then 8 else 0
def scalarE (t : Typ) (d : Doc) : Int := if (t.right && scalarB t) = false then 7 else if isOf t d = false then 8 else 0
def addE (t : Typ) (a : Str) (ty : Typ) (d : Doc) : Int := if nameOk a = false then 1 else if (t.find a).isSome then 5 else scalarE ty d
def renameE (t : Typ) (b : Str) : Int := if nameOk b = false then 1 else if (t.find b).isSome then 5 else 0
def removeE (f : Fld) (ty : Typ) (d : Doc) : Int := if Typ.same f.typ ty = false then 7 else scalarE ty d
def hoistE (t : Typ) (f : Fld) (b : Str) : Int :=
  if f.typ.kind ≠ 1 then 7 else match f.typ.find b with
  | none => 9
  | some g => if g.opt = true then 7 else if (t.find b).isSome then 5 else 0
def hoistT (t : Typ) (f : Fld) (a b : Str) : Typ := match f.typ.find b with
  | some g => (t.set a (f.typ.without b)).with_ g
  | none => t
def plungeE (t : Typ) (f : Fld) (a b : Str) : Int := match t.find b with
  | none => 9
  | some o => if o.opt = true ∨ f.typ.kind ≠ 1 ∨ a = b then 7 else if (f.typ.find b).isSome then 5 else 0
def plungeT (t : Typ) (f : Fld) (a b : Str) : Typ := match t.find b with
  | some o => (t.set a (f.typ.with_ o)).without b
  | none => t
def headE (f : Fld) : Int := if f.typ.kind ≠ 3 ∨ f.typ.lo ≠ 1 ∨ f.typ.hi ≠ 1 ∨ scalarB f.typ.of0 = false then 7 else 0
namespace Lens
mutual
/-- A step at a record's type: the type, or an error. -/
def at1 : Lens → Typ → Typ × Int
  | .mk k a b ty d sw subs, t =>
    if k = 2 then (t.with_ (.mk a false ty), addE t a ty d) else if k < 1 ∨ 10 < k then (t, 1) else match t.find a with
    | none => (t, 9)
    | some f =>
      if f.opt = true ∧ k ≠ 1 then (t, 7) else
      if k = 1 then ((t.without a).with_ (.mk b f.opt f.typ), renameE t b) else
      if k = 3 then (t.without a, removeE f ty d) else
      if k = 4 then (hoistT t f a b, hoistE t f b) else
      if k = 5 then (plungeT t f a b, plungeE t f a b) else
      if k = 6 then (t.set a (.mk 3 1 1 [] [] [f.typ]), if scalarB f.typ then 0 else 7) else
      if k = 7 then (t.set a f.typ.of0, headE f) else
      if k = 8 then (t, if f.typ.kind ≠ 4 then 7 else swapsE sw f.typ) else
      if k = 9 then (if f.typ.kind ≠ 1 then (t, 7) else (t.set a (steps subs f.typ).1, (steps subs f.typ).2)) else
      if f.typ.kind ≠ 2 ∨ f.typ.of0.kind ≠ 1 then (t, 7) else (t.set a (.mk 2 f.typ.lo f.typ.hi [] [] [(steps subs f.typ.of0).1]), (steps subs f.typ.of0).2)
/-- Steps, one behind the other. -/
def steps : List Lens → Typ → Typ × Int
  | [], t => (t, 0)
  | s :: l, t => if (at1 s t).2 ≠ 0 then (.mk 0 0 0 [] [] [], (at1 s t).2) else if (at1 s t).1.right = false then (.mk 0 0 0 [] [] [], 2) else steps l (at1 s t).1
end
/-- The type that a lens makes of one. -/
def target (l : List Lens) (t : Typ) : Typ × Int :=
  if t.right = false ∨ t.kind ≠ 1 then (.mk 0 0 0 [] [] [], 1) else if 64 < size l then (.mk 0 0 0 [] [] [], 2) else if 8 < depth l then (.mk 0 0 0 [] [] [], 6) else steps l t
mutual
/-- A step turned round; a lens turned round. -/
def turn : Lens → Lens
  | .mk k a b ty d sw subs => if k = 1 then .mk k b a ty d sw subs else if k = 2 ∨ k = 4 ∨ k = 6 then .mk (k + 1) a b ty d sw subs else if k = 3 ∨ k = 5 ∨ k = 7 then .mk (k - 1) a b ty d sw subs
    else if k = 9 ∨ k = 10 then .mk k a b ty d sw (back subs) else .mk k a b ty d sw subs
def back : List Lens → List Lens
  | [] => []
  | s :: l => back l ++ [turn s]
end
theorem back_eq (l : List Lens) : back l = (l.map turn).reverse := by
  induction l with
  | nil => rfl
  | cons s l ih => simp [back, ih]
/-- What a number is swapped with. -/
def swap (n : Int) : List (Int × Int) → Int
  | [] => n
  | p :: l => if p.1 = n then p.2 else if p.2 = n then p.1 else swap n l
end Lens
end Go.Proofs.YtelkpflpgpdkdaaGreatDoor
