/- Part 8 of what StageOrder and StagePlans ask: for every input each returns true, and its input reads as it did. No condition. -/
import Derived.Test.YtelkpflpgpdkdaaGreatDoorPt1
namespace Go.Proofs.YtelkpflpgpdkdaaGreatDoor
open Go.RowKit Go.Lib
abbrev Str := ByteArray
def sLt (a b : Str) : Bool := Op.bytesLess a.toList b.toList
inductive Doc where
  | mk (kind num : Int) (str : Str) (keys : List Str) (kids : List Doc)
namespace Doc
def kind : Doc → Int | mk k _ _ _ _ => k
def num : Doc → Int | mk _ n _ _ _ => n
def str : Doc → Str | mk _ _ s _ _ => s
def keys : Doc → List Str | mk _ _ _ k _ => k
def kids : Doc → List Doc | mk _ _ _ _ k => k
mutual
def depth : Doc → Nat
  | mk _ _ _ _ kids => depths kids + 1
def depths : List Doc → Nat
  | [] => 0
  | d :: l => max (depth d) (depths l)
end
mutual
def size : Doc → Nat
  | mk _ _ _ _ kids => sizes kids + 1
def sizes : List Doc → Nat
  | [] => 0
  | d :: l => size d + sizes l
end
theorem depth_kids (d : Doc) : d.depth = depths d.kids + 1 := by cases d; rfl
theorem size_kids (d : Doc) : d.size = sizes d.kids + 1 := by cases d; rfl
theorem depths_append (l m : List Doc) : depths (l ++ m) = max (depths l) (depths m) := by
  induction l with
  | nil => simp [depths]
  | cons d l ih => simp only [List.cons_append, depths, ih]; omega
theorem sizes_append (l m : List Doc) : sizes (l ++ m) = sizes l + sizes m := by
  induction l with
  | nil => simp [sizes]
  | cons d l ih => simp only [List.cons_append, sizes, ih]; omega
theorem depth_le_depths {d : Doc} {l : List Doc} (h : d ∈ l) : d.depth ≤ depths l := by
  induction l with
  | nil => cases h
  | cons e l ih =>
    simp only [depths]
    rcases List.mem_cons.1 h with rfl | h
    · omega
    · have := ih h; omega
theorem size_le_sizes {d : Doc} {l : List Doc} (h : d ∈ l) : d.size ≤ sizes l := by
  induction l with
  | nil => cases h
  | cons e l ih =>
    simp only [sizes]
    rcases List.mem_cons.1 h with rfl | h
    · omega
    · have := ih h; omega
end Doc
/-- A field's name: a small letter ahead; then small letters, digits, low lines; 1 to 16. -/
def nameAt (k : Nat) (c : UInt8) : Bool := (decide (97 ≤ c.toNat) && decide (c.toNat ≤ 122)) || (decide (0 < k) && (c.toNat == 95 || (decide (48 ≤ c.toNat) && decide (c.toNat ≤ 57))))
def namesFrom : Nat → List UInt8 → Bool
  | _, [] => true
  | k, c :: l => nameAt k c && namesFrom (k + 1) l
def nameOk (s : Str) : Bool := decide (1 ≤ s.size) && decide (s.size ≤ 16) && namesFrom 0 s.data.toList
end Go.Proofs.YtelkpflpgpdkdaaGreatDoor
namespace Go.Proofs.YtelkpflpgpdkdaaGreatDoor
open Go.RowKit Go.Lib
mutual
inductive Typ where
  | mk (kind lo hi : Int) (names : List Str) (fields : List Fld) (of : List Typ)
inductive Fld where
  | mk (name : Str) (opt : Bool) (typ : Typ)
end
namespace Typ
def kind : Typ → Int | mk k _ _ _ _ _ => k
def lo : Typ → Int | mk _ n _ _ _ _ => n
def hi : Typ → Int | mk _ _ n _ _ _ => n
def names : Typ → List Str | mk _ _ _ l _ _ => l
def fields : Typ → List Fld | mk _ _ _ _ l _ => l
def of : Typ → List Typ | mk _ _ _ _ _ l => l
end Typ
namespace Fld
def name : Fld → Str | mk s _ _ => s
def opt : Fld → Bool | mk _ b _ => b
def typ : Fld → Typ | mk _ _ t => t
end Fld
namespace Typ
mutual
def depth : Typ → Nat
  | mk _ _ _ _ fs of => max (depthFs fs) (depths of) + 1
def depthF : Fld → Nat
  | .mk _ _ t => depth t
def depthFs : List Fld → Nat
  | [] => 0
  | f :: l => max (depthF f) (depthFs l)
def depths : List Typ → Nat
  | [] => 0
  | t :: l => max (depth t) (depths l)
end
mutual
def size : Typ → Nat
  | mk _ _ _ _ fs of => sizeFs fs + sizes of + 1
def sizeF : Fld → Nat
  | .mk _ _ t => size t
def sizeFs : List Fld → Nat
  | [] => 0
  | f :: l => sizeF f + sizeFs l
def sizes : List Typ → Nat
  | [] => 0
  | t :: l => size t + sizes l
end
end Typ
end Go.Proofs.YtelkpflpgpdkdaaGreatDoor
namespace Go.Proofs.YtelkpflpgpdkdaaGreatDoor
open Go.RowKit Go.Lib
inductive Lens where
  | mk (kind : Int) (a b : Str) (typ : Typ) (doc : Doc) (swaps : List (Int × Int)) (subs : List Lens)
namespace Lens
def kind : Lens → Int | mk k _ _ _ _ _ _ => k
def a : Lens → Str | mk _ s _ _ _ _ _ => s
def b : Lens → Str | mk _ _ s _ _ _ _ => s
def typ : Lens → Typ | mk _ _ _ t _ _ _ => t
def doc : Lens → Doc | mk _ _ _ _ d _ _ => d
def swaps : Lens → List (Int × Int) | mk _ _ _ _ _ l _ => l
def subs : Lens → List Lens | mk _ _ _ _ _ _ l => l
mutual
def size1 : Lens → Nat
  | mk _ _ _ _ _ _ subs => size subs
def size : List Lens → Nat
  | [] => 0
  | s :: l => 1 + size1 s + size l
end
mutual
def depth1 : Lens → Nat
  | mk _ _ _ _ _ _ subs => depth subs
/-- 0 of none. -/
def depth : List Lens → Nat
  | [] => 0
  | s :: l => max (depth1 s + 1) (depth l)
end
end Lens
structure Res where
  edge : Int
  step : List Int
  at_ : List Str
  doc : Doc
structure State where
  doc : Doc
  res : List Res
structure Named where
  name : Str
  typ : Typ
structure Join where
  from_ : Int
  to : Int
  lens : List Lens
structure Registry where
  schemas : List Named
  joins : List Join
structure Hop where
  join : Int
  back : Bool
end Go.Proofs.YtelkpflpgpdkdaaGreatDoor
namespace Go.Proofs.YtelkpflpgpdkdaaGreatDoor
open Go.RowKit Go.Lib
theorem take_sizes {l : List Doc} {k : Nat} {x : Doc} (h : l[k]? = some x) : Doc.sizes (l.take (k + 1)) = Doc.sizes (l.take k) + x.size := by
  rw [List.take_add_one, h, Option.toList_some, Doc.sizes_append]; simp [Doc.sizes]
theorem kid_size {d x : Doc} {j : Nat} (h : d.kids[j]? = some x) : x.size < d.size := by
  have := Doc.size_le_sizes (List.mem_of_getElem? h)
  rw [Doc.size_kids d]; omega
theorem depth_le_size : ∀ (n : Nat) (d : Doc), d.size ≤ n → d.depth ≤ d.size := by
  intro n
  induction n with
  | zero => intro d h; rw [Doc.size_kids] at h; omega
  | succ n ih =>
    intro d h
    have key : ∀ l : List Doc, (∀ x ∈ l, x.size ≤ n) → Doc.depths l ≤ Doc.sizes l := by
      intro l
      induction l with
      | nil => intro _; exact Nat.le_refl _
      | cons x l ihl =>
        intro hl
        simp only [Doc.depths, Doc.sizes]
        have h1 := ih x (hl x (List.mem_cons_self ..))
        have h2 := ihl fun y hy => hl y (List.mem_cons_of_mem _ hy)
        omega
    have := key d.kids fun x hx => by
      have h1 := Doc.size_le_sizes hx
      rw [Doc.size_kids] at h
      omega
    rw [Doc.depth_kids, Doc.size_kids]
    omega
end Go.Proofs.YtelkpflpgpdkdaaGreatDoor
namespace Go.Proofs.YtelkpflpgpdkdaaGreatDoor
open Go.RowKit Go.Lib
theorem str_len (s : Str) : s.toList.length = s.size := by rw [ByteArray.toList_eq]; simp
theorem namesFrom_append (l m : List UInt8) (k : Nat) : namesFrom k (l ++ m) = (namesFrom k l && namesFrom (k + l.length) m) := by
  induction l generalizing k with
  | nil => simp [namesFrom]
  | cons c l ih =>
    simp only [List.cons_append, namesFrom, ih, List.length_cons, Bool.and_assoc]
    rw [show k + 1 + l.length = k + (l.length + 1) by omega]
theorem namesFrom_succ {l : List UInt8} {k : Nat} {c : UInt8} (h : l[k]? = some c) : namesFrom 0 (l.take (k + 1)) = (namesFrom 0 (l.take k) && nameAt k c) := by
  have hlt := (List.getElem?_eq_some_iff.1 h).1
  rw [List.take_add_one, h, Option.toList_some, namesFrom_append]
  simp [namesFrom, List.length_take, Nat.min_eq_left (Nat.le_of_lt hlt)]
theorem namesFrom_false {l : List UInt8} {k : Nat} (h : namesFrom 0 (l.take k) = false) : namesFrom 0 l = false := by
  rw [← List.take_append_drop k l, namesFrom_append, h]; rfl
end Go.Proofs.YtelkpflpgpdkdaaGreatDoor
namespace Go.Proofs.YtelkpflpgpdkdaaGreatDoor
open Go.RowKit Go.Lib
theorem str_nil2 {s : Str} (h : s.size = 0) : s.toList = [] := List.eq_nil_of_length_eq_zero (by rw [str_len, h])
/-- What belongs to other kinds is not there. -/
def plain (d : Doc) : Bool :=
  if d.kind = 1 ∨ d.kind = 2 then decide (d.num = 0) && decide (d.str.size = 0) && decide (d.keys.length = d.kids.length)
  else if d.kind = 3 then decide (d.num = 0) && decide (d.str.size = 0) && decide (d.keys.length = 0)
  else if d.keys.length + d.kids.length ≠ 0 then false
  else if d.kind = 4 then decide (d.str.size = 0)
  else if d.kind = 5 then decide (d.str.size = 0) && (decide (d.num = 0) || decide (d.num = 1))
  else if d.kind = 6 then decide (d.num = 0) && decide (d.str.size ≤ 256)
  else false
end Go.Proofs.YtelkpflpgpdkdaaGreatDoor
namespace Go.Proofs.YtelkpflpgpdkdaaGreatDoor
open Go.RowKit Go.Lib
def sLe (a b : Str) : Bool := Op.bytesLess a.toList b.toList || a.toList == b.toList
/-- Is the key at place j right: behind the one ahead of it, a name (of a record), not too long? -/
def keyStep (rec : Bool) (l : List Str) (j : Nat) : Bool := !(decide (0 < j) && sLe (l.getD j default) (l.getD (j - 1) default)) && (!rec || nameOk (l.getD j default)) && decide ((l.getD j default).size ≤ 256)
def keysTo (rec : Bool) (l : List Str) (k : Nat) : Bool := (List.range k).all (keyStep rec l)
def keysOk (rec : Bool) (l : List Str) : Bool := keysTo rec l l.length
theorem keysTo_succ (rec : Bool) (l : List Str) (k : Nat) : keysTo rec l (k + 1) = (keysTo rec l k && keyStep rec l k) := by simp [keysTo, List.range_succ]
theorem keysTo_false {rec : Bool} {l : List Str} {k : Nat} (hk : k < l.length) (h : keyStep rec l k = false) : keysOk rec l = false := by
  unfold keysOk keysTo
  rw [List.all_eq_false]
  exact ⟨k, List.mem_range.2 hk, by simp [h]⟩
theorem strD {l : List Str} {j : Nat} {s : Str} (h : l[j]? = some s) : l.getD j default = s := by simp [h]
end Go.Proofs.YtelkpflpgpdkdaaGreatDoor
namespace Go.Proofs.YtelkpflpgpdkdaaGreatDoor
open Go.RowKit Go.Lib
/-- The place of the first one; -1: there is none. -/
def idxOf {α : Type} (p : α → Bool) (l : List α) : Int := if l.any p then (l.findIdx p : Nat) else -1
theorem idxOf_at {α : Type} {p : α → Bool} {l : List α} {k : Nat} {x : α} (hk : l[k]? = some x) (hp : p x = true) (hn : ∀ y ∈ l.take k, p y = false) : idxOf p l = k := by
  obtain ⟨hlt, he⟩ := List.getElem?_eq_some_iff.1 hk
  have h1 : l.any p = true := List.any_eq_true.2 ⟨x, List.mem_of_getElem? hk, hp⟩
  have h2 : l.findIdx p = k := by
    rw [List.findIdx_eq hlt]
    refine ⟨by rw [he]; exact hp, fun j hj => ?_⟩
    have := hn l[j] (by
      rw [List.mem_take_iff_getElem]
      exact ⟨j, by omega, rfl⟩)
    simpa using this
  rw [idxOf, if_pos h1, h2]
theorem idxOf_none {α : Type} {p : α → Bool} {l : List α} (hn : ∀ y ∈ l, p y = false) : idxOf p l = -1 := by
  rw [idxOf, if_neg]
  simp only [List.any_eq_true, not_exists, not_and]
  intro x hx
  rw [hn x hx]
  simp
theorem idxOf_nonneg {α : Type} (p : α → Bool) (l : List α) : decide (idxOf p l ≥ 0) = l.any p := by
  unfold idxOf
  split
  · rename_i h; rw [h]; simp
  · rename_i h; simp at h ⊢; exact h
theorem take_all_succ {α : Type} {p : α → Bool} {l : List α} {k : Nat} {x : α} (hk : l[k]? = some x) (hp : p x = false) (hn : ∀ y ∈ l.take k, p y = false) : ∀ y ∈ l.take (k + 1), p y = false := by
  intro y hy
  rw [List.take_add_one, hk, Option.toList_some, List.mem_append, List.mem_singleton] at hy
  rcases hy with hy | rfl
  · exact hn y hy
  · exact hp
end Go.Proofs.YtelkpflpgpdkdaaGreatDoor
namespace Go.Proofs.YtelkpflpgpdkdaaGreatDoor
open Go.RowKit Go.Lib
namespace Doc
mutual
def part : Doc → Bool
  | mk k n s keys kids => plain (mk k n s keys kids) && keysOk (decide (k = 1)) keys && parts kids
def parts : List Doc → Bool
  | [] => true
  | d :: l => part d && parts l
end
theorem parts_all (l : List Doc) : parts l = l.all part := by
  induction l with
  | nil => rfl
  | cons d l ih => simp [parts, ih]
theorem part_kids (d : Doc) : d.part = (plain d && keysOk (decide (d.kind = 1)) d.keys && d.kids.all part) := by
  rw [← parts_all]; cases d; rfl
def right (d : Doc) : Bool := decide (d.depth ≤ 12) && decide (d.size ≤ 512) && d.part
mutual
/-- No row of keys is too long. -/
def slim : Doc → Prop
  | mk _ _ _ keys kids => keys.length ≤ 1000000 ∧ slims kids
def slims : List Doc → Prop
  | [] => True
  | d :: l => slim d ∧ slims l
end
theorem slims_mem {l : List Doc} (h : slims l) {d : Doc} (hd : d ∈ l) : slim d := by
  induction l with
  | nil => cases hd
  | cons e l ih =>
    rcases List.mem_cons.1 hd with rfl | hd
    · exact h.1
    · exact ih h.2 hd
/-- Small enough to be gone over. -/
def fit (d : Doc) : Prop := d.size ≤ 1000000 ∧ d.slim
theorem fit.keys {d : Doc} (h : d.fit) : d.keys.length ≤ 1000000 := by cases d; exact h.2.1
theorem sizes_len (l : List Doc) : l.length ≤ sizes l := by
  induction l with
  | nil => simp
  | cons d l ih =>
    have := d.size_kids
    simp only [List.length_cons, sizes]
    omega
theorem fit.kids {d : Doc} (h : d.fit) : d.kids.length ≤ 1000000 := by
  have h1 := sizes_len d.kids
  have h2 := h.1
  rw [size_kids] at h2
  omega
theorem fit.kid {d x : Doc} (h : d.fit) (hx : x ∈ d.kids) : x.fit := by
  refine ⟨?_, ?_⟩
  · have h1 := size_le_sizes hx
    have h2 := h.1
    rw [size_kids] at h2
    omega
  · cases d; exact slims_mem h.2.2 hx
end Doc
theorem mem_size {d x : Doc} (h : x ∈ d.kids) : x.size < d.size := by
  obtain ⟨j, hj⟩ := List.mem_iff_getElem?.1 h
  exact kid_size hj
end Go.Proofs.YtelkpflpgpdkdaaGreatDoor
namespace Go.Proofs.YtelkpflpgpdkdaaGreatDoor
open Go.RowKit Go.Lib
def bad1 (d : Doc) : Bool := decide (d.kind < 1) || decide (6 < d.kind)
def bad2 (d : Doc) : Bool := decide (d.num ≠ 0) && decide (d.kind ≠ 4) && (decide (d.kind ≠ 5) || decide (d.num ≠ 1))
def bad3 (d : Doc) : Bool := decide (d.str.size ≠ 0) && (decide (d.kind ≠ 6) || decide (256 < d.str.size))
def bad4 (d : Doc) : Bool := (decide (d.kind ≤ 2) && decide (d.keys.length ≠ d.kids.length)) || (decide (2 < d.kind) && decide (0 < d.keys.length)) || (decide (3 < d.kind) && decide (0 < d.kids.length))
theorem plain_bad (d : Doc) : plain d = !(bad1 d || bad2 d || bad3 d || bad4 d) := by
  rw [Bool.eq_iff_iff]
  unfold plain bad1 bad2 bad3 bad4
  simp only [Bool.not_eq_true', Bool.or_eq_false_iff, Bool.and_eq_false_iff, decide_eq_false_iff_not]
  generalize d.keys.length = K
  generalize d.kids.length = D
  generalize d.str.size = S
  generalize d.kind = k
  generalize d.num = n
  split
  · simp only [Bool.and_eq_true, decide_eq_true_eq]; omega
  · split
    · simp only [Bool.and_eq_true, decide_eq_true_eq]; omega
    · split
      · simp only [Bool.false_eq_true, false_iff]; omega
      · split
        · simp only [decide_eq_true_eq]; omega
        · split
          · simp only [Bool.and_eq_true, Bool.or_eq_true, decide_eq_true_eq]; omega
          · split
            · simp only [Bool.and_eq_true, decide_eq_true_eq]; omega
            · simp only [Bool.false_eq_true, false_iff]; omega
end Go.Proofs.YtelkpflpgpdkdaaGreatDoor
namespace Go.Proofs.YtelkpflpgpdkdaaGreatDoor
open Go.RowKit Go.Lib
def cmpI (a b : Int) : Int := if a < b then -1 else if b < a then 1 else 0
def cmpS (a b : Str) : Int := if sLt a b then -1 else if sLe a b then 0 else 1
def cmpL {α : Type} (f : α → α → Int) : List α → List α → Int
  | [], [] => 0
  | [], _ :: _ => -1
  | _ :: _, [] => 1
  | a :: l, b :: m => if f a b ≠ 0 then f a b else cmpL f l m
def firstNZ : List Int → Int
  | [] => 0
  | a :: l => if a ≠ 0 then a else firstNZ l
theorem cmpL_drop {α : Type} {f : α → α → Int} {l m : List α} {k : Nat} {a b : α} (ha : l[k]? = some a) (hb : m[k]? = some b) : cmpL f (l.drop k) (m.drop k) = if f a b ≠ 0 then f a b else cmpL f (l.drop (k + 1)) (m.drop (k + 1)) := by
  obtain ⟨h1, e1⟩ := List.getElem?_eq_some_iff.1 ha
  obtain ⟨h2, e2⟩ := List.getElem?_eq_some_iff.1 hb
  rw [List.drop_eq_getElem_cons h1, List.drop_eq_getElem_cons h2, e1, e2]
  rfl
theorem cmpL_long {α : Type} {f : α → α → Int} {l m : List α} {k : Nat} (h1 : k < l.length) (h2 : m.length ≤ k) : cmpL f (l.drop k) (m.drop k) = 1 := by
  rw [List.drop_eq_getElem_cons h1, List.drop_eq_nil_of_le h2]
  rfl
theorem cmpL_end {α : Type} {f : α → α → Int} {l m : List α} : cmpL f (l.drop l.length) (m.drop l.length) = if l.length < m.length then -1 else 0 := by
  rw [List.drop_eq_nil_of_le (Nat.le_refl _)]
  split
  · rename_i h; rw [List.drop_eq_getElem_cons h]; rfl
  · rename_i h; rw [List.drop_eq_nil_of_le (by omega)]; rfl
end Go.Proofs.YtelkpflpgpdkdaaGreatDoor
namespace Go.Proofs.YtelkpflpgpdkdaaGreatDoor
open Go.RowKit Go.Lib
theorem firstNZ_drop {l : List Int} {k : Nat} {x : Int} (h : l[k]? = some x) : firstNZ (l.drop k) = if x ≠ 0 then x else firstNZ (l.drop (k + 1)) := by
  obtain ⟨h1, e1⟩ := List.getElem?_eq_some_iff.1 h
  rw [List.drop_eq_getElem_cons h1, e1]
  rfl
namespace Doc
mutual
def cmp : Doc → Doc → Int
  | mk k n s keys kids, e => firstNZ [cmpI k e.kind, cmpI n e.num, cmpS s e.str, cmpI keys.length e.keys.length, cmpL cmpS keys e.keys, cmpI kids.length e.kids.length, cmps kids e.kids]
def cmps : List Doc → List Doc → Int
  | [], [] => 0
  | [], _ :: _ => -1
  | _ :: _, [] => 1
  | a :: l, b :: m => if cmp a b ≠ 0 then cmp a b else cmps l m
end
theorem cmps_eq : ∀ (l m : List Doc), cmps l m = cmpL cmp l m
  | [], [] => rfl
  | [], _ :: _ => rfl
  | _ :: _, [] => rfl
  | a :: l, b :: m => by rw [cmps, cmpL, cmps_eq l m]
theorem cmp_kids (d e : Doc) : cmp d e = firstNZ [cmpI d.kind e.kind, cmpI d.num e.num, cmpS d.str e.str, cmpI d.keys.length e.keys.length, cmpL cmpS d.keys e.keys, cmpI d.kids.length e.kids.length, cmpL cmp d.kids e.kids] := by
  rw [← cmps_eq]; cases d; rfl
end Doc
end Go.Proofs.YtelkpflpgpdkdaaGreatDoor
namespace Go.Proofs.YtelkpflpgpdkdaaGreatDoor
open Go.RowKit Go.Lib
/-- The place of a record's field. -/
def fieldIdx (t : Typ) (s : Str) : Int := if t.kind = 1 then idxOf (fun f => f.name.toList == s.toList) t.fields else -1
def scalarB (t : Typ) : Bool := decide (4 ≤ t.kind) && decide (t.kind ≤ 7)
end Go.Proofs.YtelkpflpgpdkdaaGreatDoor
namespace Go.Proofs.YtelkpflpgpdkdaaGreatDoor
open Go.RowKit Go.Lib
def eqL : List Str → List Str → Bool
  | [], [] => true
  | a :: l, b :: m => (a.toList == b.toList) && eqL l m
  | _, _ => false
theorem eqL_drop {l m : List Str} {k : Nat} {a b : Str} (ha : l[k]? = some a) (hb : m[k]? = some b) : eqL (l.drop k) (m.drop k) = ((a.toList == b.toList) && eqL (l.drop (k + 1)) (m.drop (k + 1))) := by
  obtain ⟨h1, e1⟩ := List.getElem?_eq_some_iff.1 ha
  obtain ⟨h2, e2⟩ := List.getElem?_eq_some_iff.1 hb
  rw [List.drop_eq_getElem_cons h1, List.drop_eq_getElem_cons h2, e1, e2]
  rfl
theorem eqL_len : ∀ {l m : List Str}, eqL l m = true → l.length = m.length
  | [], [], _ => rfl
  | a :: l, b :: m, h => by
    simp only [eqL, Bool.and_eq_true] at h
    simp [eqL_len h.2]
  | [], _ :: _, h => by simp [eqL] at h
  | _ :: _, [], h => by simp [eqL] at h
end Go.Proofs.YtelkpflpgpdkdaaGreatDoor
namespace Go.Proofs.YtelkpflpgpdkdaaGreatDoor
open Go.RowKit Go.Lib
namespace Typ
theorem size_parts (t : Typ) : t.size = sizeFs t.fields + sizes t.of + 1 := by cases t; rfl
theorem depth_parts (t : Typ) : t.depth = max (depthFs t.fields) (depths t.of) + 1 := by cases t; rfl
theorem sizeF_typ (f : Fld) : sizeF f = f.typ.size := by cases f; rfl
theorem depthF_typ (f : Fld) : depthF f = f.typ.depth := by cases f; rfl
theorem sizeFs_append (l m : List Fld) : sizeFs (l ++ m) = sizeFs l + sizeFs m := by
  induction l with
  | nil => simp [sizeFs]
  | cons d l ih => simp only [List.cons_append, sizeFs, ih]; omega
theorem sizes_append (l m : List Typ) : sizes (l ++ m) = sizes l + sizes m := by
  induction l with
  | nil => simp [sizes]
  | cons d l ih => simp only [List.cons_append, sizes, ih]; omega
theorem depths_append (l m : List Typ) : depths (l ++ m) = max (depths l) (depths m) := by
  induction l with
  | nil => simp [depths]
  | cons d l ih => simp only [List.cons_append, depths, ih]; omega
theorem sizeFs_mem {f : Fld} {l : List Fld} (h : f ∈ l) : f.typ.size ≤ sizeFs l := by
  induction l with
  | nil => cases h
  | cons e l ih =>
    simp only [sizeFs, sizeF_typ]
    rcases List.mem_cons.1 h with rfl | h
    · omega
    · have := ih h; omega
theorem sizes_mem {t : Typ} {l : List Typ} (h : t ∈ l) : t.size ≤ sizes l := by
  induction l with
  | nil => cases h
  | cons e l ih =>
    simp only [sizes]
    rcases List.mem_cons.1 h with rfl | h
    · omega
    · have := ih h; omega
theorem depth_le_size : ∀ (n : Nat) (t : Typ), t.size ≤ n → t.depth ≤ t.size := by
  intro n
  induction n with
  | zero => intro t h; rw [size_parts] at h; omega
  | succ n ih =>
    intro t h
    have key1 : ∀ l : List Fld, (∀ x ∈ l, x.typ.size ≤ n) → depthFs l ≤ sizeFs l := by
      intro l
      induction l with
      | nil => intro _; exact Nat.le_refl _
      | cons x l ihl =>
        intro hl
        simp only [depthFs, sizeFs, depthF_typ, sizeF_typ]
        have h1 := ih x.typ (hl x (List.mem_cons_self ..))
        have h2 := ihl fun y hy => hl y (List.mem_cons_of_mem _ hy)
        omega
    have key2 : ∀ l : List Typ, (∀ x ∈ l, x.size ≤ n) → depths l ≤ sizes l := by
      intro l
      induction l with
      | nil => intro _; exact Nat.le_refl _
      | cons x l ihl =>
        intro hl
        simp only [depths, sizes]
        have h1 := ih x (hl x (List.mem_cons_self ..))
        have h2 := ihl fun y hy => hl y (List.mem_cons_of_mem _ hy)
        omega
    have h1 := key1 t.fields fun x hx => by
      have h1 := sizeFs_mem hx
      rw [size_parts] at h
      omega
    have h2 := key2 t.of fun x hx => by
      have h1 := sizes_mem hx
      rw [size_parts] at h
      omega
    rw [depth_parts, size_parts]
    omega
theorem take_sizeFs {l : List Fld} {k : Nat} {x : Fld} (h : l[k]? = some x) : sizeFs (l.take (k + 1)) = sizeFs (l.take k) + x.typ.size := by
  rw [List.take_add_one, h, Option.toList_some, sizeFs_append]; simp [sizeFs, sizeF_typ]
theorem take_sizes {l : List Typ} {k : Nat} {x : Typ} (h : l[k]? = some x) : sizes (l.take (k + 1)) = sizes (l.take k) + x.size := by
  rw [List.take_add_one, h, Option.toList_some, sizes_append]; simp [sizes]
end Typ
theorem fld_size {t : Typ} {f : Fld} (h : f ∈ t.fields) : f.typ.size < t.size := by
  have := Typ.sizeFs_mem h
  rw [Typ.size_parts t]; omega
theorem of_size {t x : Typ} (h : x ∈ t.of) : x.size < t.size := by
  have := Typ.sizes_mem h
  rw [Typ.size_parts t]; omega
end Go.Proofs.YtelkpflpgpdkdaaGreatDoor
namespace Go.Proofs.YtelkpflpgpdkdaaGreatDoor
open Go.RowKit Go.Lib
/-- The place of a text in a row; -1: there is none. -/
def keyIdx (l : List Str) (s : Str) : Int := idxOf (fun x => x.toList == s.toList) l
end Go.Proofs.YtelkpflpgpdkdaaGreatDoor
namespace Go.Proofs.YtelkpflpgpdkdaaGreatDoor
open Go.RowKit Go.Lib
def bareT (t : Typ) : Bool :=
  !((decide (t.kind ≠ 1) && decide (t.fields.length ≠ 0)) || (decide (t.kind ≠ 7) && decide (t.names.length ≠ 0)) || (decide (t.kind ≠ 2 ∧ t.kind ≠ 3) && decide (t.of.length ≠ 0)) ||
    (decide (t.kind ≠ 2 ∧ t.kind ≠ 3 ∧ t.kind ≠ 4 ∧ t.kind ≠ 6) && (decide (t.lo ≠ 0) || decide (t.hi ≠ 0))))
end Go.Proofs.YtelkpflpgpdkdaaGreatDoor
namespace Go.Proofs.YtelkpflpgpdkdaaGreatDoor
open Go.RowKit Go.Lib
def namesOk (l : List Str) : Bool := keysOk false l && decide (0 < l.length) && decide (l.length ≤ 32)
end Go.Proofs.YtelkpflpgpdkdaaGreatDoor
namespace Go.Proofs.YtelkpflpgpdkdaaGreatDoor
open Go.RowKit Go.Lib
/-- The name at place j is one, and above that ahead of it. -/
def fldStep (l : List Fld) (j : Nat) : Bool := match l[j]?, l[j - 1]? with
  | some f, some p => nameOk f.name && !(decide (0 < j) && sLe f.name p.name)
  | _, _ => true
def fldsTo (l : List Fld) (k : Nat) : Bool := (List.range k).all (fldStep l)
theorem fldsTo_succ (l : List Fld) (k : Nat) : fldsTo l (k + 1) = (fldsTo l k && fldStep l k) := by simp [fldsTo, List.range_succ]
theorem fldsTo_false {l : List Fld} {k : Nat} (hk : k < l.length) (h : fldStep l k = false) : fldsTo l l.length = false := by
  rw [fldsTo, Bool.eq_false_iff]
  intro hall
  rw [List.all_eq_true] at hall
  rw [hall k (List.mem_range.2 hk)] at h
  cases h
namespace Typ
mutual
/-- But for how great it is. -/
def part : Typ → Bool
  | mk k lo hi ns fs of => bareT (mk k lo hi ns fs of) && (if k = 1 then fldsTo fs fs.length && decide (fs.length ≤ 32) && partFs fs else if k = 2 ∨ k = 3 then decide (of.length = 1) && decide (0 ≤ lo) && decide (lo ≤ hi) && parts of
      else if k = 4 then decide (lo ≤ hi) else if k = 5 then true else if k = 6 then decide (0 ≤ lo) && decide (lo ≤ hi) && decide (hi ≤ 256) else if k = 7 then namesOk ns else false)
def partF : Fld → Bool
  | .mk _ _ t => part t
def partFs : List Fld → Bool
  | [] => true
  | f :: l => partF f && partFs l
def parts : List Typ → Bool
  | [] => true
  | t :: l => part t && parts l
end
theorem partFs_all (l : List Fld) : partFs l = l.all fun f => f.typ.part := by
  induction l with
  | nil => rfl
  | cons f l ih => cases f; simp [partFs, partF, ih, Fld.typ]
theorem parts_all (l : List Typ) : parts l = l.all part := by
  induction l with
  | nil => rfl
  | cons f l ih => simp [parts, ih]
theorem part_kids (t : Typ) : t.part = (bareT t && (if t.kind = 1 then fldsTo t.fields t.fields.length && decide (t.fields.length ≤ 32) && t.fields.all fun f => f.typ.part else if t.kind = 2 ∨ t.kind = 3 then decide (t.of.length = 1) && decide (0 ≤ t.lo) && decide (t.lo ≤ t.hi) && t.of.all part
      else if t.kind = 4 then decide (t.lo ≤ t.hi) else if t.kind = 5 then true else if t.kind = 6 then decide (0 ≤ t.lo) && decide (t.lo ≤ t.hi) && decide (t.hi ≤ 256) else if t.kind = 7 then namesOk t.names else false)) := by
  rw [← partFs_all, ← parts_all]; cases t; rfl
end Typ
def fieldsOk (l : List Fld) : Bool := fldsTo l l.length && decide (l.length ≤ 32) && l.all fun f => f.typ.part
end Go.Proofs.YtelkpflpgpdkdaaGreatDoor
namespace Go.Proofs.YtelkpflpgpdkdaaGreatDoor
open Go.RowKit Go.Lib
namespace Typ
mutual
def slim : Typ → Prop
  | mk _ _ _ ns fs of => ns.length ≤ 1000000 ∧ slimFs fs ∧ slims of
def slimF : Fld → Prop
  | .mk _ _ t => slim t
def slimFs : List Fld → Prop
  | [] => True
  | f :: l => slimF f ∧ slimFs l
def slims : List Typ → Prop
  | [] => True
  | t :: l => slim t ∧ slims l
end
theorem slimFs_mem {l : List Fld} (h : slimFs l) {f : Fld} (hf : f ∈ l) : f.typ.slim := by
  induction l with
  | nil => cases hf
  | cons e l ih =>
    rcases List.mem_cons.1 hf with rfl | hf
    · cases f; exact h.1
    · exact ih h.2 hf
theorem slims_mem {l : List Typ} (h : slims l) {t : Typ} (ht : t ∈ l) : t.slim := by
  induction l with
  | nil => cases ht
  | cons e l ih =>
    rcases List.mem_cons.1 ht with rfl | ht
    · exact h.1
    · exact ih h.2 ht
/-- Small enough to be gone over. -/
def fit (t : Typ) : Prop := t.size ≤ 1000000 ∧ t.slim
theorem fit.names {t : Typ} (h : t.fit) : t.names.length ≤ 1000000 := by cases t; exact h.2.1
theorem size_pos (t : Typ) : 0 < t.size := by cases t; simp [size]
theorem sizeFs_len (l : List Fld) : l.length ≤ sizeFs l := by
  induction l with
  | nil => exact Nat.le_refl _
  | cons f l ih => simp only [List.length_cons, sizeFs, sizeF_typ]; have := size_pos f.typ; omega
theorem sizes_len (l : List Typ) : l.length ≤ sizes l := by
  induction l with
  | nil => exact Nat.le_refl _
  | cons f l ih => simp only [List.length_cons, sizes]; have := size_pos f; omega
theorem fit.fields {t : Typ} (h : t.fit) : t.fields.length ≤ 1000000 := by
  have h1 := sizeFs_len t.fields
  have h2 := size_parts t
  have h3 := h.1
  omega
theorem fit.of {t : Typ} (h : t.fit) : t.of.length ≤ 1000000 := by
  have h1 := sizes_len t.of
  have h2 := size_parts t
  have h3 := h.1
  omega
theorem fit.fld {t : Typ} {f : Fld} (h : t.fit) (hf : f ∈ t.fields) : f.typ.fit := by
  have h1 := fld_size hf
  exact ⟨by have := h.1; omega, by cases t; exact slimFs_mem h.2.2.1 hf⟩
theorem fit.kid {t x : Typ} (h : t.fit) (hx : x ∈ t.of) : x.fit := by
  have h1 := of_size hx
  exact ⟨by have := h.1; omega, by cases t; exact slims_mem h.2.2.2 hx⟩
/-- Is it right? -/
def right (t : Typ) : Bool := decide (t.size ≤ 128) && decide (t.depth ≤ 12) && t.part
end Typ
end Go.Proofs.YtelkpflpgpdkdaaGreatDoor
namespace Go.Proofs.YtelkpflpgpdkdaaGreatDoor
open Go.RowKit Go.Lib
def eqF {α : Type} (g : α → α → Bool) : List α → List α → Bool
  | [], [] => true
  | x :: l, y :: r => g x y && eqF g l r
  | _, _ => false
theorem eqF_drop {α : Type} {g : α → α → Bool} {l r : List α} {k : Nat} {x y : α} (ha : l[k]? = some x) (hb : r[k]? = some y) : eqF g (l.drop k) (r.drop k) = (g x y && eqF g (l.drop (k + 1)) (r.drop (k + 1))) := by
  obtain ⟨h1, rfl⟩ := List.getElem?_eq_some_iff.1 ha
  obtain ⟨h2, rfl⟩ := List.getElem?_eq_some_iff.1 hb
  rw [List.drop_eq_getElem_cons h1, List.drop_eq_getElem_cons h2, eqF]
theorem eqF_len {α : Type} {g : α → α → Bool} : ∀ {l r : List α}, eqF g l r = true → l.length = r.length
  | [], [], _ => rfl
  | _ :: l, _ :: r, h => by
    simp only [eqF, Bool.and_eq_true] at h
    simp [eqF_len h.2]
  | [], _ :: _, h => by simp [eqF] at h
  | _ :: _, [], h => by simp [eqF] at h
end Go.Proofs.YtelkpflpgpdkdaaGreatDoor
namespace Go.Proofs.YtelkpflpgpdkdaaGreatDoor
open Go.RowKit Go.Lib
namespace Typ
mutual
def same : Typ → Typ → Bool
  | mk k lo hi ns fs of, mk k' lo' hi' ns' fs' of' => k == k' && lo == lo' && hi == hi' && eqL ns ns' && sameFs fs fs' && sames of of'
def sameF : Fld → Fld → Bool
  | .mk n o t, .mk n' o' t' => n.toList == n'.toList && o == o' && same t t'
def sameFs : List Fld → List Fld → Bool
  | [], [] => true
  | f :: l, g :: r => sameF f g && sameFs l r
  | _, _ => false
def sames : List Typ → List Typ → Bool
  | [], [] => true
  | f :: l, g :: r => same f g && sames l r
  | _, _ => false
end
theorem sameFs_eqF : ∀ l r : List Fld, sameFs l r = eqF sameF l r
  | [], [] => by simp [sameFs, eqF]
  | f :: l, g :: r => by rw [sameFs, eqF, sameFs_eqF l r]
  | [], _ :: _ => by simp [sameFs, eqF]
  | _ :: _, [] => by simp [sameFs, eqF]
theorem sames_eqF : ∀ l r : List Typ, sames l r = eqF same l r
  | [], [] => by simp [sames, eqF]
  | f :: l, g :: r => by rw [sames, eqF, sames_eqF l r]
  | [], _ :: _ => by simp [sames, eqF]
  | _ :: _, [] => by simp [sames, eqF]
theorem same_parts (t u : Typ) : t.same u = (t.kind == u.kind && t.lo == u.lo && t.hi == u.hi && eqL t.names u.names && eqF sameF t.fields u.fields && eqF same t.of u.of) := by
  rw [← sameFs_eqF, ← sames_eqF]; cases t; cases u; simp only [same]; rfl
theorem sameF_parts (f g : Fld) : sameF f g = (f.name.toList == g.name.toList && f.opt == g.opt && f.typ.same g.typ) := by cases f; cases g; simp only [sameF]; rfl
end Typ
end Go.Proofs.YtelkpflpgpdkdaaGreatDoor
namespace Go.Proofs.YtelkpflpgpdkdaaGreatDoor
open Go.RowKit Go.Lib
def two (a b : Nat) : Nat → Prop := fun k => k = a ∨ k = b
section
variable {w wr w2 : World} {N gf go kf ko : Nat} {t : Typ} {ns fs os n f p : Value}
end
end Go.Proofs.YtelkpflpgpdkdaaGreatDoor
namespace Go.Proofs.YtelkpflpgpdkdaaGreatDoor
open Go.RowKit Go.Lib
namespace Lens
mutual
def fit1 : Lens → Prop
  | mk _ _ _ t d sw subs => t.fit ∧ d.fit ∧ sw.length ≤ 1000000 ∧ fits subs
def fits : List Lens → Prop
  | [] => True
  | s :: l => fit1 s ∧ fits l
end
theorem fits_mem {l : List Lens} (h : fits l) {s : Lens} (hs : s ∈ l) : s.typ.fit ∧ s.doc.fit ∧ s.swaps.length ≤ 1000000 ∧ fits s.subs := by
  induction l with
  | nil => cases hs
  | cons e l ih =>
    rcases List.mem_cons.1 hs with rfl | hs
    · cases s; exact h.1
    · exact ih h.2 hs
theorem size_mem {l : List Lens} {s : Lens} (hs : s ∈ l) : size s.subs < size l := by
  induction l with
  | nil => cases hs
  | cons e l ih =>
    simp only [size]
    rcases List.mem_cons.1 hs with rfl | hs
    · cases s; simp only [size1, subs]; omega
    · have := ih hs; omega
theorem size_len (l : List Lens) : l.length ≤ size l := by
  induction l with
  | nil => exact Nat.le_refl _
  | cons e l ih => simp only [List.length_cons, size]; omega
/-- Small enough to be gone over. -/
def fit (l : List Lens) : Prop := size l ≤ 1000000 ∧ fits l
theorem fit.len {l : List Lens} (h : fit l) : l.length ≤ 1000000 := Nat.le_trans (size_len l) h.1
theorem fit.sub {l : List Lens} {s : Lens} (h : fit l) (hs : s ∈ l) : s.typ.fit ∧ s.doc.fit ∧ s.swaps.length ≤ 1000000 ∧ fit s.subs := by
  obtain ⟨h1, h2, h3, h4⟩ := fits_mem h.2 hs
  exact ⟨h1, h2, h3, by have := size_mem hs; have := h.1; omega, h4⟩
end Lens
end Go.Proofs.YtelkpflpgpdkdaaGreatDoor
