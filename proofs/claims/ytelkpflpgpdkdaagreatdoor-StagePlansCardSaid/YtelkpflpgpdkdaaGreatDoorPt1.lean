/- Part 1 of what StageOrder and StagePlans ask: for every input each returns true, and its input reads as it did. No condition. -/
import Derived.StillTail
import Derived.RegionTactic
import Derived.WalkKit
import Derived.BigQuiet
import Derived.Deep.MidRow
import Derived.Deep.AppendLies
import Derived.Lib.Hide
import Derived.OpenShut
import Derived.BigFrame
import Derived.Lib.AppendIntMem
namespace Go.Sv
open Go Go.RowKit

/-- The world without some blocks. -/
def hide (S : List Nat) (w : World) : World := { w with heap := w.heap.mapIdx fun k o => if k ∈ S then Obj.cells #[] 0 else o }
/-- What is seen in w is in w'. -/
def Sub (w w' : World) : Prop := ∀ (k : Nat) (o : Obj), w.heap[k]? = some o → o ≠ .cells #[] 0 → w'.heap[k]? = some o
theorem Sub.refl (w : World) : Sub w w := fun _ _ h _ => h
theorem Sub.trans {a b c : World} (h : Sub a b) (k : Sub b c) : Sub a c := fun i o hi ho => k i o (h i o hi ho) ho
theorem Sub.cell {w w' : World} (h : Sub w w') (p : Addr) (u : Value) (hc : w.cell? p = some u) : w'.cell? p = some u := by
  unfold World.cell? at hc ⊢
  cases ho : w.heap[p.block]? with
  | none => rw [ho] at hc; cases hc
  | some o =>
    rw [h p.block o ho (by rintro rfl; rw [ho] at hc; simp at hc)]
    rw [ho] at hc; exact hc
/-- All blocks but those of X are as they were. -/
structure Kept (X : List Nat) (w w' : World) : Prop where
  os : w'.os = w.os
  tape : w'.tape = w.tape
  output : w'.output = w.output
  size : w.heap.size ≤ w'.heap.size
  block : ∀ k, k < w.heap.size → k ∉ X → w'.heap[k]? = w.heap[k]?
theorem Kept.refl (X : List Nat) (w : World) : Kept X w w := ⟨rfl, rfl, rfl, Nat.le_refl _, fun _ _ _ => rfl⟩
theorem Kept.trans {X Y Z : List Nat} {a b c : World} (h : Kept X a b) (k : Kept Y b c) (hX : ∀ i ∈ X, i ∈ Z) (hY : ∀ i ∈ Y, i ∈ Z ∨ a.heap.size ≤ i) : Kept Z a c :=
  ⟨k.os.trans h.os, k.tape.trans h.tape, k.output.trans h.output, Nat.le_trans h.size k.size, fun i hi hn => (k.block i (Nat.lt_of_lt_of_le hi h.size) fun hm => (hY i hm).elim hn (by omega)).trans (h.block i hi fun hm => hn (hX i hm))⟩
theorem Kept.drew {X : List Nat} {a b : World} (h : Kept X a b) : Kept X a b.drew := ⟨h.os, h.tape, h.output, h.size, h.block⟩
theorem Kept.heap {X : List Nat} {w w' : World} (h : Kept X w w') {k : Nat} {o : Obj} (hk : k ∉ X) (ho : w.heap[k]? = some o) : w'.heap[k]? = some o := (h.block k (Array.getElem?_eq_some_iff.1 ho).1 hk).trans ho
theorem hide_at (S : List Nat) (w : World) (k : Nat) : (hide S w).heap[k]? = (w.heap[k]?).map fun o => if k ∈ S then Obj.cells #[] 0 else o := by simp only [hide, Array.getElem?_mapIdx]
theorem hide_sub {A B : List Nat} {X : List Nat} {w w' : World} (h : Kept X w w') (hs : ∀ k, k < w.heap.size → k ∉ A → k ∉ X ∧ k ∉ B) : Sub (hide A w) (hide B w') := fun k o hk ho => by
  rw [hide_at] at hk ⊢
  cases hw : w.heap[k]? with
  | none => rw [hw] at hk; cases hk
  | some x =>
    rw [hw] at hk
    have hlt := (Array.getElem?_eq_some_iff.1 hw).1
    by_cases hA : k ∈ A
    · simp only [Option.map_some, if_pos hA, Option.some.injEq] at hk; exact absurd hk.symm ho
    · obtain ⟨h1, h2⟩ := hs k hlt hA
      rw [h.heap h1 hw]
      simpa [hA, h2] using hk
theorem hide_heap {S : List Nat} {w : World} {k : Nat} {o : Obj} (h : (hide S w).heap[k]? = some o) (ho : o ≠ Obj.cells #[] 0) : k ∉ S ∧ w.heap[k]? = some o := by
  rw [hide_at] at h
  cases hw : w.heap[k]? with
  | none => rw [hw] at h; cases h
  | some x =>
    rw [hw] at h
    by_cases hA : k ∈ S
    · simp only [Option.map_some, if_pos hA, Option.some.injEq] at h; exact absurd h.symm ho
    · exact ⟨hA, by simpa [hA] using h⟩
theorem hide_cell {S : List Nat} {w : World} {p : Addr} {v : Value} (h : (hide S w).cell? p = some v) : p.block ∉ S ∧ w.cell? p = some v := by
  unfold World.cell? at h ⊢
  cases ho : (hide S w).heap[p.block]? with
  | none => rw [ho] at h; cases h
  | some o =>
    obtain ⟨h1, h2⟩ := hide_heap ho (by rintro rfl; rw [ho] at h; simp at h)
    exact ⟨h1, by rw [h2]; rw [ho] at h; exact h⟩
theorem hide_shown {S : List Nat} {w : World} : Sub (hide S w) w := fun _ _ h ho => (hide_heap h ho).2

/-- The library's table of powers of ten stands. -/
def Gl (P : Program) (w : World) : Prop := Lib.TabIs P w "internal/strconv.uint64pow10" .u64 Lib.pow10Tab
theorem Gl.mono {P : Program} {w w' : World} (h : Gl P w) (hS : Sub w w') : Gl P w' := by
  unfold Gl Lib.TabIs World.var? at *
  cases hg : P.globalNamed "internal/strconv.uint64pow10" with
  | none => rw [hg] at h; cases h
  | some g =>
    rw [hg, Option.bind_some] at h
    rw [Option.bind_some]
    cases ho : w.heap[g]? with
    | none => rw [ho] at h; cases h
    | some o =>
      rw [ho] at h
      rw [hS g o ho (by rintro rfl; simp [Lib.pow10Tab] at h)]
      exact h
/-- One cell of data. -/
structure D where
  is : World → Value → Prop
  mono : ∀ {w w' : World} {v : Value}, Sub w w' → is w v → is w' v
  one : ∀ {w : World} {v : Value}, is w v → v.oneCell' = true
/-- A value that is known. -/
def lit (v : Value) (h : v.oneCell' = true := by rfl) : D := ⟨fun _ u => u = v, fun _ h => h, fun e => e ▸ h⟩
def i64 (n : Int) : D := lit (.int .i64 n)
def bl (b : Bool) : D := lit (.bool b)
def str (s : ByteArray) : D := lit (.string s)
/-- Two rows, one against the other. -/
def All2 {α β : Type} (R : α → β → Prop) : List α → List β → Prop
  | [], [] => True
  | a :: l, b :: m => R a b ∧ All2 R l m
  | _, _ => False
section
variable {α β : Type} {R Q : α → β → Prop}
theorem All2.len : ∀ {l : List α} {m : List β}, All2 R l m → l.length = m.length
  | [], [], _ => rfl
  | _ :: _, _ :: _, h => congrArg (· + 1) (All2.len h.2)
  | [], _ :: _, h => h.elim
  | _ :: _, [], h => h.elim
theorem All2.mono (hR : ∀ a b, R a b → Q a b) : ∀ {l : List α} {m : List β}, All2 R l m → All2 Q l m
  | [], [], _ => trivial
  | _ :: _, _ :: _, h => ⟨hR _ _ h.1, All2.mono hR h.2⟩
  | [], _ :: _, h => h.elim
  | _ :: _, [], h => h.elim
theorem All2.mono' : ∀ {l : List α} {m : List β}, (∀ a ∈ l, ∀ b, R a b → Q a b) → All2 R l m → All2 Q l m
  | [], [], _, _ => trivial
  | _ :: _, _ :: _, hR, h => ⟨hR _ (List.mem_cons_self ..) _ h.1, All2.mono' (fun a ha => hR a (List.mem_cons_of_mem _ ha)) h.2⟩
  | [], _ :: _, _, h => h.elim
  | _ :: _, [], _, h => h.elim
theorem All2.get : ∀ {l : List α} {m : List β}, All2 R l m → ∀ {j : Nat} {a : α}, l[j]? = some a → ∃ b, m[j]? = some b ∧ R a b
  | [], [], _, _, _, h => by simp at h
  | a :: l, b :: m, h, 0, x, hx => ⟨b, rfl, by simp at hx; exact hx ▸ h.1⟩
  | a :: l, b :: m, h, j + 1, x, hx => by
    obtain ⟨y, h1, h2⟩ := All2.get h.2 (j := j) (a := x) (by simpa using hx)
    exact ⟨y, by simpa using h1, h2⟩
  | [], _ :: _, h, _, _, _ => h.elim
  | _ :: _, [], h, _, _, _ => h.elim
theorem All2.take : ∀ {l : List α} {m : List β} (n : Nat), All2 R l m → All2 R (l.take n) (m.take n)
  | [], [], n, _ => by simp [All2]
  | a :: l, b :: m, 0, _ => trivial
  | a :: l, b :: m, n + 1, h => ⟨h.1, All2.take n h.2⟩
  | [], _ :: _, _, h => h.elim
  | _ :: _, [], _, h => h.elim
theorem All2.drop : ∀ {l : List α} {m : List β} (n : Nat), All2 R l m → All2 R (l.drop n) (m.drop n)
  | [], [], n, _ => by simp [All2]
  | a :: l, b :: m, 0, h => h
  | a :: l, b :: m, n + 1, h => All2.drop n h.2
  | [], _ :: _, _, h => h.elim
  | _ :: _, [], _, h => h.elim
theorem All2.append : ∀ {l l' : List α} {m m' : List β}, All2 R l m → All2 R l' m' → All2 R (l ++ l') (m ++ m')
  | [], _, [], _, _, h => h
  | _ :: _, _, _ :: _, _, h, k => ⟨h.1, All2.append h.2 k⟩
  | [], _, _ :: _, _, h, _ => h.elim
  | _ :: _, _, [], _, h, _ => h.elim
theorem All2.split : ∀ {l l' : List α} {m : List β}, All2 R (l ++ l') m → ∃ m1 m2, m = m1 ++ m2 ∧ All2 R l m1 ∧ All2 R l' m2
  | [], _, m, h => ⟨[], m, rfl, trivial, h⟩
  | _ :: _, _, [], h => h.elim
  | _ :: _, _, b :: m, h => by
    obtain ⟨m1, m2, rfl, h1, h2⟩ := All2.split h.2
    exact ⟨b :: m1, m2, rfl, ⟨h.1, h1⟩, h2⟩
end
/-- Cells that lie one behind the other. -/
def Lie (w : World) (b o : Nat) (us : List Value) : Prop := ∀ i u, us[i]? = some u → w.cell? ⟨b, o + i, none⟩ = some u
theorem Lie.mono {w w' : World} {b o : Nat} {us : List Value} (hS : Sub w w') (h : Lie w b o us) : Lie w' b o us := fun i u hi => hS.cell _ _ (h i u hi)
theorem Lie.drop {w : World} {b o : Nat} {us : List Value} (h : Lie w b o us) (n : Nat) : Lie w b (o + n) (us.drop n) := fun i u hi => by
  rw [List.getElem?_drop] at hi
  rw [Nat.add_assoc]; exact h _ _ hi
theorem Lie.take {w : World} {b o : Nat} {us : List Value} (h : Lie w b o us) (n : Nat) : Lie w b o (us.take n) := fun i u hi => by
  rw [List.getElem?_take] at hi
  split at hi
  · exact h _ _ hi
  · cases hi
def Cells (w : World) (ds : List D) (us : List Value) : Prop := All2 (fun d u => d.is w u) ds us
theorem Cells.mono {w w' : World} {ds : List D} {us : List Value} (hS : Sub w w') (h : Cells w ds us) : Cells w' ds us := All2.mono (fun _ _ => D.mono _ hS) h
/-- A slice of data: each element of k cells. -/
def sl (k : Nat) (ls : List (List D)) : D where
  is w v := ∃ a c, v = .slice a ls.length c ∧ ls.length ≤ c ∧ c ≤ maxLen ∧ ∀ j l, ls[j]? = some l → l.length = k ∧ ∃ b o us, a = some ⟨b, o, none⟩ ∧ Lie w b (o + j * k) us ∧ Cells w l us
  mono hS := fun ⟨a, c, h1, h2, h3, h⟩ => ⟨a, c, h1, h2, h3, fun j l hj => by
    obtain ⟨h4, b, o, us, h5, h6, h7⟩ := h j l hj
    exact ⟨h4, b, o, us, h5, h6.mono hS, h7.mono hS⟩⟩
  one := fun ⟨_, _, h, _⟩ => h ▸ rfl
/-- An address of data. -/
def adr (l : List D) : D where
  is w v := ∃ b o us, v = .pointer (some ⟨b, o, none⟩) ∧ Lie w b o us ∧ Cells w l us
  mono hS := fun ⟨b, o, us, h1, h2, h3⟩ => ⟨b, o, us, h1, h2.mono hS, h3.mono hS⟩
  one := fun ⟨_, _, _, h, _⟩ => h ▸ rfl

/-- A function with what it has captured. -/
def cloD (f : FuncId) (cs : List D) : D where
  is w v := ∃ us, v = .func (.func f) #[] us.toArray ∧ Cells w cs us
  mono := by rintro w w' v hS ⟨us, h1, h2⟩; exact ⟨us, h1, Cells.mono hS h2⟩
  one := by rintro w v ⟨_, h, _⟩; exact h ▸ rfl

abbrev Env := Nat → Value
inductive Cap where
  | key (κ : Nat)
  | one (x : D)
  | ag (xs : List D)
/-- One cell: data, or what one has made oneself (it has a number, its key), or an address in that. -/
inductive C where
  | d (x : D)
  | key (κ : Nat)
  | ptr (κ off : Nat)
  | sub (κ off n c : Nat)
  | clo (f : FuncId) (cs : List Cap)
  | mth (f : FuncId) (cs : List Cap)
def base : Value → Option Addr
  | .pointer a => a
  | .slice a _ _ => a
  | _ => none
def Cap.is (β : Env) (w : World) : Cap → Value → Prop
  | .key κ, v => v = β κ
  | .one x, v => x.is w v
  | .ag xs, v => ∃ us, v = .agg us.toArray ∧ Cells w xs us
def C.is (β : Env) (w : World) : C → Value → Prop
  | .d x, v => x.is w v
  | .key κ, v => v = β κ ∧ v.oneCell' = true
  | .ptr κ off, v => ∃ b o, base (β κ) = some ⟨b, o, none⟩ ∧ v = .pointer (some ⟨b, o + off, none⟩)
  | .sub κ off n c, v => ∃ b o, base (β κ) = some ⟨b, o, none⟩ ∧ v = .slice (some ⟨b, o + off, none⟩) n c
  | .clo f cs, v => ∃ us, v = .func (.func f) #[] us.toArray ∧ All2 (fun c u => c.is β w u) cs us
  | .mth f cs, v => ∃ us, v = .func (.func f) us.toArray #[] ∧ All2 (fun c u => c.is β w u) cs us
def Cap.keys : Cap → List Nat
  | .key κ => [κ]
  | _ => []
def C.keys : C → List Nat
  | .d _ => []
  | .key κ => [κ]
  | .ptr κ _ => [κ]
  | .sub κ _ _ _ => [κ]
  | .clo _ cs => cs.flatMap Cap.keys
  | .mth _ cs => cs.flatMap Cap.keys
theorem Cap.keep {β β' : Env} {w w' : World} {c : Cap} (hβ : ∀ κ ∈ c.keys, β' κ = β κ) (hS : Sub w w') {v : Value} (h : c.is β w v) : c.is β' w' v := by
  cases c with
  | key κ => exact h.trans (hβ κ (List.mem_singleton.2 rfl)).symm
  | one x => exact x.mono hS h
  | ag xs => obtain ⟨us, h1, h2⟩ := h; exact ⟨us, h1, h2.mono hS⟩
theorem C.keep {β β' : Env} {w w' : World} {c : C} (hβ : ∀ κ ∈ c.keys, β' κ = β κ) (hS : Sub w w') {v : Value} (h : c.is β w v) : c.is β' w' v := by
  cases c with
  | d x => exact x.mono hS h
  | key κ => exact ⟨h.1.trans (hβ κ (List.mem_singleton.2 rfl)).symm, h.2⟩
  | ptr κ off => obtain ⟨b, o, h1, h2⟩ := h; exact ⟨b, o, by rw [hβ κ (List.mem_singleton.2 rfl)]; exact h1, h2⟩
  | sub κ off n c => obtain ⟨b, o, h1, h2⟩ := h; exact ⟨b, o, by rw [hβ κ (List.mem_singleton.2 rfl)]; exact h1, h2⟩
  | clo f cs =>
    obtain ⟨us, h1, h2⟩ := h
    exact ⟨us, h1, All2.mono' (fun c hm u hu => Cap.keep (fun κ hκ => hβ κ (List.mem_flatMap.2 ⟨c, hm, hκ⟩)) hS hu) h2⟩
  | mth f cs =>
    obtain ⟨us, h1, h2⟩ := h
    exact ⟨us, h1, All2.mono' (fun c hm u hu => Cap.keep (fun κ hκ => hβ κ (List.mem_flatMap.2 ⟨c, hm, hκ⟩)) hS hu) h2⟩
theorem C.one {β : Env} {w : World} {c : C} {v : Value} (h : c.is β w v) : v.oneCell' = true := by
  cases c with
  | d x => exact x.one h
  | key κ => exact h.2
  | ptr κ off => obtain ⟨_, _, _, rfl⟩ := h; rfl
  | sub κ off n c => obtain ⟨_, _, _, rfl⟩ := h; rfl
  | clo f cs => obtain ⟨_, rfl, _⟩ := h; rfl
  | mth f cs => obtain ⟨_, rfl, _⟩ := h; rfl
def CellsC (β : Env) (w : World) (cs : List C) (us : List Value) : Prop := All2 (fun c u => c.is β w u) cs us
theorem CellsC.keep {β β' : Env} {w w' : World} {cs : List C} (hβ : ∀ κ ∈ cs.flatMap C.keys, β' κ = β κ) (hS : Sub w w') {us : List Value} (h : CellsC β w cs us) : CellsC β' w' cs us :=
  All2.mono' (fun c hm _ => C.keep (fun κ hκ => hβ κ (List.mem_flatMap.2 ⟨c, hm, hκ⟩)) hS) h
theorem CellsC.one {β : Env} {w : World} : ∀ {cs : List C} {us : List Value}, CellsC β w cs us → ∀ u ∈ us, u.oneCell' = true
  | [], [], _, u, hu => by cases hu
  | _ :: _, _ :: _, h, u, hu => by
    rcases List.mem_cons.1 hu with rfl | hu
    · exact C.one h.1
    · exact CellsC.one h.2 u hu
  | [], _ :: _, h, _, _ => h.elim
  | _ :: _, [], h, _, _ => h.elim
/-- A value: a cell, a struct, several results. -/
inductive U where
  | one (c : C)
  | ag (cs : List C)
inductive T where
  | one (c : C)
  | ag (cs : List C)
  | tup (us : List U)
  | opt (b : Bool) (t : T)
  | any
def U.is (β : Env) (w : World) : U → Value → Prop
  | .one c, v => c.is β w v
  | .ag cs, v => ∃ us, v = .agg us.toArray ∧ CellsC β w cs us
def T.is (β : Env) (w : World) : T → Value → Prop
  | .one c, v => c.is β w v
  | .ag cs, v => ∃ us, v = .agg us.toArray ∧ CellsC β w cs us
  | .tup ts, v => ∃ us, v = .tuple us.toArray ∧ All2 (fun t u => U.is β w t u) ts us
  | .opt b u, v => (b = true → u.is β w v) ∧ (b = false → v = undef)
  | .any, _ => True
def U.keys : U → List Nat
  | .one c => c.keys
  | .ag cs => cs.flatMap C.keys
def T.keys : T → List Nat
  | .one c => c.keys
  | .ag cs => cs.flatMap C.keys
  | .tup us => us.flatMap U.keys
  | .opt _ u => u.keys
  | .any => []
theorem U.keep {β β' : Env} {w w' : World} {t : U} (hβ : ∀ κ ∈ t.keys, β' κ = β κ) (hS : Sub w w') {v : Value} (h : t.is β w v) : t.is β' w' v := by
  cases t with
  | one c => exact C.keep hβ hS h
  | ag cs => obtain ⟨us, h1, h2⟩ := h; exact ⟨us, h1, h2.keep hβ hS⟩
theorem T.keep {β β' : Env} {w w' : World} {t : T} (hβ : ∀ κ ∈ t.keys, β' κ = β κ) (hS : Sub w w') {v : Value} (h : t.is β w v) : t.is β' w' v := by
  induction t generalizing v with
  | one c => exact C.keep hβ hS h
  | ag cs => obtain ⟨us, h1, h2⟩ := h; exact ⟨us, h1, h2.keep hβ hS⟩
  | tup ts => obtain ⟨us, h1, h2⟩ := h; exact ⟨us, h1, All2.mono' (fun t hm u => U.keep (fun κ hκ => hβ κ (List.mem_flatMap.2 ⟨t, hm, hκ⟩)) hS) h2⟩
  | opt b u ih => exact ⟨fun hb => ih hβ (h.1 hb), h.2⟩
  | any => trivial
/-- What one owns: a box, a row, a map. -/
structure M where
  is : World → Obj → Prop
  mono : ∀ {w w' : World} {o : Obj}, Sub w w' → is w o → is w' o
inductive Own where
  | box (ty : TypeId) (cs : List C)
  | row (ty : TypeId) (k : Nat) (ls : List (List D))
  | map (m : M)
  | rowc (ty : TypeId) (k : Nat) (ls : List (List D)) (m c : Nat)
def blk : Value → Option Nat
  | .pointer (some a) => some a.block
  | .slice (some a) _ _ => some a.block
  | .map r => r
  | _ => none
def Own.is (β : Env) (V w : World) : Own → Value → Prop
  | .box ty cs, v => ∃ b us, v = .pointer (some ⟨b, 0, none⟩) ∧ w.heap[b]? = some (.cells us.toArray ty (0, 0)) ∧ CellsC β V cs us
  | .row ty k ls, v => (∀ l ∈ ls, l.length = k) ∧ ((v = .slice none 0 0 ∧ ls = []) ∨ ∃ g c cur us, v = .slice (some ⟨g, 0, none⟩) ls.length c ∧ w.heap[g]? = some (.cells cur ty (0, 0)) ∧ ls.length ≤ c ∧ c ≤ maxLen ∧ cur.size = c * k ∧ cur.toList.take (ls.length * k) = us ∧ Cells V ls.flatten us)
  | .map m, v => ∃ r o, v = .map (some r) ∧ w.heap[r]? = some o ∧ m.is V o
  | .rowc ty k ls m c, v => (∀ l ∈ ls, l.length = k) ∧ ∃ g cur us, v = .slice (some ⟨g, 0, none⟩) (ls.length + m) c ∧ w.heap[g]? = some (.cells cur ty (0, 0)) ∧ ls.length + m ≤ c ∧ c ≤ maxLen ∧ cur.size = c * k ∧ cur.toList.take (ls.length * k) = us ∧ Cells V ls.flatten us
def Own.keys : Own → List Nat
  | .box _ cs => cs.flatMap C.keys
  | _ => []
theorem Own.keep {β β' : Env} {V V' w w' : World} {o : Own} (hβ : ∀ κ ∈ o.keys, β' κ = β κ) (hS : Sub V V') {v : Value} (hw : ∀ k, blk v = some k → ∀ x, w.heap[k]? = some x → w'.heap[k]? = some x) (h : o.is β V w v) : o.is β' V' w' v := by
  cases o with
  | box ty cs =>
    obtain ⟨b, us, rfl, h1, h2⟩ := h
    exact ⟨b, us, rfl, hw b rfl _ h1, h2.keep hβ hS⟩
  | row ty k ls =>
    obtain ⟨hk, h⟩ := h
    refine ⟨hk, h.imp id ?_⟩
    rintro ⟨g, c, cur, us, rfl, h1, h2, h3, h4, h5, h6⟩
    exact ⟨g, c, cur, us, rfl, hw g rfl _ h1, h2, h3, h4, h5, h6.mono hS⟩
  | map m =>
    obtain ⟨r, o, rfl, h1, h2⟩ := h
    exact ⟨r, o, rfl, hw r rfl _ h1, m.mono hS h2⟩
  | rowc ty k ls m c =>
    obtain ⟨hk, g, cur, us, rfl, h1, h2, h3, h4, h5, h6⟩ := h
    exact ⟨hk, g, cur, us, rfl, hw g rfl _ h1, h2, h3, h4, h5, h6.mono hS⟩
/-- All keys in it are below n. -/
def Bel (n : Nat) (l : List Nat) : Prop := ∀ κ ∈ l, κ < n
theorem Bel.up {n m : Nat} {l : List Nat} (h : n ≤ m) (k : Bel n l) : Bel m l := fun κ hκ => Nat.lt_of_lt_of_le (k κ hκ) h
end Go.Sv
