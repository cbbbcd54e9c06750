/- Part 7 of what TransFills asks: for every input it returns true, and its input reads as it did. No condition. -/
import Derived.Test.YtddddgbboipfeaaGreatDoorPt6
namespace Go.Sv
open Go Go.RowKit

section
variable {P : Program} {ops : Array Oper} {n : Nat} {d : Option Tmp} {ty t : TypeId} {pos : String} {af : Array Edge} {x y : Operand}
def cellsT : T → Option (List C)
  | .one c => some [c]
  | .ag cs => some cs
  | _ => none
theorem cells_of {β : Env} {V : World} {s : T} {cs : List C} (h : cellsT s = some cs) {v : Value} (hv : s.is β V v) : CellsC β V cs v.cells.toList := by
  cases s with
  | one c =>
    cases h
    have := C.one hv
    cases v <;> first | exact ⟨hv, trivial⟩ | cases this
  | ag l => cases h; obtain ⟨us, rfl, h2⟩ := hv; simpa [Value.cells] using h2
  | _ => cases h
theorem cells_keys {s : T} {cs : List C} (h : cellsT s = some cs) : s.keys = cs.flatMap C.keys := by
  cases s with
  | one c => cases h; simp [T.keys]
  | ag l => cases h; rfl
  | _ => cases h
/-- A new block of one's own. -/
theorem OpT.new {o : Oper} {tin : TL} {cs : List C} (hg : o.guard = none) (hk : (∀ e ∈ tin, Bel n e.2.keys) → Bel n (cs.flatMap C.keys))
    (h : ∀ (β : Env) (V w : World) (a : Act), Sub V w → (∀ e ∈ tin, e.2.is β V (a.eval e.1)) → ∃ us : List Value, (execOp a.eval o).run P w = .ok (.value (.pointer (some ⟨w.heap.size, 0, none⟩))) (w.alloc (.cells us.toArray t)) ∧ CellsC β V cs us) :
    OpT P ops o n tin [] [] (.one (.key n)) [(n, .box t cs)] (n + 1) :=
  ⟨Nat.le_succ n, fun β S w a K htin hb hO hK => by
    rw [if_pos (by simp [Region.wanted, hg])]
    obtain ⟨us, h1, h2⟩ := h β (hide S w) w a hide_shown htin
    unfold Oper.wp
    rw [h1]
    obtain ⟨β', hβ'⟩ : ∃ β' : Env, β' = fun κ => if κ = n then .pointer (some ⟨w.heap.size, 0, none⟩) else β κ := ⟨_, rfl⟩
    have hn : β' n = .pointer (some ⟨w.heap.size, 0, none⟩) := by rw [hβ']; exact if_pos rfl
    have hlt : ∀ κ, κ < n → β' κ = β κ := fun κ hκ => by rw [hβ']; exact if_neg (by omega)
    have hkept : Kept [] w (w.alloc (.cells us.toArray t)) := ⟨rfl, rfl, rfl, by simp, fun k hk _ => Below.heap_alloc _ _ _ hk⟩
    have hbl : blks β' ([] ++ [(n, Own.box t cs)]) = [w.heap.size] := by simp [blks, hn, blk]
    have hV : Sub (hide S w) (View β' ([] ++ [(n, Own.box t cs)]) S (w.alloc (.cells us.toArray t))) := by
      unfold View
      rw [hbl]
      exact hide_sub hkept fun k hk hns => ⟨by simp, fun hm => by
        rcases List.mem_cons.1 hm with h | h
        · omega
        · exact hns h⟩
    refine hK _ β' _ hkept hlt ?_ ⟨hn.symm, rfl⟩ ⟨fun e he => ?_, fun e he e' he' hne => ?_, fun b hm => ?_, fun b hb => ?_⟩ fun b hm => ?_
    · intro κ hκ
      rw [List.mem_singleton.1 hκ]
      exact Nat.lt_succ_self n
    · cases List.mem_singleton.1 he
      exact ⟨Nat.lt_succ_self n, Bel.up (Nat.le_succ n) (hk hb), w.heap.size, us, hn, heap_alloc_new w _, CellsC.keep (fun κ hκ => hlt κ (hk hb κ hκ)) hV h2⟩
    · cases List.mem_singleton.1 he
      cases List.mem_singleton.1 he'
      exact absurd rfl hne
    · rw [hbl, List.mem_singleton] at hm
      subst hm
      exact fun hS => Nat.lt_irrefl _ (hO.lt _ hS)
    · have := hO.lt b hb
      simp; omega
    · rw [show blks β' [(n, Own.box t cs)] = [w.heap.size] from hbl, List.mem_singleton] at hm
      subst hm
      exact .inr (Nat.le_refl _)⟩
theorem OpT.box {s : T} {cs : List C} (hs : cellsT s = some cs := by rfl) : OpT P ops (mkO d (.box t x) ty pos af) n [(x, s)] [] [] (.one (.key n)) [(n, .box t cs)] (n + 1) :=
  OpT.new rfl (fun h => cells_keys hs ▸ h _ (List.mem_singleton.2 rfl)) fun β V w A _ h => ⟨(A.eval x).cells.toList, by simp only [execOp, Instr.box, newVar, newRow, Sem.run_bind, run_newObj, Result.andThen_ok, Sem.run_pure, Array.toArray_toList]; rfl, cells_of hs (in1 h)⟩
theorem zero_cells {β : Env} {V : World} : ∀ zs : List ZK, CellsC β V (zs.map fun z => C.d (lit z.val z.one)) (zs.map ZK.val)
  | [] => trivial
  | _ :: l => ⟨rfl, zero_cells l⟩
def zeroC (zs : List ZK) : List C := zs.map fun z => C.d (lit z.val z.one)
theorem zeroC_keys (zs : List ZK) : (zeroC zs).flatMap C.keys = [] := by
  simp only [zeroC, List.flatMap_eq_nil_iff, List.mem_map]
  rintro _ ⟨z, _, rfl⟩; rfl
theorem OpT.alloc [Lays P] {k : Nat} {lk : LK} {fl : List (Nat × Nat)} {zs : List ZK} (ht : lay P t = some ⟨lk, k, fl, zs⟩ := by rfl) : OpT P ops (mkO d (.alloc t) ty pos af) n [] [] [] (.one (.key n)) [(n, .box t (zeroC zs))] (n + 1) :=
  OpT.new rfl (fun _ => bel0 (zeroC_keys zs)) fun β V w A _ h => by
    obtain ⟨z, h1, h2⟩ := lay_zero ht w
    refine ⟨zs.map ZK.val, ?_, zero_cells zs⟩
    have : z.cells = (zs.map ZK.val).toArray := by rw [← h2]
    simp only [execOp, Instr.alloc, newVar, newRow, Sem.run_bind, run_newObj, Result.andThen_ok, Sem.run_pure, h1, this]; rfl
/-- An address within what one owns. -/
def offC : C → Option (Nat × Nat)
  | .key κ => some (κ, 0)
  | .ptr κ o => some (κ, o)
  | _ => none
theorem off_is {β : Env} {V : World} {c : C} {κ o b : Nat} (h : offC c = some (κ, o)) {v : Value} (hb : β κ = .pointer (some ⟨b, 0, none⟩)) (hv : c.is β V v) : v = .pointer (some ⟨b, o, none⟩) := by
  cases c with
  | key κ' => cases h; exact hv.1.trans hb
  | ptr κ' o' =>
    cases h
    obtain ⟨b', o2, h1, rfl⟩ := hv
    rw [hb] at h1
    cases h1
    simp
  | _ => cases h
theorem off_keys {c : C} {κ o : Nat} (h : offC c = some (κ, o)) : c.keys = [κ] := by cases c <;> cases h <;> rfl
/-- What is read of one's own box. -/
theorem OpT.own {o : Oper} {tin : TL} {out : T} {κ : Nat} {t : TypeId} {cs : List C} (hg : o.guard = none) (hk : (∀ e ∈ tin, Bel n e.2.keys) → Bel n (cs.flatMap C.keys) → Bel n out.keys)
    (h : ∀ (β : Env) (V w : World) (a : Act) (b : Nat) (us : List Value), Sub V w → β κ = .pointer (some ⟨b, 0, none⟩) → w.heap[b]? = some (.cells us.toArray t (0, 0)) → CellsC β V cs us → (∀ e ∈ tin, e.2.is β V (a.eval e.1)) → ∃ v, (execOp a.eval o).run P w = .ok (.value v) w ∧ out.is β V v) :
    OpT P ops o n tin [(κ, .box t cs)] [] out [] n :=
  ⟨Nat.le_refl n, fun β S w a K htin hb hO hK => by
    rw [if_pos (by simp [Region.wanted, hg])]
    obtain ⟨_, h2, b, us, h3, h4, h5⟩ := hO.is (κ, Own.box t cs) (List.mem_cons_self ..)
    obtain ⟨v, h6, h7⟩ := h β _ w a b us hide_shown h3 h4 h5 htin
    unfold Oper.wp
    rw [h6]
    exact hK v β w (Kept.refl _ _) (fun _ _ => rfl) (hk hb h2) h7 hO.toOwns fun b hb => by cases hb⟩
theorem OpT.fieldO [Lays P] {k f off ft κ o : Nat} {fl : List (Nat × Nat)} {z : List ZK} {lf : Lay} {c : C} {t' : TypeId} {cs : List C} (hc : offC c = some (κ, o) := by rfl) (ht : lay P t = some ⟨.struct, k, fl, z⟩ := by rfl) (hf : fl[f]? = some (off, ft) := by rfl) (hl : lay P ft = some lf := by rfl) (hs : Nat.beq lf.size 0 = false := by rfl) :
    OpT P ops (mkO d (.fieldAddr t x f) ty pos af) n [(x, .one c)] [(κ, .box t' cs)] [] (.one (.ptr κ (o + off))) [] n := OpT.own rfl (fun h _ => by
      have := h _ (List.mem_singleton.2 rfl)
      rw [show T.keys (.one c) = c.keys from rfl, off_keys hc] at this
      exact this) fun β V w A b us _ hb _ _ h => by
  have e1 := off_is hc hb (in1 h)
  exact ⟨.pointer (some ⟨b, o + off, none⟩), by simp only [execOp, e1, Sem.run_bind, field_place ht hf hl hs b o w, Result.andThen_ok, Sem.run_pure], b, 0, by rw [hb]; rfl, by simp⟩
theorem mem_drop_take {cs : List C} {o k κ : Nat} (h : κ ∈ ((cs.drop o).take k).flatMap C.keys) : κ ∈ cs.flatMap C.keys := by
  obtain ⟨c, h1, h2⟩ := List.mem_flatMap.1 h
  exact List.mem_flatMap.2 ⟨c, List.mem_of_mem_drop (List.mem_of_mem_take h1), h2⟩
theorem OpT.loadO [Lays P] {k κ o : Nat} {lk : LK} {fl : List (Nat × Nat)} {z : List ZK} {c : C} {t' : TypeId} {cs cs' : List C} (hc : offC c = some (κ, o) := by rfl) (ht : lay P t = some ⟨lk, k, fl, z⟩ := by rfl) (ha : lk.agg = true := by rfl) (hcs : (cs.drop o).take k = cs' := by rfl) (hk : cs'.length = k := by rfl) :
    OpT P ops (mkO d (.load t x) ty pos af) n [(x, .one c)] [(κ, .box t' cs)] [] (.ag cs') [] n := by
  subst hcs
  refine OpT.own rfl (fun _ h κ hκ => h κ (mem_drop_take hκ)) fun β V w A b us hS hb hw hu h => ?_
  have e1 := off_is hc hb (in1 h)
  have hsh := lay_shp ht
  rw [ha] at hsh
  have hu2 : CellsC β V ((cs.drop o).take k) ((us.drop o).take k) := All2.take k (All2.drop o hu)
  have hl : Lie w b o ((us.drop o).take k) := by
    have := ((lie_all hw).drop o).take k
    rwa [Nat.zero_add] at this
  exact ⟨_, by simp only [execOp, e1, Instr.loadAt, Instr.sureAddr, Sem.run_bind, Sem.run_pure, Result.andThen_ok, load_many hsh hl (hu2.len.symm.trans hk)], _, rfl, hu2⟩
theorem OpT.loadO1 [Lays P] {k κ o : Nat} {lk : LK} {fl : List (Nat × Nat)} {z : List ZK} {c c' : C} {t' : TypeId} {cs : List C} (hc : offC c = some (κ, o) := by rfl) (ht : lay P t = some ⟨lk, k, fl, z⟩ := by rfl) (ha : lk.agg = false := by rfl) (hcs : cs[o]? = some c' := by rfl) :
    OpT P ops (mkO d (.load t x) ty pos af) n [(x, .one c)] [(κ, .box t' cs)] [] (.one c') [] n := by
  refine OpT.own rfl (fun _ h κ hκ => h κ (List.mem_flatMap.2 ⟨c', List.mem_of_getElem? hcs, hκ⟩)) fun β V w A b us hS hb hw hu h => ?_
  have e1 := off_is hc hb (in1 h)
  have hsh := lay_shp ht
  rw [ha] at hsh
  obtain ⟨u, h4, h5⟩ := All2.get hu hcs
  have : w.cell? ⟨b, o, none⟩ = some u := by have := lie_all hw o u h4; rwa [Nat.zero_add] at this
  exact ⟨u, by simp only [execOp, e1, Instr.loadAt, Instr.sureAddr, Sem.run_bind, Sem.run_pure, Result.andThen_ok, load_one hsh this], h5⟩
/-- Cells put in the place of others. -/
def splice {α : Type} : List α → Nat → List α → List α
  | l, 0, [] => l
  | _ :: l, 0, y :: m => y :: splice l 0 m
  | a :: l, o + 1, m => a :: splice l o m
  | [], _, _ => []
theorem splice_all2 {α β : Type} {R : α → β → Prop} : ∀ {l : List α} {m : List β} {o : Nat} {a : List α} {b : List β}, All2 R l m → All2 R a b → All2 R (splice l o a) (splice m o b)
  | l, m, 0, [], [], h, _ => by cases l <;> cases m <;> exact h
  | [], [], 0, _ :: _, _ :: _, _, _ => trivial
  | [], [], _ + 1, _, _, _, _ => trivial
  | _ :: _, _ :: _, 0, _ :: _, _ :: _, h, k => ⟨k.1, splice_all2 (o := 0) h.2 k.2⟩
  | _ :: _, _ :: _, o + 1, _, _, h, k => ⟨h.1, splice_all2 (o := o) h.2 k⟩
  | [], _ :: _, _, _, _, h, _ => h.elim
  | _ :: _, [], _, _, _, h, _ => h.elim
  | _, _, 0, [], _ :: _, _, h => h.elim
  | _, _, 0, _ :: _, [], _, h => h.elim
theorem splice_mem {α : Type} : ∀ {l : List α} {o : Nat} {a : List α} {x : α}, x ∈ splice l o a → x ∈ l ∨ x ∈ a
  | [], 0, [], _, h => by cases h
  | [], 0, _ :: _, _, h => by cases h
  | [], _ + 1, _, _, h => by cases h
  | _ :: _, 0, [], _, h => .inl h
  | _ :: l, 0, _ :: a, _, h => by
    rcases List.mem_cons.1 h with rfl | h
    · exact .inr (List.mem_cons_self ..)
    · exact (splice_mem (o := 0) h).imp (List.mem_cons_of_mem _) (List.mem_cons_of_mem _)
  | _ :: l, o + 1, a, _, h => by
    rcases List.mem_cons.1 h with rfl | h
    · exact .inl (List.mem_cons_self ..)
    · exact (splice_mem (o := o) h).imp (List.mem_cons_of_mem _) id
theorem splice_get {α : Type} : ∀ {l : List α} {o : Nat} {a : List α} {i : Nat}, (splice l o a)[i]? = if o ≤ i ∧ i < o + a.length ∧ i < l.length then a[i - o]? else l[i]?
  | [], 0, [], i => by simp [splice]
  | [], 0, _ :: _, i => by simp [splice]
  | [], _ + 1, _, i => by simp [splice]
  | x :: l, 0, [], i => by simp [splice]
  | x :: l, 0, y :: a, 0 => by simp [splice]
  | x :: l, 0, y :: a, i + 1 => by
    have := splice_get (l := l) (o := 0) (a := a) (i := i)
    simp only [splice, List.getElem?_cons_succ, this, List.length_cons, Nat.zero_le, true_and, Nat.zero_add, Nat.sub_zero]
    by_cases h : i < a.length ∧ i < l.length
    · rw [if_pos h, if_pos (by omega)]
    · rw [if_neg h, if_neg (by omega)]
  | x :: l, o + 1, a, 0 => by simp [splice]
  | x :: l, o + 1, a, i + 1 => by
    have := splice_get (l := l) (o := o) (a := a) (i := i)
    simp only [splice, List.getElem?_cons_succ, this, List.length_cons, Nat.add_sub_add_right]
    by_cases h : o ≤ i ∧ i < o + a.length ∧ i < l.length
    · rw [if_pos h, if_pos (by omega)]
    · rw [if_neg h, if_neg (by omega)]
def setAll : Array Value → Nat → List Value → Array Value
  | cs, _, [] => cs
  | cs, o, v :: vs => setAll (cs.setIfInBounds o v) (o + 1) vs
theorem setCells_kept (g : Nat) : ∀ (vs : List Value) (o : Nat) (w : World), Kept [g] w (w.setCells g o vs)
  | [], _, w => Kept.refl _ w
  | v :: vs, o, w => by
    unfold World.setCells
    exact Kept.trans (X := [g]) (Y := [g]) (b := w.setCell ⟨g, o, none⟩ v) ⟨rfl, rfl, rfl, by simp [World.setCell], fun k _ hn => Below.heap_setCell w ⟨g, o, none⟩ v k (by simpa using hn)⟩ (setCells_kept g vs _ _) (fun _ h => h) fun _ h => .inl h
theorem heap_setCells {g : Nat} {t : TypeId} : ∀ (vs : List Value) (o : Nat) {w : World} {cs : Array Value}, w.heap[g]? = some (.cells cs t (0, 0)) → (w.setCells g o vs).heap[g]? = some (.cells (setAll cs o vs) t (0, 0))
  | [], _, _, _, h => h
  | v :: vs, o, w, cs, h => by
    unfold World.setCells setAll
    refine heap_setCells vs (o + 1) ?_
    simp only [World.setCell, Array.getElem?_modify, if_true, h, Option.map_some, Option.isSome, Bool.false_eq_true, if_false]
theorem setCells_size {g : Nat} : ∀ (vs : List Value) (o : Nat) (w : World), (w.setCells g o vs).heap.size = w.heap.size
  | [], _, _ => rfl
  | v :: vs, o, w => by
    unfold World.setCells
    rw [setCells_size vs]
    simp [World.setCell]
theorem setAll_get : ∀ (vs : List Value) (cs : Array Value) (o i : Nat), (setAll cs o vs)[i]? = if o ≤ i ∧ i < o + vs.length ∧ i < cs.size then vs[i - o]? else cs[i]?
  | [], cs, o, i => by
    unfold setAll
    rw [if_neg (by simp only [List.length_nil]; omega)]
  | v :: vs, cs, o, i => by
    unfold setAll
    rw [setAll_get vs _ (o + 1) i, Array.size_setIfInBounds, Array.getElem?_setIfInBounds]
    simp only [List.length_cons]
    by_cases h1 : o = i
    · subst h1
      rw [if_neg (by omega), if_pos rfl]
      by_cases h2 : o < cs.size
      · rw [if_pos h2, if_pos (by omega), Nat.sub_self]; rfl
      · rw [if_neg h2, if_neg (by omega), Array.getElem?_eq_none (by omega)]
    · rw [if_neg h1]
      by_cases h2 : o + 1 ≤ i ∧ i < o + 1 + vs.length ∧ i < cs.size
      · rw [if_pos h2, if_pos (by omega), show i - o = (i - (o + 1)) + 1 by omega, List.getElem?_cons_succ]
      · rw [if_neg h2, if_neg (by omega)]
theorem set_splice (vs us : List Value) (o : Nat) : setAll us.toArray o vs = (splice us o vs).toArray := by
  refine Array.ext_getElem? fun i => ?_
  rw [setAll_get]
  simp only [List.getElem?_toArray, splice_get, List.size_toArray]
/-- A struct, or a cell, is written into one's own box. -/
theorem OpT.store [Lays P] {k κ o : Nat} {lk : LK} {fl : List (Nat × Nat)} {z : List ZK} {c : C} {s : T} {t' : TypeId} {cs xs cs' : List C} (hs : cellsT s = some xs := by rfl) (hc : offC c = some (κ, o) := by rfl) (ht : lay P t = some ⟨lk, k, fl, z⟩ := by rfl) (hcs : splice cs o xs = cs' := by rfl) (hk : xs.length = k := by rfl) (hle : Nat.ble (o + k) cs.length = true := by rfl) :
    OpT P ops (mkO none (.store t x y) ty pos af) n [(x, .one c), (y, s)] [] [(κ, .box t' cs)] .any [(κ, .box t' cs')] n := by
  subst hcs
  refine ⟨Nat.le_refl n, fun β S w A K htin hb hO hK => ?_⟩
  rw [if_pos (by simp [Region.wanted])]
  obtain ⟨h1, h2, b, us, h3, h4, h5⟩ := hO.is (κ, Own.box t' cs) (List.mem_cons_self ..)
  obtain ⟨hx, hy⟩ := in2 htin
  have e1 : A.eval x = .pointer (some ⟨b, o, none⟩) := off_is hc h3 hx
  have hv := cells_of hs hy
  have hle' : o + k ≤ us.length := by rw [← h5.len]; exact Nat.le_of_ble_eq_true hle
  have hvl : (A.eval y).cells.size = k := by have := hv.len; simp at this; omega
  have hth : w.there b o (A.eval y).cells.size := fun j hj => ⟨by
    rw [cell_of_row _ _ _ _ _ _ h4]
    simp; omega, by simp [World.frozen?, h4]⟩
  obtain ⟨dd, i, zz, hd, hi, hsz, _⟩ := lay_all ht
  have hrun : (storeVar t ⟨b, o, none⟩ (A.eval y)).run P w = .ok () (w.setCells b o (A.eval y).cells.toList) := by
    have h6 := run_storeCells_cells (P := P) b o (A.eval y).cells.toList 0 w (fun j hj => by simpa using (hth j (by simpa using hj)).1) (fun j hj => by simpa using (hth j (by simpa using hj)).2) (fun v hv' => CellsC.one hv v hv')
    have h7 : (sizeOf t).run P w = .ok (A.eval y).cells.size w := by rw [lay_size ht w, hvl]
    simp only [storeVar, Sem.run_bind, h7, Result.andThen_ok, ne_eq, not_true_eq_false, if_false]
    simpa [Sem.run_ite] using h6
  unfold Oper.wp
  have he : (execOp A.eval (mkO none (.store t x y) ty pos af)).run P w = .ok .skip (w.setCells b o (A.eval y).cells.toList) := by
    simp only [execOp, e1, Instr.storeAt, Instr.sureAddr, Sem.run_bind, Sem.run_pure, Result.andThen_ok, hrun]
  rw [he]
  have hbl : blks β ([] ++ [(κ, Own.box t' cs)]) = [b] := by simp [blks, h3, blk]
  have hbl' : blks β ([] ++ [(κ, Own.box t' (splice cs o xs))]) = [b] := by simp [blks, h3, blk]
  have hkept : Kept [b] w (w.setCells b o (A.eval y).cells.toList) := setCells_kept b _ o w
  have hbw : blks β [(κ, Own.box t' cs)] = [b] := hbl
  have hV : Sub (View β ([] ++ [(κ, Own.box t' cs)]) S w) (View β ([] ++ [(κ, Own.box t' (splice cs o xs))]) S (w.setCells b o (A.eval y).cells.toList)) := by
    unfold View
    rw [hbl, hbl']
    exact hide_sub hkept fun k _ hn => ⟨fun hm => hn (List.mem_append_left _ hm), hn⟩
  refine hK undef β _ (hbw ▸ hkept) (fun _ _ => rfl) (bel0 rfl) trivial ⟨fun e he => ?_, fun e he e' he' hne => ?_, fun k hm => ?_, fun k hk => ?_⟩ fun k hm => ?_
  · cases List.mem_singleton.1 he
    refine ⟨h1, fun q hq => ?_, b, splice us o (A.eval y).cells.toList, h3, ?_, splice_all2 (CellsC.keep (fun _ _ => rfl) hV h5) (CellsC.keep (fun _ _ => rfl) hV hv)⟩
    · obtain ⟨c', hc1, hc2⟩ := List.mem_flatMap.1 hq
      rcases splice_mem hc1 with hm | hm
      · exact h2 q (List.mem_flatMap.2 ⟨c', hm, hc2⟩)
      · exact hb _ (List.mem_cons_of_mem _ (List.mem_singleton.2 rfl)) q (cells_keys hs ▸ List.mem_flatMap.2 ⟨c', hm, hc2⟩)
    · rw [heap_setCells _ _ h4, set_splice]
  · cases List.mem_singleton.1 he
    cases List.mem_singleton.1 he'
    exact absurd rfl hne
  · rw [hbl'] at hm
    exact hO.out k (hbl ▸ hm)
  · rw [setCells_size]; exact hO.lt k hk
  · left
    rw [hbw]
    rwa [show blks β [(κ, Own.box t' (splice cs o xs))] = [b] from hbl'] at hm
end
end Go.Sv
namespace Go.Sv
open Go Go.RowKit

def noKey (κ : Nat) : HL → Bool
  | [] => true
  | e :: H => !Nat.beq e.1 κ && noKey κ H
theorem noKey_of {κ : Nat} : ∀ {H : HL}, noKey κ H = true → ∀ e ∈ H, e.1 ≠ κ
  | [], _, _, h => by cases h
  | e :: H, h, f, hf => by
    simp only [noKey, Bool.and_eq_true, Bool.not_eq_true'] at h
    rcases List.mem_cons.1 hf with rfl | hf
    · intro he
      rw [he, show Nat.beq κ κ = true from Nat.beq_refl κ] at h
      cases h.1
    · exact noKey_of h.2 f hf
/-- In H, κ has o; in H2, o'. -/
inductive Rep (κ : Nat) (o o' : Own) : HL → HL → Prop
  | here {H : HL} (h : noKey κ H = true) : Rep κ o o' ((κ, o) :: H) ((κ, o') :: H)
  | there {H H2 : HL} {κ' : Nat} {x : Own} (hne : Nat.beq κ' κ = false) (h : Rep κ o o' H H2) : Rep κ o o' ((κ', x) :: H) ((κ', x) :: H2)
theorem Rep.mem {κ : Nat} {o o' : Own} {H H2 : HL} (h : Rep κ o o' H H2) : (κ, o) ∈ H ∧ ∀ e, e ∈ H2 ↔ e ∈ upd H [(κ, o)] [(κ, o')] := by
  induction h with
  | @here H h =>
    refine ⟨List.mem_cons_self .., fun e => ?_⟩
    rw [mem_upd]
    simp only [List.mem_cons, List.not_mem_nil, or_false, keys, List.map_cons, List.map_nil]
    constructor
    · rintro (h1 | h1)
      · exact .inl h1
      · exact .inr ⟨.inr h1, noKey_of h e h1⟩
    · rintro (h1 | ⟨rfl | h1, h2⟩)
      · exact .inl h1
      · exact absurd rfl h2
      · exact .inr h1
  | @there H H2 κ' x hne h ih =>
    obtain ⟨h1, h2⟩ := ih
    refine ⟨List.mem_cons_of_mem _ h1, fun e => ?_⟩
    have hn : κ' ≠ κ := fun e => by rw [e, show Nat.beq κ κ = true from Nat.beq_refl κ] at hne; cases hne
    rw [mem_upd, List.mem_cons, h2, mem_upd]
    simp only [List.mem_cons, List.not_mem_nil, or_false, keys, List.map_cons, List.map_nil]
    constructor
    · rintro (rfl | h3 | ⟨h3, h4⟩)
      · exact .inr ⟨.inl rfl, hn⟩
      · exact .inl h3
      · exact .inr ⟨.inr h3, h4⟩
    · rintro (h3 | ⟨rfl | h3, h4⟩)
      · exact .inr (.inl h3)
      · exact .inl rfl
      · exact .inr (.inr ⟨h3, h4⟩)
section
variable {P : Program} {ops : Array Oper} {n : Nat} {d : Tmp} {op : Op} {ty t : TypeId} {pos : String} {af : Array Edge} {F : FL} {H H2 : HL} {acc : List Acc} {l : List Oper} {tin : TL} {out : T} {Fin : Nat → FL → HL → List Acc → Prop} {x y : Operand} {o' : Own} {κ : Nat}
theorem Ch.nw (h : OpT P ops (mkO (some d) op ty pos af) n tin [] [] (.one (.key n)) [(n, o')] (n + 1)) (hF : Tin F tin) (r : Ch P ops Fin l (n + 1) ((d, .one (.key n)) :: F) ((n, o') :: H) (acc ++ [Rec.acc ⟨tin, [], [], .one (.key n), [(n, o')], n, n + 1⟩ (some d)])) : Ch P ops Fin (mkO (some d) op ty pos af :: l) n F H acc :=
  .step tin [] [] _ _ _ h hF.all (fun _ h => by cases h) _ (fun e => by rw [mem_upd, List.mem_cons]; simp [keys]) r
theorem Ch.r (h : OpT P ops (mkO (some d) op ty pos af) n tin [(κ, o')] [] out [] n) (hF : Tin F tin) (hH : look H κ = some o') (r : Ch P ops Fin l n ((d, out) :: F) H (acc ++ [Rec.acc ⟨tin, [(κ, o')], [], out, [], n, n⟩ (some d)])) : Ch P ops Fin (mkO (some d) op ty pos af :: l) n F H acc :=
  .step tin _ [] _ [] n h hF.all (fun e he => by rw [List.append_nil, List.mem_singleton] at he; subst he; exact look_mem hH) H (fun _ => by rw [upd_nil]) r
theorem OpT.max {d : Option Tmp} {a b : Int} {tys : Array TypeId} : OpT P ops (mkO d (.call ⟨.builtin .max, #[x, y], tys⟩) ty pos af) n [(x, iT a), (y, iT b)] [] [] (iT (if b > a then b else a)) [] n := .runD rfl fun β V w A _ h => by
  obtain ⟨h1, h2⟩ := in2 h
  have e1 : A.eval x = .int .i64 a := h1
  have e2 : A.eval y = .int .i64 b := h2
  refine ⟨.int .i64 (if b > a then b else a), ?_, rfl⟩
  simp [execOp, e1, e2, resolve, invoke, builtin, Builtin.max_, Builtin.max2, List.foldlM]
variable [Lays P]
theorem Ch.fieldO {f k off ft o : Nat} {fl : List (Nat × Nat)} {z : List ZK} {lf : Lay} {c : C} {t' : TypeId} {cs : List C} (hF : Tin F [(x, .one c)]) (hc : offC c = some (κ, o) := by rfl) (hH : look H κ = some (.box t' cs) := by rfl) (ht : lay P t = some ⟨.struct, k, fl, z⟩ := by rfl) (hf : fl[f]? = some (off, ft) := by rfl) (hl : lay P ft = some lf := by rfl) (hs : Nat.beq lf.size 0 = false := by rfl)
    (r : Ch P ops Fin l n ((d, .one (.ptr κ (o + off))) :: F) H (acc ++ [Rec.acc ⟨[(x, .one c)], [(κ, .box t' cs)], [], .one (.ptr κ (o + off)), [], n, n⟩ (some d)])) : Ch P ops Fin (mkO (some d) (.fieldAddr t x f) ty pos af :: l) n F H acc := .r (.fieldO hc ht hf hl hs) hF hH r
theorem Ch.loadO {k o : Nat} {lk : LK} {fl : List (Nat × Nat)} {z : List ZK} {c : C} {t' : TypeId} {cs cs' : List C} (hF : Tin F [(x, .one c)]) (hc : offC c = some (κ, o) := by rfl) (hH : look H κ = some (.box t' cs) := by rfl) (ht : lay P t = some ⟨lk, k, fl, z⟩ := by rfl) (ha : lk.agg = true := by rfl) (hcs : (cs.drop o).take k = cs' := by rfl) (hk : cs'.length = k := by rfl)
    (r : Ch P ops Fin l n ((d, .ag cs') :: F) H (acc ++ [Rec.acc ⟨[(x, .one c)], [(κ, .box t' cs)], [], .ag cs', [], n, n⟩ (some d)])) : Ch P ops Fin (mkO (some d) (.load t x) ty pos af :: l) n F H acc := .r (.loadO hc ht ha hcs hk) hF hH r
theorem Ch.loadO1 {k o : Nat} {lk : LK} {fl : List (Nat × Nat)} {z : List ZK} {c c' : C} {t' : TypeId} {cs : List C} (hF : Tin F [(x, .one c)]) (hc : offC c = some (κ, o) := by rfl) (hH : look H κ = some (.box t' cs) := by rfl) (ht : lay P t = some ⟨lk, k, fl, z⟩ := by rfl) (ha : lk.agg = false := by rfl) (hcs : cs[o]? = some c' := by rfl)
    (r : Ch P ops Fin l n ((d, .one c') :: F) H (acc ++ [Rec.acc ⟨[(x, .one c)], [(κ, .box t' cs)], [], .one c', [], n, n⟩ (some d)])) : Ch P ops Fin (mkO (some d) (.load t x) ty pos af :: l) n F H acc := .r (.loadO1 hc ht ha hcs) hF hH r
theorem Ch.store {k o : Nat} {lk : LK} {fl : List (Nat × Nat)} {z : List ZK} {c : C} {s : T} {t' : TypeId} {cs xs cs' : List C} (hF : Tin F [(x, .one c), (y, s)]) (hs : cellsT s = some xs := by rfl) (hc : offC c = some (κ, o) := by rfl) (hR : Rep κ (.box t' cs) (.box t' cs') H H2 := by (repeat (first | exact Rep.here (by rfl) | (apply Rep.there; rfl)))) (ht : lay P t = some ⟨lk, k, fl, z⟩ := by rfl)
    (hcs : splice cs o xs = cs' := by rfl) (hk : xs.length = k := by rfl) (hle : Nat.ble (o + k) cs.length = true := by rfl) (r : Ch P ops Fin l n F H2 (acc ++ [Rec.acc ⟨[(x, .one c), (y, s)], [], [(κ, .box t' cs)], .any, [(κ, .box t' cs')], n, n⟩ none])) : Ch P ops Fin (mkO none (.store t x y) ty pos af :: l) n F H acc :=
  .step _ [] _ _ _ n (.store hs hc ht hcs hk hle) hF.all (fun e he => by rw [List.nil_append, List.mem_singleton] at he; subst he; exact hR.mem.1) H2 hR.mem.2 r
end
end Go.Sv
namespace Go.Sv
open Go Go.RowKit

theorem Con.up {P : Program} {f : FuncId} {args : List T} {out : T} (hk : out.keys = []) (h : Con P f args [] 0 out [] 0) (n : Nat) : Con P f args [] n out [] n :=
  ⟨h.1, Nat.le_refl n, fun β S w vs hv hO => (h.2.2 β S w vs hv ⟨⟨nofun, nofun, nofun, hO.lt⟩, hO.gl⟩).mono fun e w' ⟨v, β', h1, h2, _, _, h5, h6, _⟩ =>
    ⟨v, β, h1, h2, fun _ _ => rfl, bel0 hk, T.keep (fun κ hκ => by rw [hk] at hκ; cases hκ) (Sub.refl _) h5, ⟨nofun, nofun, nofun, h6.lt⟩, fun b hb => by cases hb⟩⟩
/-- The way in. -/
theorem fnI {P : Program} {f : FuncId} {fn : Func} {c : Code} {args : List T} {out : T} {N : Nat} (hf : P.funcs[f]? = some fn) (hN : fn.ntmps = N) (hb : fn.body = some c := by rfl) (hnm : (fn.name == "runtime.NumGoroutine") = false := by kernel_rfl) (hn : Nat.ble args.length N = true := by rfl) (hk : args.flatMap T.keys = [] := by rfl) (hko : out.keys = [] := by rfl)
    (h : ∀ S w0 β0 X, Wk ⟨P, S, w0, 0, β0, X, N⟩ 0 (frame 0 args) [] (c.wp P (bodyPost P fn (Post ⟨P, S, w0, 0, β0, X, N⟩ out [] 0)))) : ∀ n, Con P f args [] n out [] n :=
  Con.up hko (Con.enter hf hb hnm (by rw [hN]; exact Nat.le_of_ble_eq_true hn) (Nat.le_refl 0) (fun t ht => bel0 (List.flatMap_eq_nil_iff.1 hk t ht)) (by rintro ⟨P', S, w0, n0, β0, X, N'⟩ rfl rfl rfl; subst hN; exact h S w0 β0 X))
section
variable {cx : Cx} {n : Nat} {F : FL} {H : HL} {fn : Func} {out : T} {r r2 r3 : ResultVar} {u u2 u3 : U}
/-- The way out. -/
theorem fin1 (hr : fn.results = #[r] := by rfl) (hu : resU cx.P F H r = some u := by rfl) (he : u.t = out := by rfl) (hk : out.keys = [] := by rfl) : Wk cx n F H (bodyPost cx.P fn (Post cx out [] 0) .ret) := by
  subst he
  exact W.fin (us := [u]) (by rw [hr]; simp [hu]) (bel0 hk) fun _ h => by cases h
theorem fin2 (hr : fn.results = #[r, r2] := by rfl) (hu : resU cx.P F H r = some u := by rfl) (hu2 : resU cx.P F H r2 = some u2 := by rfl) (he : T.tup [u, u2] = out := by rfl) (hk : out.keys = [] := by rfl) : Wk cx n F H (bodyPost cx.P fn (Post cx out [] 0) .ret) := by
  subst he
  exact W.fin (us := [u, u2]) (by rw [hr]; simp [hu, hu2]) (bel0 hk) fun _ h => by cases h
theorem fin3 (hr : fn.results = #[r, r2, r3] := by rfl) (hu : resU cx.P F H r = some u := by rfl) (hu2 : resU cx.P F H r2 = some u2 := by rfl) (hu3 : resU cx.P F H r3 = some u3 := by rfl) (he : T.tup [u, u2, u3] = out := by rfl) (hk : out.keys = [] := by rfl) : Wk cx n F H (bodyPost cx.P fn (Post cx out [] 0) .ret) := by
  subst he
  exact W.fin (us := [u, u2, u3]) (by rw [hr]; simp [hu, hu2, hu3]) (bel0 hk) fun _ h => by cases h
end
end Go.Sv
