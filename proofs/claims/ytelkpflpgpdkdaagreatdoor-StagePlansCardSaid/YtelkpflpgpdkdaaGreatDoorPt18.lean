/- Part 18 of what StageOrder and StagePlans ask: for every input each returns true, and its input reads as it did. No condition. -/
import Derived.Test.YtelkpflpgpdkdaaGreatDoorPt17
namespace Go.Sv
open Go Go.RowKit

theorem fold_setAll (off : Nat) : ∀ (vs : List Value) (k : Nat) (cs : Array Value), (vs.zipIdx k).foldl (fun cs (x : Value × Nat) => cs.setIfInBounds (off + x.2) x.1) cs = setAll cs (off + k) vs
  | [], _, _ => rfl
  | v :: vs, k, cs => by
    simp only [List.zipIdx_cons, List.foldl_cons, setAll]
    exact fold_setAll off vs (k + 1) _
section
variable {P : Program} [Lays P]
def szOf (P : Program) [Lays P] (ft : Nat) : Nat := match lay P ft with
  | some l => l.size
  | none => 0
def fldsB (P : Program) [Lays P] (fl : List (Nat × Nat)) : Bool := fl.all fun e => (lay P e.2).isSome
theorem places_run (w : World) : ∀ {fs : List Field} {fl : List (Nat × Nat)}, fs.map (fun f => (f.offset, f.type)) = fl → fldsB P fl = true → (fs.mapM fun f => do pure (f.offset, ← sizeOf f.type) : Sem (List (Nat × Nat))).run P w = .ok (fl.map fun e => (e.1, szOf P e.2)) w
  | [], fl, h, _ => by subst h; rfl
  | f :: fs, fl, h, hB => by
    subst h
    simp only [List.map_cons, fldsB, List.all_cons, Bool.and_eq_true] at hB
    obtain ⟨lf, hl⟩ := Option.isSome_iff_exists.1 hB.1
    have ih := places_run w (fs := fs) rfl hB.2
    have hs : szOf P f.type = lf.size := by unfold szOf; rw [hl]
    simp only [List.mapM_cons, Sem.run_bind, lay_size hl w, Result.andThen_ok, Sem.run_pure, ih, List.map_cons, hs]
/-- The parts' cells laid over the zero's. -/
def buildC (P : Program) [Lays P] (fl : List (Nat × Nat)) : List C → List (Nat × T) → Option (List C)
  | cs, [] => some cs
  | cs, p :: l => match fl[p.1]? with
    | some e => match cellsT p.2 with
      | some xs => bif Nat.beq xs.length (szOf P e.2) && Nat.ble (e.1 + xs.length) cs.length then buildC P fl (splice cs e.1 xs) l else none
      | none => none
    | none => none
theorem build_fill {β : Env} {V : World} {fl : List (Nat × Nat)} : ∀ {ps : List (Nat × T)} {vs : List (Nat × Value)} {cs out : List C} {us : List Value}, buildC P fl cs ps = some out → CellsC β V cs us → All2 (fun p v => p.1 = v.1 ∧ p.2.is β V v.2) ps vs →
    ∃ us', Instr.fill ((fl.map fun e => (e.1, szOf P e.2)).toArray[·]?) us.toArray vs = some us'.toArray ∧ CellsC β V out us'
  | [], [], cs, out, us, h, hc, _ => by cases h; exact ⟨us, rfl, hc⟩
  | p :: ps, (i, v) :: vs, cs, out, us, h, hc, hv => by
    obtain ⟨⟨rfl, hv1⟩, hv2⟩ := hv
    simp only [buildC] at h
    cases hf : fl[p.1]? with
    | none => rw [hf] at h; cases h
    | some e =>
      rw [hf] at h
      cases hx : cellsT p.2 with
      | none => simp only [hx] at h; cases h
      | some xs =>
        simp only [hx] at h
        cases hb : Nat.beq xs.length (szOf P e.2) && Nat.ble (e.1 + xs.length) cs.length with
        | false => rw [hb] at h; cases h
        | true =>
          rw [hb] at h
          simp only [Bool.and_eq_true] at hb
          have h1 := Nat.eq_of_beq_eq_true hb.1
          have h2 := Nat.le_of_ble_eq_true hb.2
          have hcv := cells_of hx hv1
          have hlen : v.cells.size = xs.length := by have := hcv.len; simp at this; omega
          obtain ⟨us', h3, h4⟩ := build_fill (ps := ps) (vs := vs) h (splice_all2 hc hcv) hv2
          refine ⟨us', ?_, h4⟩
          have hul := hc.len
          have hp : (fl.map fun e => (e.1, szOf P e.2)).toArray[p.1]? = some (e.1, szOf P e.2) := by simp [hf]
          have hset : v.cells.zipIdx.foldl (fun cs (x : Value × Nat) => cs.setIfInBounds (e.1 + x.2) x.1) us.toArray = (splice us e.1 v.cells.toList).toArray := by
            rw [← set_splice, ← Array.foldl_toList, Array.toList_zipIdx]
            exact fold_setAll e.1 _ 0 _
          unfold Instr.fill
          rw [hp]
          simp only
          rw [if_neg (by simp only [List.size_toArray, ne_eq, Bool.or_eq_true, decide_eq_true_eq, not_or, Decidable.not_not, Nat.not_lt]; omega)]
          exact hset ▸ h3
  | [], _ :: _, _, _, _, _, _, h => h.elim
  | _ :: _, [], _, _, _, _, _, h => h.elim
variable {ops : Array Oper} {n : Nat} {d : Option Tmp} {ty t : TypeId} {pos : String} {af : Array Edge} {x y : Operand}
theorem build_keys {fl : List (Nat × Nat)} {n : Nat} : ∀ {ps : List (Nat × T)} {cs out : List C}, buildC P fl cs ps = some out → Bel n (cs.flatMap C.keys) → (∀ p ∈ ps, Bel n p.2.keys) → Bel n (out.flatMap C.keys)
  | [], cs, out, h, hc, _ => by cases h; exact hc
  | p :: ps, cs, out, h, hc, hp => by
    simp only [buildC] at h
    cases hf : fl[p.1]? with
    | none => rw [hf] at h; cases h
    | some e =>
      rw [hf] at h
      cases hx : cellsT p.2 with
      | none => simp only [hx] at h; cases h
      | some xs =>
        simp only [hx] at h
        cases hb : Nat.beq xs.length (szOf P e.2) && Nat.ble (e.1 + xs.length) cs.length with
        | false => rw [hb] at h; cases h
        | true =>
          rw [hb] at h
          refine build_keys h (fun κ hκ => ?_) fun q hq => hp q (List.mem_cons_of_mem _ hq)
          obtain ⟨c, hc1, hc2⟩ := List.mem_flatMap.1 hκ
          rcases splice_mem hc1 with hm | hm
          · exact hc κ (List.mem_flatMap.2 ⟨c, hm, hc2⟩)
          · exact hp p (List.mem_cons_self ..) κ (cells_keys hx ▸ List.mem_flatMap.2 ⟨c, hm, hc2⟩)
theorem OpT.build {k : Nat} {fl : List (Nat × Nat)} {zs : List ZK} {xs : List (Nat × Operand)} {ss : List T} {out : List C} (hl : xs.length = ss.length) (hb : buildC P fl (zeroC zs) ((xs.map (·.1)).zip ss) = some out) (ht : lay P t = some ⟨.struct, k, fl, zs⟩) (hB : fldsB P fl = true) :
    OpT P ops (mkO d (.build t xs.toArray) ty pos af) n ((xs.map (·.2)).zip ss) [] [] (.ag out) [] n := .runs rfl (fun h => build_keys hb (by rw [zeroC_keys]; exact bel0 rfl) fun p hp => by
    obtain ⟨i, hi, rfl⟩ := List.mem_iff_getElem.1 hp
    simp only [List.length_zip, List.length_map] at hi
    have := h (xs[i].2, ss[i]) (List.mem_iff_getElem.2 ⟨i, by simp; omega, by simp⟩)
    simpa using this) fun β V w A _ h => by
  obtain ⟨z, h1, h2⟩ := lay_zero ht w
  obtain ⟨fs, h3, h4⟩ := lay_struct ht
  have hps : ∀ (xs : List (Nat × Operand)) (ss : List T), xs.length = ss.length → (∀ e ∈ (xs.map (·.2)).zip ss, e.2.is β V (A.eval e.1)) → All2 (fun (p : Nat × T) (v : Nat × Value) => p.1 = v.1 ∧ p.2.is β V v.2) ((xs.map (·.1)).zip ss) (xs.map fun p => (p.1, A.eval p.2)) := by
    intro xs
    induction xs with
    | nil => intro ss hl _; cases ss with
      | nil => trivial
      | cons => simp at hl
    | cons x xs ih => intro ss hl h; cases ss with
      | nil => simp at hl
      | cons s ss => exact ⟨⟨rfl, h (x.2, s) (by simp)⟩, ih ss (by simpa using hl) fun e he => h e (by simp only [List.map_cons, List.zip_cons_cons, List.mem_cons]; exact .inr he)⟩
  obtain ⟨us', h5, h6⟩ := build_fill (P := P) hb (zero_cells zs) (hps xs ss hl h)
  refine ⟨.agg us'.toArray, ?_, us', rfl, h6⟩
  have hz : z.cells = (zs.map ZK.val).toArray := by rw [← h2]
  have hm : (fs.mapM fun f => do pure (f.offset, ← sizeOf f.type) : Sem (Array (Nat × Nat))).run P w = .ok (fl.map fun e => (e.1, szOf P e.2)).toArray w := by
    rw [Array.mapM_eq_mapM_toList, Sem.run_map, places_run w h4 hB]; rfl
  have hpm : (xs.toArray.map fun (p : Nat × Operand) => (p.1, A.eval p.2)).toList = xs.map fun p => (p.1, A.eval p.2) := by simp
  simp only [execOp, Instr.build, Sem.run_bind, h1, Result.andThen_ok, run_underlying h3 w, hm, hz, hpm, h5, Sem.run_pure]
/-- A slice of one element. -/
inductive AsD : T → List D → Prop
  | ag (l : List D) : AsD (agD l) l
  | one (x : D) : AsD (dT x) [x]
theorem AsD.cells {s : T} {l : List D} (h : AsD s l) {β : Env} {V : World} {v : Value} (hv : s.is β V v) : Cells V l v.cells.toList := by
  cases h with
  | ag l => obtain ⟨us, rfl, h2⟩ := hv; exact all2_map.1 h2
  | one x =>
    have := x.one hv
    cases v <;> first | exact ⟨hv, trivial⟩ | cases this
theorem OpT.slice1 {e k we : Nat} {fl : List (Nat × Nat)} {z : List ZK} {s : T} {l : List D} {le : Lay} (hs : AsD s l) (ht : lay P t = some ⟨.slice e, we, fl, z⟩) (he : lay P e = some le) (hk : le.size = k) (hlk : l.length = k) (hz : le.zero.length = k) (hb : (Nat.blt 0 k && Nat.ble k 1000) = true) : OpT P ops (mkO d (.buildSlice t 1 #[(0, x)]) ty pos af) n [(x, s)] [] [] (dT (sl k [l])) [] n :=
  ⟨Nat.le_refl n, fun β S w A K htin hbel hO hK => by
    rw [if_pos (by simp [Region.wanted])]
    have hc := hs.cells (in1 htin)
    have hsz : (A.eval x).cells.size = k := by have := hc.len; simp at this; omega
    obtain ⟨zv, h1, h2⟩ := lay_zero he w
    simp only [Bool.and_eq_true, Nat.blt_eq, Nat.ble_eq] at hb
    have hzs : zv.cells.size = k := by have := congrArg List.length h2; simp at this; omega
    unfold Oper.wp
    have hfill : Instr.fill (fun i => some (i * k, k)) ((Array.range (1 * k)).map (zv.cells[· % zv.cells.size]!)) [(0, A.eval x)] = some (A.eval x).cells := by
      unfold Instr.fill
      simp only [Nat.zero_mul, Nat.zero_add, Nat.one_mul, Array.size_map, Array.size_range]
      rw [if_neg (by simp; omega)]
      unfold Instr.fill
      have := fold_setAll 0 (A.eval x).cells.toList 0 ((Array.range k).map (zv.cells[· % zv.cells.size]!))
      simp only [Nat.zero_add] at this
      rw [← Array.foldl_toList, Array.toList_zipIdx, this]
      congr 1
      refine Array.ext_getElem? fun i => ?_
      rw [setAll_get]
      simp only [Nat.zero_le, Nat.zero_add, Array.length_toList, Array.size_map, Array.size_range, true_and, Nat.sub_zero, Array.getElem?_toList]
      by_cases hi : i < k
      · rw [if_pos (by omega)]
      · rw [if_neg (by omega), Array.getElem?_eq_none (by simp; omega), Array.getElem?_eq_none (by omega)]
    have hrun : (execOp A.eval (mkO d (.buildSlice t 1 #[(0, x)]) ty pos af)).run P w = .ok (.value (.slice (some ⟨w.heap.size, 0, none⟩) 1 1)) (w.alloc (.cells (A.eval x).cells e)) := by
      have hne : ¬ (1 * k > 2 ^ 24) := by omega
      have hne0 : ¬ (1 * k = 0) := by omega
      simp only [execOp, Instr.buildSlice, Sem.run_bind, run_underlying (lay_slice ht) w, Result.andThen_ok, lay_size he w, hk, hne, if_false, hne0, h1, Sem.run_pure, List.map_toArray, List.map_cons, List.map_nil, hfill, newRow, run_newObj]
      rfl
    rw [hrun]
    have hkept : Kept [] w (w.alloc (.cells (A.eval x).cells e)) := ⟨rfl, rfl, rfl, by simp, fun k hk _ => Below.heap_alloc _ _ _ hk⟩
    have hV : Sub (hide S w) (hide S (w.alloc (.cells (A.eval x).cells e))) := hide_sub hkept fun k _ hn => ⟨by simp, hn⟩
    have hnS : w.heap.size ∉ S := fun h => Nat.lt_irrefl _ (hO.lt _ h)
    refine hK _ β _ hkept (fun _ _ => rfl) (bel0 rfl) ?_ ⟨nofun, nofun, nofun, fun b hb => by have := hO.lt b hb; simp; omega⟩ nofun
    refine ⟨_, _, rfl, Nat.le_refl _, by unfold maxLen; decide, fun j l' hj => ?_⟩
    have hj0 : j = 0 ∧ l' = l := by
      cases j with
      | zero => simp at hj; exact ⟨rfl, hj.symm⟩
      | succ j => simp at hj
    obtain ⟨rfl, rfl⟩ := hj0
    refine ⟨hlk, _, _, (A.eval x).cells.toList, rfl, fun i u hi => ?_, hc.mono hV⟩
    have hh : (hide S (w.alloc (.cells (A.eval x).cells e))).heap[w.heap.size]? = some (.cells (A.eval x).cells e) := by
      rw [hide_at, heap_alloc_new]
      simp [hnS]
    show (hide S (w.alloc (.cells (A.eval x).cells e))).cell? _ = _
    rw [cell_of_row _ _ _ _ _ _ hh]
    simpa using hi⟩
end
end Go.Sv
