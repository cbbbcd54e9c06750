/- Part 36 of what StageOrder and StagePlans ask: for every input each returns true, and its input reads as it did. No condition. -/
import Derived.Test.YtelkpflpgpdkdaaGreatDoorPt16
import Derived.Test.YtelkpflpgpdkdaaGreatDoorPt27
import Derived.Test.YtelkpflpgpdkdaaGreatDoorPt30
import Derived.Test.YtelkpflpgpdkdaaGreatDoorPt32
import Derived.Test.YtelkpflpgpdkdaaGreatDoorPt34
import Derived.Test.YtelkpflpgpdkdaaGreatDoorProg
import Derived.Shelf.SlIter.Nil
import Derived.Shelf.SortM.Plain
import Derived.Shelf.SortM.SortNone
import Derived.Ground.GgzProg
import Derived.Ground.SlgmProg
namespace Go.Proofs.YtelkpflpgpdkdaaGreatDoor
open Go.Sv
theorem ins_grow {α : Type} {ls : List α} {i : Nat} {x z : α} {m : Nat} (hi : i < ls.length) (hm : m = ls.length + 1 - i) : (ls.take i ++ List.replicate m z).take i ++ [x] ++ (ls.take i ++ List.replicate m z).drop (i + 1) = ls.take i ++ [x] ++ List.replicate (ls.length - i) z := by
  have h1 : (ls.take i).length = i := by rw [List.length_take]; omega
  have h2 : (ls.take i).drop (i + 1) = [] := List.drop_eq_nil_of_le (by omega)
  rw [List.take_append_of_le_length (by omega), List.take_take, Nat.min_self, List.drop_append, h2, h1, List.nil_append, List.drop_replicate, show m - (i + 1 - i) = ls.length - i by omega]
theorem ins_grow2 {α : Type} {ls : List α} {i : Nat} {x z : α} (hi : i < ls.length) : (ls.take i ++ [x] ++ List.replicate (ls.length - i) z).take (i + 1) ++ (ls.drop i).take (ls.length - i) ++ (ls.take i ++ [x] ++ List.replicate (ls.length - i) z).drop (i + 1 + (ls.length - i)) = ls.take i ++ [x] ++ ls.drop i := by
  have h1 : (ls.take i ++ [x]).length = i + 1 := by rw [List.length_append, List.length_take, List.length_singleton]; omega
  have h2 : (ls.take i ++ [x]).take (i + 1) = ls.take i ++ [x] := List.take_of_length_le (by omega)
  have h3 : (ls.drop i).take (ls.length - i) = ls.drop i := List.take_of_length_le (by rw [List.length_drop]; omega)
  have h4 : (ls.take i ++ [x] ++ List.replicate (ls.length - i) z).drop (i + 1 + (ls.length - i)) = [] := List.drop_eq_nil_of_le (by rw [List.length_append, h1, List.length_replicate]; omega)
  rw [List.take_append_of_le_length (by omega), h2, h3, h4, List.append_nil]
theorem ins_room {α : Type} {ls : List α} {i : Nat} {x : α} (hi : i < ls.length) : (ls.take (i + 1) ++ ls.drop i).take i ++ [x] ++ (ls.take (i + 1) ++ ls.drop i).drop (i + 1) = ls.take i ++ [x] ++ ls.drop i := by
  have h1 : (ls.take (i + 1)).length = i + 1 := by rw [List.length_take]; omega
  have h2 : (ls.take (i + 1)).drop (i + 1) = [] := List.drop_eq_nil_of_le (by omega)
  rw [List.take_append_of_le_length (by omega), List.take_take, Nat.min_eq_left (by omega), List.drop_append_of_le_length (by omega), h2, List.nil_append]
set_option maxRecDepth 10000 in
set_option maxHeartbeats 2000000 in
theorem insertC (ls : List (List D)) (x0 x1 x2 x3 x4 x5 x6 x7 : D) (i : Nat) (hi : i ≤ ls.length) (hn : ls.length ≤ 1000000) : Con Tryz.prog 192 [.one (.key 0), iT i, .one (.key 1)] [(0, .row 161 8 ls), (1, .row 161 8 [[x0, x1, x2, x3, x4, x5, x6, x7]])] 2 (.one (.key 2)) [(2, .row 161 8 (ls.take i ++ [[x0, x1, x2, x3, x4, x5, x6, x7]] ++ ls.drop i))] 3 := by
  refine fnH Tryz.func192 Tryz.ntmps192 (h := fun S w0 β0 X => ?_)
  have s7 : Stop 7 := ⟨⟩
  have s8 : Stop 8 := ⟨⟩
  refine GO ?_
  refine Ch.r (OpT.fromN hi) ⟨rfl, rfl, trivial⟩ rfl ?_
  refine GO ?_
  by_cases hin : i = ls.length
  · subst hin
    refine W.cond rfl (fun h2 => ?_) (fun h2 => ?_)
    rotate_left
    · exact absurd h2 (by simp)
    refine W.frz 1 (h := ?_)
    clear s7
    refine GO ?_
    rw [List.take_length, List.drop_length, List.append_nil]
    exact finH
  have hi : i < ls.length := by omega
  refine W.cond rfl (fun h2 => ?_) (fun h2 => ?_)
  · exact absurd h2 (by simp; omega)
  refine W.cap (ls := ls) 0 (by omega) (h := fun c hc hc2 => ?_)
  clear s7 s8
  have s9 : Stop 9 := ⟨⟩
  have s10 : Stop 10 := ⟨⟩
  have s13 : Stop 13 := ⟨⟩
  rw [show (([[x0, x1, x2, x3, x4, x5, x6, x7]] : List (List D)).length : Int) = 1 from rfl]
  refine GO ?_
  refine Ch.r (OpT.capC (ls := ls) (m := 0) (c := c)) ⟨rfl, trivial⟩ rfl ?_
  refine GO ?_
  by_cases hg : c < ls.length + 1
  · refine W.cond rfl (fun h3 => ?_) (fun h3 => ?_)
    rotate_left
    · exact absurd h3 (by simp; omega)
    clear s9
    refine GO ?_
    refine Ch.r (OpT.uptoC (ls := ls) (m := 0) (c := c) (i := i) (by omega)) ⟨rfl, rfl, trivial⟩ rfl ?_
    refine GO ?_
    rw [show (ls.length : Int) + 1 - i = ((ls.length + 1 - i : Nat) : Int) by omega]
    refine Ch.nr (OpT.appendZ (ls := ls) (m := 0) (i := i) (c := c) (zc := ls.length + 1 - i) (by omega) (by omega) (by omega) (by omega)) ⟨rfl, rfl, trivial⟩ (r := ?_)
    refine GO ?_
    refine W.cap (ls := [[x0, x1, x2, x3, x4, x5, x6, x7]]) 1 (by simp) (h := fun c1 hc1 hc3 => ?_)
    refine W.hdr 2 1 (ls := [[x0, x1, x2, x3, x4, x5, x6, x7]]) (h := ?_)
    generalize hzz : Sv.zeroD _ = z
    have hzl : (ls.take i ++ List.replicate (ls.length + 1 - i) z).length = ls.length + 1 := by rw [List.length_append, List.length_take, List.length_replicate]; omega
    refine W.cap (ls := ls.take i ++ List.replicate (ls.length + 1 - i) z) 2 (by omega) (h := fun c2 hc4 hc5 => ?_)
    clear s10
    have s11 : Stop 11 := ⟨⟩
    refine GO ?_
    refine Ch.r (OpT.fromC (ls := ls.take i ++ List.replicate (ls.length + 1 - i) z) (m := 0) (i := i) (by omega)) ⟨rfl, rfl, trivial⟩ rfl ?_
    refine GO ?_
    refine Ch.wr1 (OpT.copyS (ls := ls.take i ++ List.replicate (ls.length + 1 - i) z) (ls2 := [[x0, x1, x2, x3, x4, x5, x6, x7]]) (κ2 := 1) (i := i) (i2 := 0) (cnt := 1) (by decide) (by simp) (by omega) (by rw [hzl]; simp only [Nat.min_def, List.length_singleton]; split <;> omega)) ⟨rfl, rfl, trivial⟩ (r := ?_)
    rw [List.drop_zero, List.take_of_length_le (show ([[x0, x1, x2, x3, x4, x5, x6, x7]] : List (List D)).length ≤ 1 by simp), ins_grow hi rfl]
    refine GO ?_
    have hyl : (ls.take i ++ [[x0, x1, x2, x3, x4, x5, x6, x7]] ++ List.replicate (ls.length - i) z).length = ls.length + 1 := by rw [List.length_append, List.length_append, List.length_take, List.length_replicate, List.length_singleton]; omega
    clear s11
    refine GO ?_
    refine Ch.r (OpT.fromC (ls := ls.take i ++ [[x0, x1, x2, x3, x4, x5, x6, x7]] ++ List.replicate (ls.length - i) z) (m := 0) (i := i + 1) (by omega)) ⟨rfl, rfl, trivial⟩ rfl ?_
    refine GO ?_
    refine Ch.r (OpT.fromC (ls := ls) (m := 0) (i := i) (by omega)) ⟨rfl, rfl, trivial⟩ rfl ?_
    refine Ch.wr1 (OpT.copyS (ls := ls.take i ++ [[x0, x1, x2, x3, x4, x5, x6, x7]] ++ List.replicate (ls.length - i) z) (ls2 := ls) (κ2 := 0) (i := i + 1) (i2 := i) (cnt := ls.length - i) (by decide) (by omega) (by omega) (by rw [hyl]; simp only [Nat.min_def]; split <;> omega)) ⟨rfl, rfl, trivial⟩ (r := ?_)
    rw [ins_grow2 hi]
    refine GO ?_
    refine W.uncap 2 (h := ?_)
    exact finH
  · refine W.cond rfl (fun h3 => ?_) (fun h3 => ?_)
    · exact absurd h3 (by simp; omega)
    clear s13
    have s16 : Stop 16 := ⟨⟩
    refine GO ?_
    refine Ch.wk (OpT.growC (ls := ls) (m := 0) (c := c) (i := ls.length + 1) (m' := 1) rfl (by omega)) ⟨rfl, rfl, trivial⟩ (r := ?_)
    refine GO ?_
    refine Ch.r (OpT.fromC (ls := ls) (m := 1) (c := c) (i := i + 1) (by omega)) ⟨rfl, rfl, trivial⟩ rfl ?_
    refine Ch.r2 (OpT.apart (ls := ls) (l := [x0, x1, x2, x3, x4, x5, x6, x7]) (κ := 2) (κ2 := 1) (tr := 4) (fun args w => by rw [run_callFunc_extern Tryz.func205 (by kernel_rfl) (by kernel_rfl) (by kernel_rfl) (e := Extern.SlicesOverlaps.overlaps #[92, 92] #[4]) (by kernel_rfl)]) (by decide) (by omega)) ⟨rfl, rfl, trivial⟩ (r := ?_)
    refine GO ?_
    refine Ch.r (OpT.fromC (ls := ls) (m := 1) (c := c) (i := i + 1) (by omega)) ⟨rfl, rfl, trivial⟩ rfl ?_
    refine GO ?_
    refine Ch.r (OpT.fromC (ls := ls) (m := 1) (c := c) (i := i) (by omega)) ⟨rfl, rfl, trivial⟩ rfl ?_
    refine Ch.wr0 (OpT.copyU (ls := ls) (c := c) (i := i) (cnt := ls.length - i) hi rfl (by omega) (by omega) rfl) ⟨rfl, rfl, trivial⟩ (r := ?_)
    refine GO ?_
    refine W.cap (ls := [[x0, x1, x2, x3, x4, x5, x6, x7]]) 1 (by simp) (h := fun c1 hc1 hc3 => ?_)
    refine W.hdr 2 1 (ls := [[x0, x1, x2, x3, x4, x5, x6, x7]]) (h := ?_)
    have hyl : (ls.take (i + 1) ++ ls.drop i).length = ls.length + 1 := by rw [List.length_append, List.length_take, List.length_drop]; omega
    clear s16
    refine GO ?_
    refine Ch.r (OpT.fromC (ls := ls.take (i + 1) ++ ls.drop i) (m := 0) (i := i) (by omega)) ⟨rfl, rfl, trivial⟩ rfl ?_
    refine GO ?_
    refine Ch.wr1 (OpT.copyS (ls := ls.take (i + 1) ++ ls.drop i) (ls2 := [[x0, x1, x2, x3, x4, x5, x6, x7]]) (κ2 := 1) (i := i) (i2 := 0) (cnt := 1) (by decide) (by simp) (by omega) (by rw [hyl]; simp only [Nat.min_def, List.length_singleton]; split <;> omega)) ⟨rfl, rfl, trivial⟩ (r := ?_)
    rw [List.drop_zero, List.take_of_length_le (show ([[x0, x1, x2, x3, x4, x5, x6, x7]] : List (List D)).length ≤ 1 by simp), ins_room hi]
    refine GO ?_
    refine W.uncap 2 (h := ?_)
    exact finH
end Go.Proofs.YtelkpflpgpdkdaaGreatDoor
namespace Go.Proofs.YtelkpflpgpdkdaaGreatDoor
open Go.Sv
def revK {α : Type} (ls : List α) (k : Nat) : List α := ls.mapIdx fun q x => if q < k ∨ ls.length ≤ q + k then (ls[ls.length - 1 - q]?).getD x else x
theorem revK_len {α : Type} (ls : List α) (k : Nat) : (revK ls k).length = ls.length := by rw [revK, List.length_mapIdx]
theorem revK_at {α : Type} {ls : List α} {k q : Nat} {x : α} (hx : ls[q]? = some x) (h1 : k ≤ q) (h2 : q + k < ls.length) : (revK ls k)[q]? = some x := by
  rw [revK, List.getElem?_mapIdx, hx, Option.map_some, if_neg (by omega)]
theorem revK_step {α : Type} {ls : List α} {k j : Nat} {x y : α} (hj : j + k + 1 = ls.length) (hk : k < j) (hx : ls[k]? = some x) (hy : ls[j]? = some y) : ((revK ls k).set k y).set j x = revK ls (k + 1) := by
  refine List.ext_getElem? fun q => ?_
  rw [List.getElem?_set, List.getElem?_set, List.length_set, revK_len]
  by_cases h1 : j = q
  · subst h1
    rw [if_pos rfl, if_pos (by omega), revK, List.getElem?_mapIdx, hy, Option.map_some, if_pos (by omega), show ls.length - 1 - j = k by omega, hx]; rfl
  rw [if_neg h1]
  by_cases h2 : k = q
  · subst h2
    rw [if_pos rfl, if_pos (by omega), revK, List.getElem?_mapIdx, hx, Option.map_some, if_pos (by omega), show ls.length - 1 - k = j by omega, hy]; rfl
  rw [if_neg h2, revK, revK, List.getElem?_mapIdx, List.getElem?_mapIdx]
  cases hq : ls[q]? with
  | none => rfl
  | some z =>
    have := (List.getElem?_eq_some_iff.1 hq).1
    rw [Option.map_some, Option.map_some]
    congr 1
    by_cases h3 : q < k ∨ ls.length ≤ q + k
    · rw [if_pos h3, if_pos (by omega)]
    · rw [if_neg h3, if_neg (by omega)]
theorem revK_end {α : Type} {ls : List α} {k : Nat} (hk : ls.length ≤ 2 * k + 1) : revK ls k = ls.reverse := by
  refine List.ext_getElem? fun q => ?_
  rw [revK, List.getElem?_mapIdx]
  by_cases hq : q < ls.length
  · rw [List.getElem?_eq_getElem hq, Option.map_some, List.getElem?_reverse hq]
    by_cases h3 : q < k ∨ ls.length ≤ q + k
    · rw [if_pos h3, List.getElem?_eq_getElem (show ls.length - 1 - q < ls.length by omega)]; rfl
    · rw [if_neg h3, show ls.length - 1 - q = q by omega, List.getElem?_eq_getElem hq]
  · rw [List.getElem?_eq_none (show ls.length ≤ q by omega), List.getElem?_eq_none (show ls.reverse.length ≤ q by rw [List.length_reverse]; omega)]; rfl
theorem revK_zero {α : Type} (ls : List α) : revK ls 0 = ls := by
  refine List.ext_getElem? fun q => ?_
  rw [revK, List.getElem?_mapIdx]
  cases hq : ls[q]? with
  | none => rfl
  | some z =>
    have := (List.getElem?_eq_some_iff.1 hq).1
    rw [Option.map_some, if_neg (by omega)]
end Go.Proofs.YtelkpflpgpdkdaaGreatDoor
namespace Go.Proofs.YtelkpflpgpdkdaaGreatDoor
open Go.Sv
theorem filter_succ {α : Type} {l : List α} {k : Nat} {x : α} {q : α → Bool} (h : l[k]? = some x) : (l.take (k + 1)).filter q = (l.take k).filter q ++ if q x then [x] else [] := by
  rw [List.take_add_one, h, List.filter_append]
  simp only [Option.toList_some, List.filter_cons, List.filter_nil]
theorem idxOf_cases {α : Type} (p : α → Bool) (l : List α) : (idxOf p l = -1 ∧ ∀ y ∈ l, p y = false) ∨ ∃ k x, idxOf p l = (k : Nat) ∧ l[k]? = some x ∧ p x = true ∧ ∀ y ∈ l.take k, p y = false := by
  cases h : l.find? p with
  | none => exact .inl ⟨idxOf_none fun y hy => by simpa using List.find?_eq_none.1 h y hy, fun y hy => by simpa using List.find?_eq_none.1 h y hy⟩
  | some y =>
    obtain ⟨hp, l1, l2, hl, hn⟩ := List.find?_eq_some_iff_append.1 h
    have hn : ∀ z ∈ l.take l1.length, p z = false := fun z hz => by
      rw [hl, List.take_left' rfl] at hz
      simpa using hn z hz
    have hy : l[l1.length]? = some y := by rw [hl]; simp
    exact .inr ⟨l1.length, y, idxOf_at hy hp hn, hy, hp, hn⟩
/-- A row out of which some have been taken, when j have been looked at. -/
structure DelI (l : List Fld) (p : Fld → Bool) (j : Nat) (ls : List (List D)) : Prop where
  len : ls.length = l.length
  kept : ls.take ((l.take j).filter fun x => !p x).length = ((l.take j).filter fun x => !p x).map fldF
  rest : ls.drop j = (l.drop j).map fldF
  lt : ((l.take j).filter fun x => !p x).length < j
  jl : j ≤ l.length
  eight : ∀ x ∈ ls, x.length = 8
theorem DelI.next {l : List Fld} {p : Fld → Bool} {j : Nat} {ls : List (List D)} {x : Fld} (h : DelI l p j ls) (hx : l[j]? = some x) : ((l.take (j + 1)).filter fun x => !p x).length = (if p x then 0 else 1) + ((l.take j).filter fun x => !p x).length ∧ DelI l p (j + 1) (if p x then ls else ls.set ((l.take j).filter fun x => !p x).length (fldF x)) := by
  have hf := filter_succ (q := fun x => !p x) hx
  have hjl := (List.getElem?_eq_some_iff.1 hx).1
  have hlt := h.lt
  have hd : ls.drop (j + 1) = (l.drop (j + 1)).map fldF := by
    have := congrArg (List.drop 1) h.rest
    rwa [List.drop_drop, ← List.map_drop, List.drop_drop] at this
  cases hp : p x with
  | true =>
    rw [hp] at hf
    simp only [Bool.not_true, Bool.false_eq_true, if_false, List.append_nil] at hf
    exact ⟨by rw [hf]; simp, by rw [if_pos rfl]; exact ⟨h.len, by rw [hf]; exact h.kept, hd, by rw [hf]; omega, hjl, h.eight⟩⟩
  | false =>
    rw [hp] at hf
    simp only [Bool.not_false, if_true] at hf
    refine ⟨by rw [hf, List.length_append]; simp; omega, by
      rw [if_neg Bool.false_ne_true]
      refine ⟨by rw [List.length_set]; exact h.len, ?_, by rw [List.drop_set, if_pos (by omega)]; exact hd, by rw [hf, List.length_append, List.length_singleton]; omega, hjl, fun y hy => ?_⟩
      · rw [hf, List.length_append, List.length_singleton, List.map_append, ← h.kept, List.take_add_one, List.getElem?_set_self (by rw [h.len]; omega), List.take_set_of_le (Nat.le_refl _)]
        rfl
      · rcases List.mem_or_eq_of_mem_set hy with h1 | rfl
        · exact h.eight y h1
        · rfl⟩
set_option maxRecDepth 10000 in
set_option maxHeartbeats 1000000 in
theorem delC : DelH := by
  intro l f cs p hl hc
  have h8 : ∀ x ∈ l.map fldF, x.length = 8 := fun x hx => by obtain ⟨y, _, rfl⟩ := List.mem_map.1 hx; rfl
  refine fnH Tryz.func272 Tryz.ntmps272 (h := fun S w0 β0 X => ?_)
  have s11 : Stop 11 := ⟨⟩
  have s12 : Stop 12 := ⟨⟩
  have hidx : ∀ n0, Con Tryz.prog 258 [.one (.key 0), dT (cloD f cs)] [(0, .row 206 8 (l.map fldF))] n0 (iT (idxOf p l)) [(0, .row 206 8 (l.map fldF))] n0 := fun n0 => Con.borrow (indexFldC f cs p hc) (.row (.same rfl .nil)) fun _ _ _ h => h
  rcases idxOf_cases p l with ⟨hi, hno⟩ | ⟨i, x, hi, hx, hpx, hno⟩
  · rw [hi] at hidx
    have hfl : (l.filter fun x => !p x) = l := List.filter_eq_self.2 fun y hy => by rw [hno y hy]; rfl
    rw [hfl]
    refine GO ?_
    refine Ch.ch [0] (hidx 1) (r := ?_)
    refine GO ?_
    refine W.dup 0 (h := ?_)
    exact finH
  · rw [hi] at hidx
    have hil := (List.getElem?_eq_some_iff.1 hx).1
    have h0 : ((l.take i).filter fun x => !p x) = l.take i := List.filter_eq_self.2 fun y hy => by rw [hno y hy]; rfl
    have h1 : ((l.take (i + 1)).filter fun x => !p x) = l.take i := by rw [filter_succ hx, h0, hpx]; simp
    have hI : DelI l p (i + 1) (l.map fldF) := ⟨List.length_map _, by rw [h1, List.length_take, Nat.min_eq_left (by omega), List.map_take], by rw [List.map_drop], by rw [h1, List.length_take]; omega, hil, h8⟩
    have hcnt : i = ((l.take (i + 1)).filter fun x => !p x).length := by rw [h1, List.length_take, Nat.min_eq_left (by omega)]
    refine GO ?_
    refine Ch.ch [0] (hidx 1) (r := ?_)
    refine GO ?_
    refine W.lpG (fun a : Nat × Nat × List (List D) => DelI l p a.1 a.2.2 ∧ a.2.1 = ((l.take a.1).filter fun x => !p x).length) (fun a => [(5, iT a.2.1), (6, iT a.1)]) [(0, _), (1, _), (4, _)] (fun a => [(0, .row 206 8 a.2.2)]) [] (fun a => l.length - a.1) (i + 1, i, l.map fldF) (⟨hI, hcnt⟩) (round := fun a hI => ?_)
    clear hcnt h1 h0
    obtain ⟨j, k, ls⟩ := a
    obtain ⟨hI, hk⟩ := hI
    simp only at hI hk ⊢
    have hlen := hI.len
    by_cases hlt : j < ls.length
    · have hjl : j < l.length := by omega
      have hy := List.getElem?_eq_getElem hjl
      generalize l[j] = y at hy
      obtain ⟨n1, hI2⟩ := hI.next hy
      have hgy : ls[j]? = some (fldF y) := by
        have := congrArg (fun z => z[0]?) hI.rest
        simpa [List.getElem?_drop, hy] using this
      have hlt2 := hI.lt
      rw [← hk] at n1 hI2 hlt2
      refine GO ?_
      refine Ch.r (OpT.indexW hlt) ⟨rfl, rfl, trivial⟩ rfl ?_
      refine Ch.r (OpT.loadW hgy) ⟨rfl, trivial⟩ rfl ?_
      refine GO ?_
      refine Ch.dy (ts := [agD (fldF y)]) (cs := cs) (hc y (List.mem_of_getElem? hy)) (r := ?_)
      refine GO ?_
      cases hp : p y with
      | true =>
        rw [hp] at n1 hI2
        simp only [if_true, Nat.zero_add] at n1 hI2
        refine GO ?_
        exact W.ag ((j + 1, k, ls)) (⟨hI2, n1.symm⟩) (by simp only; omega)
      | false =>
        rw [hp] at n1 hI2
        simp only [Bool.false_eq_true, if_false] at n1 hI2
        have hkl : k < ls.length := by omega
        refine GO ?_
        refine Ch.r (OpT.indexW hkl) ⟨rfl, rfl, trivial⟩ rfl ?_
        refine Ch.storeW (hs := asAg (l := fldF y) rfl) (hj := hkl) (r := ?_)
        refine GO ?_
        exact W.ag ((j + 1, k + 1, ls.set k (fldF y))) (⟨hI2, by simp only; omega⟩) (by simp only; omega)
    · have hj : j = l.length := by have := hI.jl; omega
      subst hj
      have hlt2 := hI.lt
      have hkept := hI.kept
      rw [← hk] at hkept hlt2
      rw [List.take_length] at hkept hk
      refine GO ?_
      refine W.cap (ls := ls) 0 (by omega) (h := fun c hc hc2 => ?_)
      clear s11
      refine GO ?_
      refine Ch.r (OpT.fromC (ls := ls) (m := 0) (i := k) (by omega)) ⟨rfl, rfl, trivial⟩ rfl ?_
      refine Ch.wr0 (OpT.clearS (ls := ls) (i := k) (m := ls.length + 0 - k) (by omega) (by omega)) ⟨rfl, trivial⟩ (r := ?_)
      refine GO ?_
      refine W.uncap 0 (h := ?_)
      clear s12
      refine GO ?_
      refine Ch.wk (OpT.uptoO (ls := ls.take k ++ List.replicate (ls.length + 0 - k) (Sv.zeroD [ZK.str, ZK.bool, ZK.int IntKind.i64, ZK.int IntKind.i64, ZK.int IntKind.i64, ZK.slice, ZK.slice, ZK.slice])) (i := k) (by rw [List.length_append, List.length_take]; omega)) ⟨rfl, rfl, trivial⟩ (r := ?_)
      have e9 : ∀ z : List D, ((ls.take k ++ List.replicate (ls.length + 0 - k) z).take k) = (l.filter fun x => !p x).map fldF := fun z => by rw [List.take_append_of_le_length (by rw [List.length_take]; omega), List.take_take, Nat.min_self]; exact hkept
      rw [e9]
      refine GO ?_
      exact finH
end Go.Proofs.YtelkpflpgpdkdaaGreatDoor
namespace Go.Proofs.YtelkpflpgpdkdaaGreatDoor
open Go.Sv
set_option maxRecDepth 10000 in
set_option maxHeartbeats 1000000 in
theorem putC : PutH := by
  intro l x hl hf hx
  obtain ⟨k, hk, hins, hidx⟩ := resIns_at x (resDrop l x.edge x.step x.at_)
  have hlen : (resDrop l x.edge x.step x.at_).length ≤ 1000000 := Nat.le_trans (List.length_filter_le _ _) hl
  have hput : resPut l x = (resDrop l x.edge x.step x.at_).take k ++ [x] ++ (resDrop l x.edge x.step x.at_).drop k := hins
  rw [hput]
  generalize hL : resDrop l x.edge x.step x.at_ = L at *
  have hdrop := adropC l x.edge x.step x.at_ hl hf
  rw [hL] at hdrop
  have hI : ∀ n0, Con Tryz.prog 142 [.one (.key 0), dT (cloD 191 [adr (resF x)])] [(0, .row 161 8 (L.map resF))] n0 (iT (idxOf (fun y => decide (0 ≤ resLess y x)) L)) [(0, .row 161 8 (L.map resF))] n0 := fun n0 => Con.borrow (indexResC (xs := L) _ _ _ fun y _ => put1C x y) (.row (.same rfl .nil)) fun _ _ _ h => h
  have hin := insertC (L.map resF) (i64 x.edge) (intsD x.step) (strsD x.at_) (i64 x.doc.kind) (i64 x.doc.num) (str x.doc.str) (strsD x.doc.keys) (sl 5 (docsC x.doc.kids)) k (by rw [List.length_map]; exact hk) (by rw [List.length_map]; exact hlen)
  have hrow : (L.map resF).take k ++ [[i64 x.edge, intsD x.step, strsD x.at_, i64 x.doc.kind, i64 x.doc.num, str x.doc.str, strsD x.doc.keys, sl 5 (docsC x.doc.kids)]] ++ (L.map resF).drop k = (L.take k ++ [x] ++ L.drop k).map resF := by rw [List.map_append, List.map_append, List.map_take, List.map_drop]; rfl
  rw [hrow] at hin
  generalize idxOf (fun y => decide (0 ≤ resLess y x)) L = q at *
  refine fnI Tryz.func169 Tryz.ntmps169 (h := fun S w0 β0 X => ?_)
  have s2 : Stop 2 := ⟨⟩
  refine GO ?_
  refine Ch.ch [] hdrop (r := ?_)
  refine GO ?_
  refine W.frzB 0 (resF x) (h := ?_)
  clear s2
  refine GO ?_
  refine Ch.ch [1] (hI 1) (r := ?_)
  refine GO ?_
  refine W.cond rfl (fun h => ?_) (fun h => ?_)
  · rw [if_neg (by simp at h; omega)] at hidx
    have hkl : k = (L.map resF).length := by rw [List.length_map]; omega
    subst hkl
    refine GO ?_
    refine Ch.c (copiedC x hx) (r := ?_)
    refine Ch.nw (OpT.slice1O (hs := asAg (l := resF x) rfl)) ⟨rfl, trivial⟩ ?_
    refine GO ?_
    refine Ch.ch [1, 2] hin (r := ?_)
    refine GO ?_
    refine W.frz 3 (h := ?_)
    exact fin1
  · rw [if_pos (by simp at h; omega)] at hidx
    subst hidx
    refine GO ?_
    refine Ch.c (copiedC x hx) (r := ?_)
    refine Ch.nw (OpT.slice1O (hs := asAg (l := resF x) rfl)) ⟨rfl, trivial⟩ ?_
    refine GO ?_
    refine Ch.ch [1, 2] hin (r := ?_)
    refine GO ?_
    refine W.frz 3 (h := ?_)
    exact fin1
end Go.Proofs.YtelkpflpgpdkdaaGreatDoor
namespace Go.Proofs
open Go.Shelf
def Tryz.keys51_ren : Go.Shelf.Ren := ⟨fun | 7 => 51 | 10 => 82 | n => n, fun | 23 => 100 | 26 => 9 | 3 => 48 | 28 => 103 | 0 => 0 | 27 => 102 | 33 => 89 | 4 => 4 | n => n, fun | n => n⟩
theorem Tryz.keys51 : Go.Proofs.SlLaysZ.n7 Tryz.prog Tryz.keys51_ren := {
  mixed := by kernel_rfl
  f7 := ⟨Tryz.f51.name, by decide, Tryz.func51.trans (congrArg some (by kernel_rfl))⟩
  f10 := ⟨Tryz.f82.name, by decide, Tryz.func82.trans (congrArg some (by kernel_rfl))⟩
  t0 := Tryz.underlying0
  a0 := Tryz.isAgg0
  z0 := Tryz.sizeOf0
  v0 := Tryz.zeroValue0
  t4 := Tryz.underlying4
  a4 := Tryz.isAgg4
  z4 := Tryz.sizeOf4
  v4 := Tryz.zeroValue4
  t23 := Tryz.underlying100
  a23 := Tryz.isAgg100
  z23 := Tryz.sizeOf100
  v23 := Tryz.zeroValue100
  t26 := Tryz.underlying9
  a26 := Tryz.isAgg9
  z26 := Tryz.sizeOf9
  v26 := Tryz.zeroValue9
  t27 := Tryz.underlying102
  a27 := Tryz.isAgg102
  z27 := Tryz.sizeOf102
  v27 := Tryz.zeroValue102
  t28 := Tryz.underlying103
  a28 := Tryz.isAgg103
  z28 := Tryz.sizeOf103
  v28 := Tryz.zeroValue103
  t33 := Tryz.underlying89
  a33 := Tryz.isAgg89
  z33 := Tryz.sizeOf89
  v33 := Tryz.zeroValue89 }
def Tryz.sorted50_ren : Go.Shelf.Ren := ⟨fun | 6 => 50 | 8 => 80 | 9 => 81 | 11 => 115 | 13 => 117 | 12 => 116 | 23 => 155 | 24 => 156 | 14 => 146 | 15 => 147 | 16 => 148 | 17 => 149 | 18 => 150 | 19 => 151 | 20 => 152 | 21 => 153 | 22 => 154 | 25 => 183 | 26 => 184 | 27 => 185 | 28 => 186 | 29 => 187 | 30 => 188 | 31 => 201 | n => n, fun | 26 => 9 | 28 => 103 | 24 => 45 | 0 => 0 | 3 => 3 | 37 => 111 | 48 => 144 | 50 => 147 | 4 => 4 | 40 => 221 | 39 => 220 | 45 => 132 | 5 => 5 | 9 => 9 | 51 => 250 | 55 => 254 | 57 => 272 | 58 => 273 | 33 => 89 | n => n, fun | n => n⟩
theorem Tryz.sorted50 : Go.Proofs.SlLaysZ.n6 Tryz.prog Tryz.sorted50_ren := {
  mixed := by kernel_rfl
  f6 := ⟨Tryz.f50.name, by decide, Tryz.func50.trans (congrArg some (by kernel_rfl))⟩
  f8 := ⟨Tryz.f80.name, by decide, Tryz.func80.trans (congrArg some (by kernel_rfl))⟩
  f11 := ⟨Tryz.f115.name, by decide, Tryz.func115.trans (congrArg some (by kernel_rfl))⟩
  t0 := Tryz.underlying0
  a0 := Tryz.isAgg0
  z0 := Tryz.sizeOf0
  v0 := Tryz.zeroValue0
  t24 := Tryz.underlying45
  a24 := Tryz.isAgg45
  z24 := Tryz.sizeOf45
  v24 := Tryz.zeroValue45
  t26 := Tryz.underlying9
  a26 := Tryz.isAgg9
  z26 := Tryz.sizeOf9
  v26 := Tryz.zeroValue9
  t28 := Tryz.underlying103
  a28 := Tryz.isAgg103
  z28 := Tryz.sizeOf103
  v28 := Tryz.zeroValue103
  i26 := by kernel_rfl }
def Tryz.sort81_ren : Go.Shelf.Ren := ⟨fun | 6 => 81 | 8 => 117 | 9 => 116 | 19 => 155 | 20 => 156 | 21 => 146 | 22 => 147 | 23 => 148 | 24 => 149 | 25 => 150 | 26 => 151 | 27 => 152 | 28 => 153 | 29 => 154 | 36 => 183 | 31 => 184 | 32 => 185 | 37 => 186 | 38 => 187 | 39 => 188 | 41 => 201 | n => n, fun | 27 => 45 | 29 => 9 | 3 => 3 | 32 => 111 | 26 => 45 | 0 => 0 | 44 => 144 | 46 => 147 | 4 => 4 | 36 => 221 | 35 => 220 | 41 => 132 | 5 => 5 | 9 => 9 | 53 => 250 | 57 => 254 | 63 => 272 | 64 => 273 | n => n, fun | n => n⟩
theorem Tryz.sort81 : Go.Proofs.SlLaysM.n6 Tryz.prog Tryz.sort81_ren := {
  mixed := by kernel_rfl
  f6 := ⟨Tryz.f81.name, by decide, Tryz.func81.trans (congrArg some (by kernel_rfl))⟩
  f8 := Tryz.func117.trans (congrArg some (by kernel_rfl))
  f9 := ⟨Tryz.f116.name, by decide, Tryz.func116.trans (congrArg some (by kernel_rfl))⟩
  f19 := Tryz.func155.trans (congrArg some (by kernel_rfl))
  f20 := Tryz.func156.trans (congrArg some (by kernel_rfl))
  f21 := ⟨Tryz.f146.name, by decide, Tryz.func146.trans (congrArg some (by kernel_rfl))⟩
  f22 := ⟨Tryz.f147.name, by decide, Tryz.func147.trans (congrArg some (by kernel_rfl))⟩
  f23 := ⟨Tryz.f148.name, by decide, Tryz.func148.trans (congrArg some (by kernel_rfl))⟩
  f24 := ⟨Tryz.f149.name, by decide, Tryz.func149.trans (congrArg some (by kernel_rfl))⟩
  f25 := ⟨Tryz.f150.name, by decide, Tryz.func150.trans (congrArg some (by kernel_rfl))⟩
  f26 := ⟨Tryz.f151.name, by decide, Tryz.func151.trans (congrArg some (by kernel_rfl))⟩
  f27 := ⟨Tryz.f152.name, by decide, Tryz.func152.trans (congrArg some (by kernel_rfl))⟩
  f28 := ⟨Tryz.f153.name, by decide, Tryz.func153.trans (congrArg some (by kernel_rfl))⟩
  f29 := ⟨Tryz.f154.name, by decide, Tryz.func154.trans (congrArg some (by kernel_rfl))⟩
  f31 := Tryz.func184.trans (congrArg some (by kernel_rfl))
  f32 := Tryz.func185.trans (congrArg some (by kernel_rfl))
  f36 := ⟨Tryz.f183.name, by decide, Tryz.func183.trans (congrArg some (by kernel_rfl))⟩
  f37 := ⟨Tryz.f186.name, by decide, Tryz.func186.trans (congrArg some (by kernel_rfl))⟩
  f38 := ⟨Tryz.f187.name, by decide, Tryz.func187.trans (congrArg some (by kernel_rfl))⟩
  f39 := ⟨Tryz.f188.name, by decide, Tryz.func188.trans (congrArg some (by kernel_rfl))⟩
  f41 := ⟨Tryz.f201.name, by decide, Tryz.func201.trans (congrArg some (by kernel_rfl))⟩
  t0 := Tryz.underlying0
  a0 := Tryz.isAgg0
  z0 := Tryz.sizeOf0
  v0 := Tryz.zeroValue0
  t3 := Tryz.underlying3
  a3 := Tryz.isAgg3
  z3 := Tryz.sizeOf3
  v3 := Tryz.zeroValue3
  t4 := Tryz.underlying4
  a4 := Tryz.isAgg4
  z4 := Tryz.sizeOf4
  v4 := Tryz.zeroValue4
  t5 := Tryz.underlying5
  a5 := Tryz.isAgg5
  z5 := Tryz.sizeOf5
  v5 := Tryz.zeroValue5
  t9 := Tryz.underlying9
  a9 := Tryz.isAgg9
  z9 := Tryz.sizeOf9
  v9 := Tryz.zeroValue9
  t26 := Tryz.underlying45
  a26 := Tryz.isAgg45
  z26 := Tryz.sizeOf45
  v26 := Tryz.zeroValue45
  t27 := Tryz.underlying45
  a27 := Tryz.isAgg45
  z27 := Tryz.sizeOf45
  v27 := Tryz.zeroValue45
  t29 := Tryz.underlying9
  a29 := Tryz.isAgg9
  z29 := Tryz.sizeOf9
  v29 := Tryz.zeroValue9
  t32 := Tryz.underlying111
  a32 := Tryz.isAgg111
  z32 := Tryz.sizeOf111
  v32 := Tryz.zeroValue111
  t35 := Tryz.underlying220
  a35 := Tryz.isAgg220
  z35 := Tryz.sizeOf220
  v35 := Tryz.zeroValue220
  t36 := Tryz.underlying221
  a36 := Tryz.isAgg221
  z36 := Tryz.sizeOf221
  v36 := Tryz.zeroValue221
  t41 := Tryz.underlying132
  a41 := Tryz.isAgg132
  z41 := Tryz.sizeOf132
  v41 := Tryz.zeroValue132
  t44 := Tryz.underlying144
  a44 := Tryz.isAgg144
  z44 := Tryz.sizeOf144
  v44 := Tryz.zeroValue144
  t46 := Tryz.underlying147
  a46 := Tryz.isAgg147
  z46 := Tryz.sizeOf147
  v46 := Tryz.zeroValue147
  t53 := Tryz.underlying250
  a53 := Tryz.isAgg250
  z53 := Tryz.sizeOf250
  v53 := Tryz.zeroValue250
  t57 := Tryz.underlying254
  a57 := Tryz.isAgg254
  z57 := Tryz.sizeOf254
  v57 := Tryz.zeroValue254
  t63 := Tryz.underlying272
  a63 := Tryz.isAgg272
  z63 := Tryz.sizeOf272
  v63 := Tryz.zeroValue272
  t64 := Tryz.underlying273
  a64 := Tryz.isAgg273
  z64 := Tryz.sizeOf273
  v64 := Tryz.zeroValue273 }
open Go.RowKit Go.Maps Go.Sort in
theorem Tryz.sorts50 (m : Nat) : AnyZ.SortsIn Tryz.prog Tryz.sorted50_ren Fence.wide m :=
  ⟨fun blk off cap ss W hH hblk hsz => callsIn_wide.2 (AnyM.slices_Sort_string Tryz.sort81 blk off cap ss W hH hblk hsz),
   fun p cap W => callsIn_wide.2 (AnyM.slices_Sort_string_none Tryz.sort81 p cap W)⟩
open Go.RowKit Go.Maps Go.Sort in
theorem Tryz.maps_Keys_51 (mb : Option Nat) (W : World) : CallsIn Fence.wide 5 Tryz.prog 51 #[.map mb] W fun e w' => e = .returned (.func (.func 82) #[] #[.pointer (some ⟨W.heap.size, 0, none⟩)]) ∧ w' = W.alloc (.cells #[.map mb] 100) :=
  AnyZ.keys_in Tryz.keys51 Fence.wide 5 trivial rfl mb W
open Go.RowKit Go.Maps Go.Sort in
theorem Tryz.slices_Sorted_keys_50_51 {H : Type} (b nn : Nat) (D0 : DataW H) (R : Value → Option (DataW H × List MemPlace)) (w : World) (hown : w.ownsMap Tryz.prog 9 R b nn D0) (hmax : Maps.size D0 ≤ maxLen) (hbytes : Maps.size D0 * 16 ≤ 140737488355328) :
    CallsIn Fence.wide 5 Tryz.prog 50 #[.func (.func 82) #[] #[.pointer (some ⟨w.heap.size, 0, none⟩)]] (w.alloc (.cells #[.map (some b)] 100)) fun e w' => ∃ (v : Value) (ss : List (List UInt8)), e = .returned v ∧ ss.Perm (strKeys D0) ∧
      w'.ownsRow (w.alloc (.cells #[.map (some b)] 100)).heap.size 9 1 v ss.length ((ss.mergeSort (fun x y => decide (x ≤ y))).map encStr) ∧ (v = .slice none 0 0 ↔ ss = []) ∧ Below (w.alloc (.cells #[.map (some b)] 100)).heap.size (w.alloc (.cells #[.map (some b)] 100)) w' := by
  have hbl := hown.lt
  have hseq : SeqGives Fence.wide 2 Tryz.prog 82 #[.pointer (some ⟨w.heap.size, 0, none⟩)] encStr (fun ss => ss.Perm (strKeys D0)) (Maps.size D0) (w.alloc (.cells #[.map (some b)] 100)) :=
    AnyZ.keys_gives (ρ := Tryz.keys51_ren) { Tryz.keys51 with } Fence.wide _ trivial rfl (by omega) w.heap.size b nn D0 _ (by simp) (by simp) (by
      obtain ⟨es, clock, hb, Ft, hs, hD⟩ := hown
      exact ⟨es, clock, (Below.heap_alloc _ _ b hbl).trans hb, Ft, hs, hD⟩)
  exact AnyZ.sorted_in Tryz.sorted50 Fence.wide 5 trivial trivial trivial trivial rfl (by omega) (Tryz.sorts50 _) (enters_of Tryz.func81 (by kernel_rfl) rfl) 82 #[.pointer (some ⟨w.heap.size, 0, none⟩)] trivial (enters_of Tryz.func82 (by kernel_rfl) rfl) _ _ hmax hbytes _ hseq
def Tryz.keys251_ren : Go.Shelf.Ren := ⟨fun | 7 => 251 | 10 => 270 | n => n, fun | 23 => 286 | 26 => 9 | 3 => 48 | 28 => 103 | 0 => 0 | 27 => 102 | 33 => 89 | 4 => 4 | n => n, fun | n => n⟩
theorem Tryz.keys251 : Go.Proofs.SlLaysZ.n7 Tryz.prog Tryz.keys251_ren := {
  mixed := by kernel_rfl
  f7 := ⟨Tryz.f251.name, by decide, Tryz.func251.trans (congrArg some (by kernel_rfl))⟩
  f10 := ⟨Tryz.f270.name, by decide, Tryz.func270.trans (congrArg some (by kernel_rfl))⟩
  t0 := Tryz.underlying0
  a0 := Tryz.isAgg0
  z0 := Tryz.sizeOf0
  v0 := Tryz.zeroValue0
  t4 := Tryz.underlying4
  a4 := Tryz.isAgg4
  z4 := Tryz.sizeOf4
  v4 := Tryz.zeroValue4
  t23 := Tryz.underlying286
  a23 := Tryz.isAgg286
  z23 := Tryz.sizeOf286
  v23 := Tryz.zeroValue286
  t26 := Tryz.underlying9
  a26 := Tryz.isAgg9
  z26 := Tryz.sizeOf9
  v26 := Tryz.zeroValue9
  t27 := Tryz.underlying102
  a27 := Tryz.isAgg102
  z27 := Tryz.sizeOf102
  v27 := Tryz.zeroValue102
  t28 := Tryz.underlying103
  a28 := Tryz.isAgg103
  z28 := Tryz.sizeOf103
  v28 := Tryz.zeroValue103
  t33 := Tryz.underlying89
  a33 := Tryz.isAgg89
  z33 := Tryz.sizeOf89
  v33 := Tryz.zeroValue89 }
open Go.RowKit Go.Maps Go.Sort in
theorem Tryz.maps_Keys_251 (mb : Option Nat) (W : World) : CallsIn Fence.wide 5 Tryz.prog 251 #[.map mb] W fun e w' => e = .returned (.func (.func 270) #[] #[.pointer (some ⟨W.heap.size, 0, none⟩)]) ∧ w' = W.alloc (.cells #[.map mb] 286) :=
  AnyZ.keys_in Tryz.keys251 Fence.wide 5 trivial rfl mb W
open Go.RowKit Go.Maps Go.Sort in
theorem Tryz.slices_Sorted_keys_50_251 {H : Type} (b nn : Nat) (D0 : DataW H) (R : Value → Option (DataW H × List MemPlace)) (w : World) (hown : w.ownsMap Tryz.prog 9 R b nn D0) (hmax : Maps.size D0 ≤ maxLen) (hbytes : Maps.size D0 * 16 ≤ 140737488355328) :
    CallsIn Fence.wide 5 Tryz.prog 50 #[.func (.func 270) #[] #[.pointer (some ⟨w.heap.size, 0, none⟩)]] (w.alloc (.cells #[.map (some b)] 286)) fun e w' => ∃ (v : Value) (ss : List (List UInt8)), e = .returned v ∧ ss.Perm (strKeys D0) ∧
      w'.ownsRow (w.alloc (.cells #[.map (some b)] 286)).heap.size 9 1 v ss.length ((ss.mergeSort (fun x y => decide (x ≤ y))).map encStr) ∧ (v = .slice none 0 0 ↔ ss = []) ∧ Below (w.alloc (.cells #[.map (some b)] 286)).heap.size (w.alloc (.cells #[.map (some b)] 286)) w' := by
  have hbl := hown.lt
  have hseq : SeqGives Fence.wide 2 Tryz.prog 270 #[.pointer (some ⟨w.heap.size, 0, none⟩)] encStr (fun ss => ss.Perm (strKeys D0)) (Maps.size D0) (w.alloc (.cells #[.map (some b)] 286)) :=
    AnyZ.keys_gives (ρ := Tryz.keys251_ren) { Tryz.keys251 with } Fence.wide _ trivial rfl (by omega) w.heap.size b nn D0 _ (by simp) (by simp) (by
      obtain ⟨es, clock, hb, Ft, hs, hD⟩ := hown
      exact ⟨es, clock, (Below.heap_alloc _ _ b hbl).trans hb, Ft, hs, hD⟩)
  exact AnyZ.sorted_in Tryz.sorted50 Fence.wide 5 trivial trivial trivial trivial rfl (by omega) (Tryz.sorts50 _) (enters_of Tryz.func81 (by kernel_rfl) rfl) 270 #[.pointer (some ⟨w.heap.size, 0, none⟩)] trivial (enters_of Tryz.func270 (by kernel_rfl) rfl) _ _ hmax hbytes _ hseq
end Go.Proofs
