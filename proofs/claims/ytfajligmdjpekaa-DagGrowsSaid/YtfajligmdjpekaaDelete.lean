/- slices.DeleteFunc on a row of the call's own: those that are not struck, in their order. -/
import Derived.Test.YtfajligmdjpekaaSorted
namespace Go.Proofs.Ytfajligmdjpekaa
open Go.RowKit Go.Lib Go.Maps Go.Shelf Go.Sort

/-- A place as it stands in a cell. -/
def encP (j : Nat) : Value := .int .i64 ((j % 64 : Nat) : Int)
theorem encP_lt {j : Nat} (h : j < 64) : encP j = .int .i64 j := by unfold encP; rw [Nat.mod_eq_of_lt h]
def places (n : Nat) (S : Nat → Bool) : List Nat := (List.range n).filter S
theorem places_lt {n : Nat} {S : Nat → Bool} (hn : n ≤ 64) {j : Nat} (h : j ∈ places n S) : j < 64 := by
  simp [places] at h; omega
theorem places_row {n : Nat} (S : Nat → Bool) (hn : n ≤ 64) : (rowOf n S).map (Value.int .i64) = (places n S).map encP := by
  unfold rowOf
  rw [List.map_map]
  refine List.map_congr_left fun j hj => ?_
  rw [encP_lt (places_lt hn hj)]; rfl
theorem places_length (n : Nat) (S : Nat → Bool) : (places n S).length = (rowOf n S).length := by simp [places, rowOf]
theorem places_filter (n : Nat) (S T : Nat → Bool) (hn : n ≤ 64) : (places n S).filter (fun x => !T (x % 64)) = places n (fun j => S j && !T j) := by
  unfold places
  rw [List.filter_filter]
  refine List.filter_congr fun j hj => ?_
  have : j < 64 := by simp at hj; omega
  rw [Nat.mod_eq_of_lt this, Bool.and_comm]

theorem heap_sortedP {α : Type} [Inhabited α] (enc : α → Value) {w : World} {g n : Nat} {os : Array Obj} {cur : Array Value} {e : TypeId} {fr : Nat × Nat} (d : Array α) (hb : w.heap[g]? = some (.cells cur e fr)) :
    (grow (putRow enc (Sort.ahead w n) g 0 d) os).heap[g]? = some (.cells (putCells enc 0 d cur) e fr) := by
  have hg : g < w.heap.size := (Array.getElem?_eq_some_iff.1 hb).1
  rw [heap_grow_old _ _ (by simpa using hg)]
  simp [putRow, mapBlock, Sort.ahead, Array.getElem?_modify, hb, onCells]
theorem grownBy_sortedP {α : Type} [Inhabited α] (enc : α → Value) {w : World} {g n : Nat} {os : Array Obj} (d : Array α) : w.grownBy (grow (putRow enc (Sort.ahead w n) g 0 d) os) (some g) := by
  refine ⟨rfl, rfl, rfl, by simp, fun k hk hne => ?_⟩
  rw [heap_grow_old _ _ (by simpa using hk)]
  have : g ≠ k := fun e => hne (by rw [e])
  simp [putRow, mapBlock, Sort.ahead, Array.getElem?_modify, this]

/-- What a call with such a row does. -/
def DelPost (base : Nat) (w : World) (row : Option Nat) (xs : List Int) (e : Ending) (w' : World) : Prop := ∃ v', e = .returned v' ∧ Own base w' v' xs ∧ w.grownBy w' row

set_option maxHeartbeats 400000 in
theorem delete_none (fv : Value) (base : Nat) (w : World) : Calls Try.prog 36 #[.slice none 0 0, fv] w (DelPost base w none []) := by
  have hIF : Calls Try.prog 49 #[.slice none 0 0, fv] w fun e w' => e = .returned (.int .i64 (-1)) ∧ w' = w := AnyE.slices_IndexFunc_empty (ρ := Try.ldf36_ren) { Try.ldf36 with } none 0 fv w
  have HP : Hid (DelPost base w none [] (.returned (.slice none 0 0)) w) := Lib.hid ⟨_, rfl, own_nil _ _, ⟨rfl, rfl, rfl, Nat.le_refl _, fun _ _ _ => rfl⟩⟩
  go_enter Try.func36, Try.ntmps36
  go_wp2_with fail
  refine hIF.mono ?_
  rintro e w1 ⟨rfl, rfl⟩
  go_wp2_with fail
  go_ret
  exact HP.out

theorem delete_own (g : Nat) (lb : Array Value) (eg : ∀ args w, (callFunc g args).run Try.prog w = .ok (.enter g args) w) (T S : Nat → Bool) (n base : Nat) (hn : n ≤ 64) (v : Value) (w : World) (ho : Own base w v (rowOf n S))
    (hcl : ∀ W, w.grownBy W v.ownBlock → ∀ j, j < 64 → Calls Try.prog g (#[.int .i64 j] ++ lb) W fun e w' => e = .returned (.bool (T j)) ∧ w' = W) :
    Calls Try.prog 36 #[v, .func (.func g) #[] lb] w (DelPost base w v.ownBlock (rowOf n (fun j => S j && !T j))) := by
  rcases ho.2 with ⟨rfl, h0⟩ | ⟨blk, cp, cur, rfl, hbase, hb, h1, h2, h3, hx⟩
  · have hnil : rowOf n S = [] := List.eq_nil_of_length_eq_zero h0
    have : rowOf n (fun j => S j && !T j) = [] := by
      rw [List.eq_nil_iff_forall_not_mem]
      intro x hx
      obtain ⟨j, hj, hS, rfl⟩ := mem_rowOf.1 hx
      have : (j : Int) ∈ rowOf n S := mem_rowOf.2 ⟨j, hj, by simp at hS; exact hS.1, rfl⟩
      rw [hnil] at this
      cases this
    rw [this]
    exact delete_none _ _ _
  · have hmax := rowOf_length n S
    have hlen : (rowOf n S).length = (places n S).length := (places_length n S).symm
    rw [hlen] at h1 hx ⊢
    rw [places_row S hn, Nat.mul_one] at hx
    have hH : Holds encP w blk 0 (places n S).toArray := by
      intro j hj
      have hj' : j < (places n S).length := by simpa using hj
      refine ⟨?_, by simp [World.frozen?, hb]⟩
      have h1' : (cur.toList.take (places n S).length)[j]? = ((places n S).map encP)[j]? := by rw [hx]
      rw [List.getElem?_take_of_lt hj'] at h1'
      simp only [World.cell?, hb, Nat.zero_add]
      simp only [Option.isSome_none, Bool.false_eq_true, if_false]
      rw [← Array.getElem?_toList, h1']
      simp [hj']
    have hp : ∀ W, w.grownBy W (some blk) → ∀ x : Nat, FnGives Try.prog g lb #[encP x] (.bool (T (x % 64))) W := fun W hW x =>
      (hcl W hW (x % 64) (Nat.mod_lt _ (by omega))).mono fun e w' ⟨h1, h2⟩ => ⟨h1, 0, h2⟩
    have hcon := AnyE.slices_DeleteFunc Try.ldf36 encP (fun _ => rfl) (fun x => T (x % 64)) g lb eg 0 Try.zeroValue3 blk 0 cp (places n S).toArray w
      (fun W x hW => hp W ⟨hW.os, hW.tape, hW.output, hW.size, fun k hk _ => hW.block k hk⟩ x) (fun m os dk x _ => hp _ (grownBy_sortedP encP dk) x) hH (by simp; rw [hlen] at hmax; omega) (by simpa using h1)
    have hcon' : Calls Try.prog 36 #[.slice (some ⟨blk, 0, none⟩) (places n S).toArray.size cp, .func (.func g) #[] lb] w _ := hcon
    simp only [List.size_toArray] at hcon'
    refine hcon'.mono ?_
    rintro e w' ⟨rfl, q, rfl⟩
    have hfil := places_filter n S T hn
    rw [hfil]
    have hle : (places n (fun j => S j && !T j)).length ≤ (places n S).length := by rw [← hfil]; exact List.length_filter_le _ _
    have hcs : cur.size = cp := by omega
    refine ⟨_, rfl, ⟨by simp, .inr ⟨blk, cp, putCells encP 0 (places n (fun j => S j && !T j) ++ List.replicate ((places n S).length - (places n (fun j => S j && !T j)).length) 0).toArray cur, ?_, hbase, ?_, ?_, h2, ?_, ?_⟩⟩, ?_⟩
    · rw [places_length]
    · have := heap_sortedP encP (w := w) (n := q) (os := #[]) (places n (fun j => S j && !T j) ++ List.replicate ((places n S).length - (places n (fun j => S j && !T j)).length) 0).toArray hb
      simpa using this
    · rw [← places_length]; omega
    · simp [putCells, h3]
    · rw [Nat.mul_one, ← places_length, places_row _ hn]
      apply List.ext_getElem?
      intro j
      by_cases hj : j < (places n (fun j => S j && !T j)).length
      · rw [List.getElem?_take_of_lt hj, Array.getElem?_toList]
        have hj2 : j < (places n S).length := by omega
        have hj3 : j < cur.size := by omega
        have hj4 : j < (places n (fun j => S j && !T j)).length + ((places n S).length - (places n (fun j => S j && !T j)).length) := by omega
        simp [putCells, hj, hj3, hj4]
      · rw [List.getElem?_take_eq_none (by omega), List.getElem?_eq_none (by simp; omega)]
    · have := grownBy_sortedP encP (w := w) (g := blk) (n := q) (os := #[]) (places n (fun j => S j && !T j) ++ List.replicate ((places n S).length - (places n (fun j => S j && !T j)).length) 0).toArray
      simpa [Value.ownBlock] using this
end Go.Proofs.Ytfajligmdjpekaa
