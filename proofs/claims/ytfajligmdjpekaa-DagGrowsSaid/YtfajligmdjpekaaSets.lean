/- A map of the call's own, from places to true: a set of places below 64. -/
import Derived.Test.YtfajligmdjpekaaRight
namespace Go.Proofs.Ytfajligmdjpekaa
open Go.RowKit Go.Lib Go.Maps

/-- All blocks that were there are as they were, but block c. -/
structure But (c : Nat) (w w' : World) : Prop where
  os : w'.os = w.os
  tape : w'.tape = w.tape
  output : w'.output = w.output
  size : w.heap.size ≤ w'.heap.size
  block : ∀ k, k < w.heap.size → k ≠ c → w'.heap[k]? = w.heap[k]?

theorem But.refl (c : Nat) (w : World) : But c w w := ⟨rfl, rfl, rfl, Nat.le_refl _, fun _ _ _ => rfl⟩
theorem But.trans {c : Nat} {a b d : World} (h : But c a b) (k : But c b d) : But c a d :=
  ⟨k.os.trans h.os, k.tape.trans h.tape, k.output.trans h.output, Nat.le_trans h.size k.size,
   fun i hi hc => (k.block i (Nat.lt_of_lt_of_le hi h.size) hc).trans (h.block i hi hc)⟩
theorem But.of_ext {c : Nat} {w w' : World} (h : Ext w w') : But c w w' := ⟨h.os, h.tape, h.output, h.size, fun k hk _ => h.block k hk⟩
theorem But.of_grown {c : Nat} {w w' : World} (h : w.grownBy w' (some c)) : But c w w' := ⟨h.os, h.tape, h.output, h.size, fun k hk hne => h.block k hk (by simpa using hne)⟩
theorem But.ext {c : Nat} {a w w' : World} (hE : Ext a w) (h : But c w w') (hc : a.heap.size ≤ c) : Ext a w' :=
  ⟨h.os.trans hE.os, h.tape.trans hE.tape, h.output.trans hE.output, Nat.le_trans hE.size h.size, fun k hk => (h.block k (Nat.lt_of_lt_of_le hk hE.size) (by omega)).trans (hE.block k hk)⟩
theorem But.cell {c : Nat} {w w' : World} (h : But c w w') {p : Addr} {v : Value} (hc : w.cell? p = some v) (hp : p.block ≠ c) : w'.cell? p = some v := by
  have hlt := World.block_lt_of_cell? w p hc
  simp only [World.cell?] at hc ⊢
  rw [h.block _ hlt hp]
  exact hc
/-- A block that is a map holds no cell. -/
theorem cell_not_map {w : World} {p : Addr} {v : Value} (hc : w.cell? p = some v) {b : Nat} {es : Array MapEntry} {k : Nat} (hb : w.heap[b]? = some (.map es k)) : p.block ≠ b := by
  intro h
  simp [World.cell?, h, hb] at hc
theorem But.facts {c : Nat} {w w' : World} (h : But c w w') {a : Option Addr} {l : List (List Int)} (hf : RowFacts w a l) {es : Array MapEntry} {k : Nat} (hb : w.heap[c]? = some (.map es k)) : RowFacts w' a l := by
  intro j r hj
  obtain ⟨b, o, ar, cr, ha, hu, h3, h4, hx⟩ := hf j r hj
  refine ⟨b, o, ar, cr, ha, h.cell hu (cell_not_map hu hb), h3, h4, fun i x hi => ?_⟩
  obtain ⟨b', o', h5, h6⟩ := hx i x hi
  exact ⟨b', o', h5, h.cell h6 (cell_not_map h6 hb)⟩

def cnt (S : Nat → Bool) : Nat := ((List.range 64).filter S).length
theorem cnt_le (S : Nat → Bool) : cnt S ≤ 64 := by
  have := List.length_filter_le S (List.range 64)
  simpa [cnt] using this
theorem filter_more (S : Nat → Bool) (j : Nat) (hS : S j = false) : ∀ l : List Nat, l.Nodup → j ∈ l → (l.filter fun i => S i || i == j).length = (l.filter S).length + 1
  | [], _, h => by cases h
  | i :: l, hn, hj => by
    obtain ⟨hi, hn'⟩ := List.nodup_cons.1 hn
    by_cases hij : i = j
    · subst hij
      have hsame : (l.filter fun k => S k || k == i) = l.filter S := by
        apply List.filter_congr
        intro k hk
        have : k ≠ i := by rintro rfl; exact hi hk
        simp [this]
      rw [List.filter_cons, List.filter_cons, hsame, hS]
      simp
    · have hjl : j ∈ l := by
        rcases List.mem_cons.1 hj with h | h
        · exact absurd h.symm hij
        · exact h
      have ih := filter_more S j hS l hn' hjl
      rw [List.filter_cons, List.filter_cons]
      simp only [beq_eq_false_iff_ne.2 hij, Bool.or_false]
      split
      · simp only [List.length_cons]; omega
      · omega
theorem cnt_more {S : Nat → Bool} {j : Nat} (hS : S j = false) (hj : j < 64) : cnt (fun i => S i || i == j) = cnt S + 1 :=
  filter_more S j hS _ List.nodup_range (by simpa using hj)

abbrev D1 := DataW Unit
/-- Block b is a map that holds the places in S, each with true. -/
def SetAt (w : World) (b : Nat) (S : Nat → Bool) : Prop :=
  ∃ D : D1, w.ownsMap Try.prog 3 (plainElem Try.prog 4) b 64 D ∧ Maps.size D ≤ cnt S ∧ (∀ j : Nat, Maps.has D (.int .i64 j) = S j) ∧
    (∀ j : Nat, D.atKey (.int .i64 j) (.lit (.bool false)) = .lit (.bool (S j))) ∧ ∀ kl, Maps.has D kl = true → ∃ j : Nat, j < 64 ∧ kl = .int .i64 j ∧ ∀ z, D.atKey kl z = .lit (.bool true)

theorem keyed3 : Keyed Try.prog 3 := int_keyed Try.underlying3
theorem wf_small {j : Nat} (hj : j < 4611686018427387904) : (Lit.int .i64 j).wf = true := by
  have h1 : IntKind.i64.min = -9223372036854775808 := by decide
  have h2 : IntKind.i64.max = 9223372036854775807 := by decide
  simp only [Lit.wf, h1, h2, Bool.and_eq_true, decide_eq_true_eq]
  omega
theorem key_small {j : Nat} (hj : j < 4611686018427387904) : keyOf Try.prog 3 (.int .i64 j) = some (.int .i64 j) := keyOf_int_mk Try.underlying3 (wf_small hj)

theorem SetAt.map {w : World} {b : Nat} {S : Nat → Bool} (h : SetAt w b S) : ∃ es k, w.heap[b]? = some (.map es k) := by
  obtain ⟨D, ⟨es, k, hb, _⟩, _⟩ := h
  exact ⟨es, k, hb⟩
theorem SetAt.lt {w : World} {b : Nat} {S : Nat → Bool} (h : SetAt w b S) : b < w.heap.size := by
  obtain ⟨D, h1, _⟩ := h
  exact h1.lt
theorem SetAt.congr {w : World} {b : Nat} {S S' : Nat → Bool} (h : SetAt w b S) (hS : ∀ j, S j = S' j) : SetAt w b S' := by
  obtain rfl : S = S' := funext hS
  exact h
theorem SetAt.ext {w w' : World} {b : Nat} {S : Nat → Bool} (h : SetAt w b S) (hE : Ext w w') : SetAt w' b S := by
  obtain ⟨D, ⟨es, k, hb, h1⟩, h2⟩ := h
  exact ⟨D, ⟨es, k, hE.heap hb, h1⟩, h2⟩
theorem SetAt.but {w w' : World} {b c : Nat} {S : Nat → Bool} (h : SetAt w b S) (hE : But c w w') (hne : b ≠ c) : SetAt w' b S := by
  have hlt := h.lt
  obtain ⟨D, ⟨es, k, hb, h1⟩, h2⟩ := h
  exact ⟨D, ⟨es, k, (hE.block b hlt hne).trans hb, h1⟩, h2⟩
theorem setAt_new (w : World) : SetAt (w.alloc (.map #[] 0)) w.heap.size (fun _ => false) := by
  refine ⟨.map [], (World.ownsMap_made w Try.prog 3 _).mono (by omega), by simp [Maps.size], fun j => rfl, fun j => ?_, fun kl hk => by simp [Maps.has] at hk⟩
  simp [DataW.atKey]

/-- 'm[k]'. -/
theorem SetAt.look {w : World} {b : Nat} {S : Nat → Bool} (h : SetAt w b S) {j : Nat} (hj : j < 4611686018427387904) :
    (Instr.lookup 38 (.map (some b)) (.int .i64 j) false).run Try.prog w = .ok (.bool (S j)) w := by
  obtain ⟨D, hown, _, _, hat, _⟩ := h
  obtain ⟨v, ps, hrun, hv⟩ := hown.lookup keyed3 Try.underlying38 (Try.zeroValue4 w) (plainElem_bool Try.underlying4 false) (key_small hj)
  rw [hat j] at hv
  rw [hrun]
  cases v <;> simp [plainElem, Try.underlying4] at hv
  rw [hv.1]

/-- 'm[k] = true'. -/
theorem wpList_put_set (w : World) {ops : Array Oper} {rest : List Oper} {o : Oper} {a : Act} {Q : Exit → Act → World → Prop}
    (hg : o.guard = none) (m x : Operand) (hop : o.op = Op.mapUpdate 38 m x (.const (.bool true))) (b : Nat) (S : Nat → Bool) (hm : a.eval m = .map (some b)) (hset : SetAt w b S) (j : Nat) (hj : j < 64) (hx : a.eval x = .int .i64 j)
    (hK : ∀ w', SetAt w' b (fun i => S i || i == j) → But b w w' → wpList Try.prog ops Q rest (a.put o.dst undef) w') : wpList Try.prog ops Q (o :: rest) a w := by
  obtain ⟨D, hown, hsz, hhas, hat, hall⟩ := hset
  have htidy := hown.tidy keyed3
  have hD := hown.isMap
  have hmax : Maps.size D ≤ 64 := Nat.le_trans hsz (cnt_le S)
  have hkl : WideAt.IsKeyLit (.int .i64 (j : Int)) := keyed3.key (key_small (by omega))
  refine wpList_mapUpdate_own w hg m x _ 38 hop 3 4 keyed3 Try.underlying38 (plainElem Try.prog 4) b 64 D hm hown (by unfold maxLen; omega) (.int .i64 j) (.bool true) (.int .i64 j) hx rfl (key_small (by omega)) (.lit (.bool true)) [] (plainElem_bool Try.underlying4 true) ?_
  intro w' hown' hgrow
  have hput : Maps.size (D.put (.int .i64 (j : Int)) (.lit (.bool true))) ≤ cnt (fun i => S i || i == j) := by
    rw [Maps.size_put htidy, hhas j]
    cases hS : S j with
    | true =>
      have : (fun i => S i || i == j) = S := funext fun i => by
        by_cases hij : i = j
        · subst hij; simp [hS]
        · simp [hij]
      rw [this]
      simpa using hsz
    | false =>
      rw [cnt_more hS hj]
      simp
      omega
  have hsz' : Maps.size (D.put (.int .i64 (j : Int)) (.lit (.bool true))) ≤ 64 := Nat.le_trans hput (cnt_le _)
  have hown2 : w'.ownsMap Try.prog 3 (plainElem Try.prog 4) b 64 (D.put (.int .i64 (j : Int)) (.lit (.bool true))) := by
    obtain ⟨es, clock, hb, F, hs, hDD⟩ := hown'
    refine ⟨es, clock, hb, F, ?_, hDD⟩
    have : Maps.size (D.put (.int .i64 (j : Int)) (.lit (.bool true))) = es.size := by
      rw [hDD]; simp [Maps.size, length_sorted]
    omega
  have hne : ∀ i : Nat, i ≠ j → (Lit.int .i64 (i : Int)) ≠ .int .i64 (j : Int) := fun i hij h => hij (by simp at h; omega)
  refine hK w' ⟨_, hown2, hput, fun i => ?_, fun i => ?_, fun kl hk => ?_⟩ (But.of_grown hgrow)
  · by_cases hij : i = j
    · subst hij; rw [Maps.has_put_same hD hkl]; simp
    · rw [Maps.has_put_other (hne i hij), hhas i]; simp [hij]
  · by_cases hij : i = j
    · subst hij; rw [Maps.atKey_put_same hD hkl]; simp
    · rw [Maps.atKey_put_other (hne i hij), hat i]; simp [hij]
  · by_cases hkj : kl = .int .i64 (j : Int)
    · subst hkj; exact ⟨j, hj, rfl, fun z => Maps.atKey_put_same hD hkl _ z⟩
    · rw [Maps.has_put_other hkj] at hk
      obtain ⟨i, hi, hki, hz⟩ := hall kl hk
      exact ⟨i, hi, hki, fun z => by rw [Maps.atKey_put_other hkj]; exact hz z⟩

end Go.Proofs.Ytfajligmdjpekaa
