/- The reference's Net: a row of messages behind a pointer. -/
import Derived.Test.YtfedndlmlbgboaaMsgs
import Derived.Deep.AppendLies
import Derived.Deep.RegionLawGrows
import Derived.Deep.RegionHeld3
import Derived.Test.YtfedndlmlbgboaaRely
namespace Go.Proofs.Ytfedndlmlbgboaa
open Go.RowKit Go.Conc

/-- Block q is a reference Net's: the row l, owned by blocks behind q, and the room. -/
def RefIs (w : World) (q room : Nat) (l : List Msg) : Prop :=
  ∃ v, w.heap[q]? = some (.cells #[v, .int .i64 room] 39 (0, 0)) ∧ w.ownsRow (q + 1) 30 4 v l.length (flat l)

def RNewPost (room : Int) (w : World) (e : Ending) (w' : World) : Prop :=
  e = .returned (.pointer (some ⟨w.heap.size, 0, none⟩)) ∧ RefIs w' w.heap.size (roomOf room) [] ∧ Below w.heap.size w w'

theorem rnew_post (n : Nat) (room : Int) (h : roomOf room = n) (w : World) :
    RNewPost room w (.returned (.pointer (some ⟨w.heap.size, 0, none⟩))) (w.alloc (.cells #[.slice none 0 0, .int .i64 n] 39)) := by
  refine ⟨rfl, ⟨_, ?_, World.ownsRow_nil _ _ _ _⟩, (Below.refl _ _).alloc (Nat.le_refl _) _⟩
  rw [h]; exact heap_alloc_new w _

set_option maxHeartbeats 400000 in
theorem rnew_any (room : Int) (w : World) : Calls Try.prog 9 #[.int .i64 room] w (RNewPost room w) := by
  by_cases h1 : room ≤ 1
  · have hp := rnew_post 1 room (roomOf_lo h1) w
    have h2 : room ≤ 32 := by omega
    have h3 : ¬ 1 < room := by omega
    go_enter Try.func9, Try.ntmps9
    go_wp2
    go_ret
    exact hp
  by_cases h2 : room ≤ 32
  · have h3 : 1 < room := by omega
    obtain ⟨n, rfl⟩ := Int.eq_ofNat_of_zero_le (show 0 ≤ room by omega)
    have hp := rnew_post n n (roomOf_mid (by omega) (by omega)) w
    go_enter Try.func9, Try.ntmps9
    go_wp2
    go_ret
    exact hp
  · have hp := rnew_post 32 room (roomOf_hi (by omega)) w
    go_enter Try.func9, Try.ntmps9
    go_wp2
    go_ret
    exact hp

/-- All that was there is as it was. -/
def Ext (w w' : World) : Prop := Below w.heap.size w w'
theorem ext_refl (w : World) : Ext w w := Below.refl _ _
theorem ext_trans (a b c : World) (h : Ext a b) (k : Ext b c) : Ext a c := Below.trans h (Below.mono k h.size)
theorem ext_alloc (w : World) (o : Obj) : Ext w (w.alloc o) := (Below.refl _ _).alloc (Nat.le_refl _) _
theorem ext_drew (w : World) : Ext w w.drew := (Below.refl _ _).drew
theorem ext_drewN {a w : World} (h : Ext a w) (n : Nat) : Ext a (w.drewN n) := ⟨h.os, h.tape, h.output, h.size, h.block⟩
theorem ext_drew' {a w : World} (h : Ext a w) : Ext a w.drew := ⟨h.os, h.tape, h.output, h.size, h.block⟩
theorem Ext.cell {w w' : World} (h : Ext w w') {p : Addr} {v : Value} (hc : w.cell? p = some v) : w'.cell? p = some v :=
  (Below.cell h (World.block_lt_of_cell? w p hc)).trans hc
theorem ext_grown {w w' : World} (h : w.grownBy w' none) : Ext w w' := (Below.refl _ _).grown h (Nat.le_refl _) (fun k hk => by cases hk)
theorem Ext.heap {w w' : World} (h : Ext w w') {b : Nat} {o : Obj} (hb : w.heap[b]? = some o) : w'.heap[b]? = some o :=
  (h.block b (Array.getElem?_eq_some_iff.1 hb).1).trans hb
theorem owns_mono {w : World} {base base' e size n : Nat} {v : Value} {xs : List Value} (h : w.ownsRow base e size v n xs) (hb : base' ≤ base) : w.ownsRow base' e size v n xs := by
  obtain ⟨h1, h2 | ⟨g, cp, cur, hv, hg, hr⟩⟩ := h
  · exact ⟨h1, .inl h2⟩
  · exact ⟨h1, .inr ⟨g, cp, cur, hv, by omega, hr⟩⟩
theorem cells_one {l : List Msg} : ∀ u ∈ flat l, u.oneCell' = true := by
  intro u hu
  simp only [flat, List.mem_flatMap, Msg.cells, List.mem_cons, List.not_mem_nil, or_false] at hu
  obtain ⟨m, _, rfl | rfl | rfl | rfl⟩ := hu <;> rfl
theorem Ext.owns {w w' : World} (h : Ext w w') {base e size n : Nat} {v : Value} {xs : List Value} (ho : w.ownsRow base e size v n xs) : w'.ownsRow base e size v n xs := ownsRow_below ho h

theorem wp_append_grows {P : Program} {o : Oper} {a : Act} {w : World} {K : Act → World → Prop} {Q : Exit → Act → World → Prop}
    (s x : Operand) (t : TypeId) (hop : o.op = Op.call { callee := Callee.builtin Builtin.append, args := #[s, x], argTypes := #[t, t] })
    (e : TypeId) (i : TypeInfo) (z : Value) (size bytes : Nat) (h1 : P.underlying t = some (.slice e)) (h2 : P.info? e = some i) (h3 : i.zero = some z) (h4 : i.size = size) (h5 : i.bytes = bytes) (h6 : z.cells.size = size) (h7 : 0 < size)
    (ao : Option Addr) (n cap : Nat) (olds : List Value) (hs : a.eval s = .slice ao n cap) (hnone : ao = none → n = 0 ∧ cap = 0) (hlo : olds.length = n * size) (holds : ∀ b, ao = some b → ∀ j u, olds[j]? = some u → w.cell? (b.add j) = some u)
    (ad : Addr) (m c : Nat) (news : List Value) (hx : a.eval x = .slice (some ad) m c) (hn : news.length = m * size) (hc : ∀ j u, news[j]? = some u → w.cell? (ad.add j) = some u) (h1c : ∀ u ∈ news, u.oneCell' = true)
    (hfull : cap < n + m) (b1 : n + m ≤ maxLen) (b2 : (n + m) * bytes ≤ 140737488355328)
    (hK : ∀ v' w', w'.ownsRow w.heap.size e size v' (n + m) (olds ++ news) → w.grownBy w' none → K (a.put o.dst v') w') : Oper.wp P o a w K Q := by
  have := step_append_grows (P := P) (ops := #[]) (o := { o with guard := none }) (a := a) (w := w) (K := K) (Q := Q) (E := True) rfl s x t hop e i z size bytes h1 h2 h3 h4 h5 h6 h7 ao n cap olds hs hnone hlo holds ad m c news hx hn hc h1c hfull b1 b2 hK
  rw [if_pos (by simp [Region.wanted])] at this
  exact this

theorem set_block {w : World} {b : Nat} {cs : Array Value} {t : TypeId} {fr : Nat × Nat} (h : w.heap[b]? = some (.cells cs t fr)) (i : Nat) (v : Value) :
    (w.setCell ⟨b, i, none⟩ v).heap[b]? = some (.cells (cs.setIfInBounds i v) t fr) := by
  simp only [World.setCell]; rw [Array.getElem?_modify]; simp [h]
theorem RefIs.put {w : World} {q room : Nat} {v0 v : Value} {l : List Msg} (hq : w.heap[q]? = some (.cells #[v0, .int .i64 room] 39 (0, 0))) (ho : w.ownsRow (q + 1) 30 4 v l.length (flat l)) :
    RefIs (w.setCell ⟨q, 0, none⟩ v) q room l := by
  refine ⟨v, ?_, ownsRow_setCell_below ho (by simp) v⟩
  rw [set_block hq 0 v]; simp

def RSendPost (q room : Nat) (l : List Msg) (m : Msg) (w : World) (e : Ending) (w' : World) : Prop :=
  e = .returned (.int .i64 (if l.length < room then 0 else 2)) ∧ RefIs w' q room (if l.length < room then l ++ [m] else l) ∧ Below q w w'

/-- A value reads as n elements, whose cells are xs: nil, or cells from some place on. -/
def Reads (w : World) (size : Nat) (sv : Value) (n : Nat) (xs : List Value) : Prop :=
  xs.length = n * size ∧ ((sv = .slice none 0 0 ∧ n = 0) ∨ ∃ ad c, sv = .slice (some ad) n c ∧ ∀ j u, xs[j]? = some u → w.cell? (ad.add j) = some u)
theorem Reads.of_owns {w : World} {base e size n : Nat} {v : Value} {xs : List Value} (h : w.ownsRow base e size v n xs) : Reads w size v n xs := by
  refine ⟨h.1, ?_⟩
  rcases h.2 with h2 | ⟨g, cp, cur, rfl, _, hb, _, _, _, hx⟩
  · exact .inl h2
  · refine .inr ⟨⟨g, 0, none⟩, cp, rfl, fun j u hj => ?_⟩
    have hadd : (⟨g, 0, none⟩ : Addr).add j = ⟨g, j, none⟩ := by unfold Addr.add; split <;> simp_all
    rw [hadd, cell_of_row w g j cur e (0, 0) hb]
    rw [← hx, List.getElem?_take] at hj
    split at hj
    · simpa using hj
    · cases hj
theorem Reads.ext {w w' : World} {size n : Nat} {v : Value} {xs : List Value} (h : Reads w size v n xs) (hE : Ext w w') : Reads w' size v n xs :=
  ⟨h.1, h.2.imp id fun ⟨ad, c, hv, hc⟩ => ⟨ad, c, hv, fun j u hj => hE.cell (hc j u hj)⟩⟩
theorem Reads.shape {w : World} {size n : Nat} {v : Value} {xs : List Value} (h : Reads w size v n xs) : ∃ ao cp, v = .slice ao n cp := by
  rcases h.2 with ⟨rfl, rfl⟩ | ⟨ad, c, rfl, _⟩
  · exact ⟨_, _, rfl⟩
  · exact ⟨_, _, rfl⟩

/-- append([]T{}, xs...): a new row with these elements. -/
theorem wp_append_fresh {P : Program} {o : Oper} {a : Act} {w : World} {K : Act → World → Prop} {Q : Exit → Act → World → Prop}
    (s x : Operand) (t : TypeId) (hop : o.op = Op.call { callee := Callee.builtin Builtin.append, args := #[s, x], argTypes := #[t, t] })
    (e : TypeId) (i : TypeInfo) (z : Value) (size bytes : Nat) (h1 : P.underlying t = some (.slice e)) (h2 : P.info? e = some i) (h3 : i.zero = some z) (h4 : i.size = size) (h5 : i.bytes = bytes) (h6 : z.cells.size = size) (h7 : 0 < size)
    (base B : Nat) (hs : a.eval s = .slice (some ⟨B, 0, none⟩) 0 0) (hB : base ≤ B) (hBb : w.heap[B]? = some (.cells #[] e (0, 0))) (hbase : base ≤ w.heap.size)
    (sv : Value) (n : Nat) (xs : List Value) (hx : a.eval x = sv) (hr : Reads w size sv n xs) (h1c : ∀ u ∈ xs, u.oneCell' = true)
    (b1 : n ≤ maxLen) (b2 : n * bytes ≤ 140737488355328)
    (hK : ∀ v' w', Ext w w' → w'.ownsRow base e size v' n xs → K (a.put o.dst v') w') : Oper.wp P o a w K Q := by
  have hown : w.ownsRow base e size (.slice (some ⟨B, 0, none⟩) 0 0) 0 [] :=
    ⟨by simp, .inr ⟨B, 0, #[], rfl, hB, hBb, Nat.le_refl _, by unfold maxLen; omega, by simp, by simp⟩⟩
  by_cases hn : n = 0
  · subst hn
    have hxs : xs = [] := List.eq_nil_of_length_eq_zero (by simpa using hr.1)
    subst hxs
    rcases hr.2 with ⟨rfl, _⟩ | ⟨ad, c, rfl, _⟩
    · have hrun := run_append_owned_none (P := P) (w := w) base t o.type e i size h1 h2 _ 0 [] hown
      unfold Oper.wp
      simp [execOp, hop, resolve, invoke, builtin, hs, hx, hrun, Result.andThen]
      exact hK _ _ (ext_refl _) hown
    · subst h4
      have hrun := run_append_room_cells (P := P) w t o.type e i h1 h2 B 0 0 0 ad 0 c [] (by simp) (by simp) (by simp) (by omega) (by simp) (by simp)
      unfold Oper.wp
      simp [execOp, hop, resolve, invoke, builtin, hs, hx, hrun, Result.andThen]
      exact hK _ _ (ext_refl _) hown
  · rcases hr.2 with ⟨_, h0⟩ | ⟨ad, c, rfl, hc⟩
    · exact absurd h0 hn
    · refine wp_append_grows s x t hop e i z size bytes h1 h2 h3 h4 h5 h6 h7 (some ⟨B, 0, none⟩) 0 0 [] hs (fun h => by cases h) (by simp) (fun b _ j u hj => by simp at hj) ad n c xs hx hr.1 hc h1c (by omega) (by omega) (by simpa using b2) ?_
      intro v' w' ho hg
      exact hK v' w' (ext_grown hg) (by simpa using owns_mono ho hbase)

set_option maxHeartbeats 400000 in
theorem rsend_room (q room : Nat) (l : List Msg) (m : Msg) (w : World) (h : RefIs w q room l) (hr : l.length < room) (h32 : room ≤ 32) :
    Calls Try.prog 11 #[.pointer (some ⟨q, 0, none⟩), .agg #[.int .i64 m.to, .int .i64 m.epoch, .int .i64 m.seq, .int .i64 m.commit]] w (RSendPost q room l m w) := by
  obtain ⟨v, hq, ho⟩ := h
  have hrd := Reads.of_owns ho
  obtain ⟨ao, cp, rfl⟩ := hrd.shape
  have hqz : q < w.heap.size := (Array.getElem?_eq_some_iff.1 hq).1
  have c0 : w.cell? ⟨q, 0, none⟩ = some (.slice ao l.length cp) := by simp [World.cell?, hq]
  have c1 : w.cell? ⟨q, 1, none⟩ = some (.int .i64 room) := by simp [World.cell?, hq]
  have f0 : w.frozen? ⟨q, 0, none⟩ = false := by simp [World.frozen?, hq]
  have HQ := Lib.hid hq
  have HR := Lib.hid hrd
  have HO := Lib.hid ho
  have ht : decide (room ≤ l.length) = false := by simp; omega
  obtain ⟨i0, hi, hz0, hz1, hz2⟩ := info_parts Try.info30
  clear hq ho hrd
  go_enter Try.func11, Try.ntmps11
  go_wp2_with fail
  go_quiet (fail)
  go_wp2_with fail
  refine wp_region_any (by kernel_rfl) ?_
  change wpAny _ _ _ _ _ _ _ (World.drew _)
  refine Go.Rely.takeD 0 (some 15) (.pointer (some ⟨q, 0, none⟩)) rfl rfl (by kernel_rfl) (by kernel_rfl) (by kernel_rfl) (fun _ _ _ h => h) (Or.inl ⟨by rfl, fun w => by go_simp⟩) ?_
  simp only [Act.put, List.setIfInBounds_toArray, List.set_cons_zero, List.set_cons_succ]
  refine Go.Rely.takeD 2 (some 17) (.pointer (some ⟨q, 0, none⟩)) rfl rfl (by kernel_rfl) (by kernel_rfl) (by kernel_rfl) (fun _ _ _ h => h) (Or.inl ⟨by rfl, fun w => by go_simp⟩) ?_
  simp only [Act.put, List.setIfInBounds_toArray, List.set_cons_zero, List.set_cons_succ]
  refine Go.Rely.takeD 3 (some 18) (.pointer (some ⟨q, 0, none⟩)) rfl rfl (by kernel_rfl) (by kernel_rfl) (by kernel_rfl) (fun _ _ _ h => h) (Or.inl ⟨by rfl, fun w => by go_simp⟩) ?_
  simp only [Act.put, List.setIfInBounds_toArray, List.set_cons_zero, List.set_cons_succ]
  refine Go.Rely.takeD 4 (some 19) (.pointer (some ⟨q, 0, none⟩)) rfl rfl (by kernel_rfl) (by kernel_rfl) (by kernel_rfl) (fun _ _ _ h => h) (Or.inl ⟨by rfl, fun w => by go_simp⟩) ?_
  simp only [Act.put, List.setIfInBounds_toArray, List.set_cons_zero, List.set_cons_succ]
  refine Go.Rely.rely_use 9 [(1, some 16), (5, some 20), (6, some 21), (7, some 22), (8, some 23)] Ext
    [fun v w => ∃ B, v = .slice (some ⟨B, 0, none⟩) 0 0 ∧ q + 1 ≤ B ∧ w.heap[B]? = some (.cells #[] 30 (0, 0)), fun v _ => v = .slice ao l.length cp, fun v w => w.ownsRow (q + 1) 30 4 v l.length (flat l),
     fun v _ => v = .agg #[.int .i64 m.to, .int .i64 m.epoch, .int .i64 m.seq, .int .i64 m.commit],
     fun v w => ∃ B, v = .slice (some ⟨B, 0, none⟩) 1 1 ∧ w.heap[B]? = some (.cells #[.int .i64 m.to, .int .i64 m.epoch, .int .i64 m.seq, .int .i64 m.commit] 30 (0, 0))]
    ext_refl ext_trans ⟨fun v w w' ⟨B, h1, h2, h3⟩ hR => ⟨B, h1, h2, hR.heap h3⟩, fun v w w' h _ => h, fun v w w' h hR => hR.owns h, fun v w w' h _ => h, fun v w w' ⟨B, h1, h2⟩ hR => ⟨B, h1, hR.heap h2⟩, trivial⟩ (by kernel_rfl) (by rfl) ⟨?s1, ?s5, ?s6, ?s7, ?s8, trivial⟩ ?fin
  case s1 =>
    intro o ho vs W hR hT K hK
    simp only [List.getElem?_toArray, List.getElem?_cons_succ, List.getElem?_cons_zero, Option.some.injEq] at ho
    subst ho
    rw [if_pos (by rfl)]
    simp only [Go.Rely.putsO, Act.put, List.setIfInBounds_toArray, List.set_cons_zero, List.set_cons_succ] at hK ⊢
    clear hT
    go_simp
    have hsz : w.heap.size + 1 ≤ W.heap.size := by have := hR.size; simpa using this
    exact hK _ _ (ext_alloc _ _) ⟨_, rfl, by omega, heap_alloc_new _ _⟩
  case s5 =>
    intro o ho vs W hR hT K hK
    simp only [List.getElem?_toArray, List.getElem?_cons_succ, List.getElem?_cons_zero, Option.some.injEq] at ho
    subst ho
    rw [if_pos (by rfl)]
    simp only [Go.Rely.putsO, Act.put, List.setIfInBounds_toArray, List.set_cons_zero, List.set_cons_succ] at hK ⊢
    clear hT
    have hE : Ext w W := ext_trans _ _ _ (ext_drew' (ext_drewN (ext_alloc _ _) _)) hR
    have hc0 : W.cell? ⟨q, 0, none⟩ = some (.slice ao l.length cp) := hE.cell c0
    go_simp
    exact hK _ _ (ext_refl _) rfl
  case s6 =>
    intro o ho vs W hR hT K hK
    simp only [List.getElem?_toArray, List.getElem?_cons_succ, List.getElem?_cons_zero, Option.some.injEq] at ho
    subst ho
    obtain ⟨B, h1, hB1, hB2⟩ : ∃ B, vs 1 = .slice (some ⟨B, 0, none⟩) 0 0 ∧ q + 1 ≤ B ∧ W.heap[B]? = some (.cells #[] 30 (0, 0)) := hT.get 1 (by kernel_rfl)
    have h5 : vs 5 = .slice ao l.length cp := hT.get 5 (by kernel_rfl)
    have hsz : w.heap.size + 1 ≤ W.heap.size := by have := hR.size; simpa using this
    have hE : Ext w W := ext_trans _ _ _ (ext_drew' (ext_drewN (ext_alloc _ _) _)) hR
    rw [if_pos (by rfl)]
    simp only [Go.Rely.putsO, Act.put, List.setIfInBounds_toArray, List.set_cons_zero, List.set_cons_succ] at hK ⊢
    clear hT
    rw [h1, h5] at hK ⊢
    refine wp_append_fresh (.tmp 16) (.tmp 20) 37 rfl 30 i0 _ 4 32 Try.underlying37 hi hz0 hz1 hz2 rfl (by decide) (q + 1) B (by rfl) hB1 hB2 (by omega) _ l.length (flat l) (by rfl) (HR.out.ext hE) cells_one (by unfold maxLen; omega) (by omega) ?_
    intro v' w' hE' hown
    exact hK v' w' hE' hown
  case s7 =>
    intro o ho vs W hR hT K hK
    simp only [List.getElem?_toArray, List.getElem?_cons_succ, List.getElem?_cons_zero, Option.some.injEq] at ho
    subst ho
    rw [if_pos (by rfl)]
    simp only [Go.Rely.putsO, Act.put, List.setIfInBounds_toArray, List.set_cons_zero, List.set_cons_succ] at hK ⊢
    clear hT
    have b0 : W.cell? ⟨w.heap.size, 0, none⟩ = some (.int .i64 m.to) := by rw [Below.cell hR (by simp)]; simp
    have b1 : W.cell? ⟨w.heap.size, 1, none⟩ = some (.int .i64 m.epoch) := by rw [Below.cell hR (by simp)]; simp
    have b2 : W.cell? ⟨w.heap.size, 2, none⟩ = some (.int .i64 m.seq) := by rw [Below.cell hR (by simp)]; simp
    have b3 : W.cell? ⟨w.heap.size, 3, none⟩ = some (.int .i64 m.commit) := by rw [Below.cell hR (by simp)]; simp
    go_simp
    exact hK _ _ (ext_refl _) rfl
  case s8 =>
    intro o ho vs W hR hT K hK
    simp only [List.getElem?_toArray, List.getElem?_cons_succ, List.getElem?_cons_zero, Option.some.injEq] at ho
    subst ho
    have h7 : vs 7 = .agg #[.int .i64 m.to, .int .i64 m.epoch, .int .i64 m.seq, .int .i64 m.commit] := hT.get 7 (by kernel_rfl)
    rw [if_pos (by rfl)]
    simp only [Go.Rely.putsO, Act.put, List.setIfInBounds_toArray, List.set_cons_zero, List.set_cons_succ] at hK ⊢
    clear hT
    rw [h7] at hK ⊢
    go_simp
    exact hK _ _ (ext_alloc _ _) ⟨_, rfl, heap_alloc_new _ _⟩
  case fin =>
    intro vs W hR hT
    have h6 : W.ownsRow (q + 1) 30 4 (vs 6) l.length (flat l) := hT 6
    obtain ⟨B, h8, hB⟩ : ∃ B, vs 8 = .slice (some ⟨B, 0, none⟩) 1 1 ∧ W.heap[B]? = some (.cells #[.int .i64 m.to, .int .i64 m.epoch, .int .i64 m.seq, .int .i64 m.commit] 30 (0, 0)) := hT 8
    have hsz : w.heap.size + 1 ≤ W.heap.size := by have := hR.size; simpa using this
    have hqW : W.heap[q]? = some (.cells #[.slice ao l.length cp, .int .i64 room] 39 (0, 0)) := by
      rw [hR.block q (by simp; omega)]
      show (w.alloc _).heap[q]? = _
      rw [Below.heap_alloc _ _ _ hqz]; exact HQ.out
    clear hT
    simp only [Go.Rely.putsO, Act.put, List.setIfInBounds_toArray, List.set_cons_zero, List.set_cons_succ, h8, List.drop_succ_cons, List.drop_zero]
    generalize vs 6 = v6 at *
    refine wpList_append_own _ rfl (.tmp 21) (.tmp 23) 37 rfl (q + 1) 30 i0 _ 4 32 Try.underlying37 hi hz0 hz1 hz2 rfl (by decide) v6 l.length (flat l) (by rfl) h6 ⟨B, 0, none⟩ 1 1 m.cells (by rfl) rfl
      (World.news_of_block hB) (fun u hu => cells_one (l := [m]) u (by simpa [flat] using hu)) (by unfold maxLen; omega) (by omega) (by omega) ?_
    intro v' w2 hown hgrow _
    obtain ⟨g2, cp2, rfl, _, _⟩ := hown.form (by omega)
    have hrow : ∀ k, v6.ownBlock = some k → q + 1 ≤ k := fun k hk => (h6.lt k hk).1
    have hq2 : w2.heap[q]? = some (.cells #[.slice ao l.length cp, .int .i64 room] 39 (0, 0)) := by
      rw [hgrow.block q (by omega) (fun e => by have := hrow q e.symm; omega)]; exact hqW
    have hE : Ext w W := ext_trans _ _ _ (ext_drew' (ext_drewN (ext_alloc _ _) _)) hR
    have hB2 : Below q w w2 := (Below.mono hE (by omega)).grown hgrow (by omega) (fun k hk => by have := hrow k hk; omega)
    have c2 : w2.cell? ⟨q, 0, none⟩ = some (.slice ao l.length cp) := by simp [World.cell?, hq2]
    have f2 : w2.frozen? ⟨q, 0, none⟩ = false := by simp [World.frozen?, hq2]
    have hP : RSendPost q room l m w (.returned (.int .i64 0)) (w2.setCell ⟨q, 0, none⟩ (.slice (some ⟨g2, 0, none⟩) (l.length + 1) cp2)) := by
      refine ⟨by rw [if_pos hr], ?_, hB2.setCell (Nat.le_refl _) _⟩
      rw [if_pos hr]
      refine RefIs.put hq2 ?_
      rw [flat_append]
      simpa [flat] using hown
    have HP := Lib.hid hP
    clear hP hB2 hE hq2 hrow hgrow hown hqW hB h6 HQ HR HO hR c0 c1 f0
    go_wp2_with fail
    go_ret
    exact HP.out

set_option maxHeartbeats 400000 in
theorem rsend_full (q room : Nat) (l : List Msg) (m : Msg) (w : World) (h : RefIs w q room l) (hr : ¬ l.length < room) :
    Calls Try.prog 11 #[.pointer (some ⟨q, 0, none⟩), .agg #[.int .i64 m.to, .int .i64 m.epoch, .int .i64 m.seq, .int .i64 m.commit]] w (RSendPost q room l m w) := by
  have h0 := h
  obtain ⟨v, hq, ho⟩ := h
  obtain ⟨ao, cp, rfl⟩ := (Reads.of_owns ho).shape
  have hqz : q < w.heap.size := (Array.getElem?_eq_some_iff.1 hq).1
  have c0 : w.cell? ⟨q, 0, none⟩ = some (.slice ao l.length cp) := by simp [World.cell?, hq]
  have c1 : w.cell? ⟨q, 1, none⟩ = some (.int .i64 room) := by simp [World.cell?, hq]
  have ht : decide (room ≤ l.length) = true := by simp; omega
  have hP : ∀ o n, RSendPost q room l m w (.returned (.int .i64 2)) ((w.alloc o).drewN n) := by
    intro o n
    refine ⟨by rw [if_neg hr], ?_, Below.mono (ext_drewN (ext_alloc _ _) _) (by omega)⟩
    rw [if_neg hr]
    obtain ⟨v', h1, h2⟩ := h0
    exact ⟨v', (ext_drewN (ext_alloc w o) n).heap h1, (ext_drewN (ext_alloc w o) n).owns h2⟩
  have HP := Lib.hid hP
  clear hq ho h0 hP
  go_enter Try.func11, Try.ntmps11
  go_wp2_with fail
  go_quiet (fail)
  go_wp2_with fail
  go_ret
  exact HP.out _ _

theorem rsend_any (q room : Nat) (l : List Msg) (m : Msg) (w : World) (h : RefIs w q room l) (h32 : room ≤ 32) :
    Calls Try.prog 11 #[.pointer (some ⟨q, 0, none⟩), m.val] w (RSendPost q room l m w) := by
  by_cases hr : l.length < room
  · exact rsend_room q room l m w h hr h32
  · exact rsend_full q room l m w h hr

end Go.Proofs.Ytfedndlmlbgboaa
