/- Part 38 of what StageOrder and StagePlans ask: for every input each returns true, and its input reads as it did. No condition. -/
import Derived.Test.YtelkpflpgpdkdaaGreatDoorPt29
import Derived.Test.YtelkpflpgpdkdaaGreatDoorPt30
import Derived.Test.YtelkpflpgpdkdaaGreatDoorPt31
import Derived.Test.YtelkpflpgpdkdaaGreatDoorPt32
import Derived.Test.YtelkpflpgpdkdaaGreatDoorPt37
import Derived.Laws.OwnMore
namespace Go.Sv
open Go
set_option maxRecDepth 10000
open Go.RowKit
section
variable {P : Program} [Lays P] {ops : Array Oper} {n : Nat} {d : Option Tmp} {ty t : TypeId} {pos : String} {af : Array Edge} {x y : Operand} {κ q e k we j o m c : Nat} {fl : List (Nat × Nat)} {z : List ZK} {ls : List (List D)} {le : Lay}
theorem OpT.copyV {i i2 m1 m2 c1 c2 cnt : Nat} (hm2 : i2 + m2 ≤ ls.length) (hm1 : i + m1 ≤ ls.length) (hcnt : Nat.min m2 m1 = cnt) (ht : lay P t = some ⟨.slice e, we, fl, z⟩ := by rfl) (he : lay P e = some le := by rfl) (hk : le.size = k := by rfl) :
    OpT P ops (mkO d (.call ⟨.builtin .copy, #[x, y], #[t, t]⟩) ty pos af) n [(x, .one (.sub κ (i * k) m1 c1)), (y, .one (.sub κ (i2 * k) m2 c2))] [] [(κ, .rowc q k ls m c)] (iT cnt) [(κ, .rowc q k (ls.take i ++ (ls.drop i2).take cnt ++ ls.drop (i + cnt)) m c)] n := .wr rfl rfl rfl nofun fun β V w A h _ _ hr => by
  obtain ⟨hx, hy⟩ := in2 h
  have hr0 := hr
  obtain ⟨hkl, g, cur, us, r1, r2, r3, r4, r5, r6, r7⟩ := hr
  obtain ⟨b, o', hbase, e1⟩ := hx
  obtain ⟨b2, o2', hbase2, e2⟩ := hy
  have r1' : β κ = .slice (some ⟨g, 0, none⟩) (ls.length + m) c := r1
  rw [r1'] at hbase
  rw [r1'] at hbase2
  cases hbase
  cases hbase2
  rw [Nat.zero_add] at e1 e2
  have hc1 : cnt ≤ m1 := hcnt ▸ Nat.min_le_right _ _
  have hc2 : cnt ≤ m2 := hcnt ▸ Nat.min_le_left _ _
  have hn2 : i2 * k + cnt * k ≤ ls.length * k := mul_sub_le (by omega)
  have hn1 : i * k + cnt * k ≤ ls.length * k := mul_sub_le (by omega)
  have hul2 : us.length = ls.length * k := by
    have := Nat.mul_le_mul_right k (show ls.length ≤ c by omega)
    rw [← r6, List.length_take]; exact Nat.min_eq_left (by rw [Array.length_toList (xs := cur), r5]; exact this)
  obtain ⟨cs, hcs⟩ : ∃ cs, cs = (us.drop (i2 * k)).take (cnt * k) := ⟨_, rfl⟩
  have hcl : cs.length = cnt * k := by rw [hcs, List.length_take, List.length_drop]; omega
  have hkd : ∀ l ∈ ls.drop i2, l.length = k := fun l hl => hkl l (List.mem_of_mem_drop hl)
  have hcells : Cells V ((ls.drop i2).take cnt).flatten cs := by
    rw [flat_take cnt hkd, flat_drop i2 hkl, hcs]
    exact All2.take _ (All2.drop _ r7)
  have hck : ls.length * k ≤ cur.size := by rw [r5]; exact Nat.mul_le_mul_right _ (by omega)
  have hrun := run_copy_rows (o := i * k) w ty e k g m1 c1 ⟨g, i2 * k, none⟩ m2 c2 cs (lay_slice ht) (by rw [lay_info he, hk]) (by rw [hcl, hcnt]) (fun j v hj => by
    rw [hcs, List.getElem?_take] at hj
    split at hj
    · rw [List.getElem?_drop, ← r6, List.getElem?_take] at hj
      split at hj
      · rw [show (⟨g, i2 * k, none⟩ : Addr).add j = ⟨g, i2 * k + j, none⟩ from Addr.add_mid _ _ _, cell_of_row _ _ _ _ _ _ r2, ← Array.getElem?_toList]
        exact hj
      · cases hj
    · cases hj) (fun j hj => by
    rw [cell_of_row _ _ _ _ _ _ r2]
    simp; omega) (fun j _ => by simp [World.frozen?, r2]) (cells_one hcells)
  refine ⟨_, g, i * k, cs, ?_, by rw [r1']; rfl, .inr ⟨.int .i64 cnt, rfl, fun _ => rfl⟩, fun V' hV => rowc_set hV hr0 (by rw [r1']; rfl) hcells (by simp only [List.length_append, List.length_take, List.length_drop]; omega) (fun l hl => ?_) (by omega) (by simp only [List.length_append, List.length_take, List.length_drop]; omega) ?_⟩
  · simp [execOp, e1, e2, resolve, invoke, builtin, hrun, goInt, ← hcnt]
  · rcases List.mem_append.1 hl with h | h
    · rcases List.mem_append.1 h with h | h
      · exact hkl l (List.mem_of_mem_take h)
      · exact hkd l (List.mem_of_mem_take h)
    · exact hkl l (List.mem_of_mem_drop h)
  · have h5 : ((ls.drop i2).take cnt).flatten.length = cnt * k := by rw [← hcl]; exact hcells.len
    rw [List.flatten_append, List.flatten_append, flat_take i hkl, flat_drop (i + cnt) hkl, h5, Nat.add_mul]
theorem OpT.copyK {c0 q2 κ2 cnt : Nat} {ls2 : List (List D)} (hne : κ2 ≠ κ) (hcnt : Nat.min ls2.length ls.length = cnt) (ht : lay P t = some ⟨.slice e, we, fl, z⟩ := by rfl) (he : lay P e = some le := by rfl) (hk : le.size = k := by rfl) :
    OpT P ops (mkO d (.call ⟨.builtin .copy, #[x, y], #[t, t]⟩) ty pos af) n [(x, .one (.key κ)), (y, .one (.key κ2))] [(κ2, .rowc q2 k ls2 0 c0)] [(κ, .rowc q k ls 0 c)] (iT cnt) [(κ, .rowc q k (ls.take 0 ++ (ls2.drop 0).take cnt ++ ls.drop (0 + cnt)) 0 c)] n := .wr rfl rfl rfl (fun e he => by rw [List.mem_singleton.1 he]; exact hne) fun β V w A h hr2 _ hr => by
  obtain ⟨hx, hy⟩ := in2 h
  have hr0 := hr
  obtain ⟨hkl, g, cur, us, r1, r2, r3, r4, r5, r6, r7⟩ := hr
  obtain ⟨hkl2, g2, cur2, us2, s1, s2, s3, s4, s5, s6, s7⟩ := hr2 _ (List.mem_singleton.2 rfl)
  have hxe : A.eval x = β κ := hx.1
  have hye : A.eval y = β κ2 := hy.1
  have r1' : β κ = .slice (some ⟨g, 0, none⟩) (ls.length + 0) c := r1
  have s1' : β κ2 = .slice (some ⟨g2, 0, none⟩) (ls2.length + 0) c0 := s1
  have e1 : A.eval x = .slice (some ⟨g, 0 * k, none⟩) ls.length c := by rw [hxe, r1', Nat.zero_mul]; rfl
  have e2 : A.eval y = .slice (some ⟨g2, 0 * k, none⟩) ls2.length c0 := by rw [hye, s1', Nat.zero_mul]; rfl
  have hc1 : cnt ≤ ls.length := hcnt ▸ Nat.min_le_right _ _
  have hc2 : cnt ≤ ls2.length := hcnt ▸ Nat.min_le_left _ _
  have hn2 : 0 * k + cnt * k ≤ ls2.length * k := mul_sub_le (by omega)
  have hn1 : 0 * k + cnt * k ≤ ls.length * k := mul_sub_le (by omega)
  have hul2 : us2.length = ls2.length * k := by
    have := Nat.mul_le_mul_right k (show ls2.length ≤ c0 by omega)
    rw [← s6, List.length_take]; exact Nat.min_eq_left (by rw [Array.length_toList (xs := cur2), s5]; exact this)
  obtain ⟨cs, hcs⟩ : ∃ cs, cs = (us2.drop (0 * k)).take (cnt * k) := ⟨_, rfl⟩
  have hcl : cs.length = cnt * k := by rw [hcs, List.length_take, List.length_drop]; omega
  have hkd : ∀ l ∈ ls2.drop 0, l.length = k := fun l hl => hkl2 l (List.mem_of_mem_drop hl)
  have hcells : Cells V ((ls2.drop 0).take cnt).flatten cs := by
    rw [flat_take cnt hkd, flat_drop 0 hkl2, hcs]
    exact All2.take _ (All2.drop _ s7)
  have hck : ls.length * k ≤ cur.size := by rw [r5]; exact Nat.mul_le_mul_right _ (by omega)
  have hrun := run_copy_rows (o := 0 * k) w ty e k g ls.length c ⟨g2, 0 * k, none⟩ ls2.length c0 cs (lay_slice ht) (by rw [lay_info he, hk]) (by rw [hcl, hcnt]) (fun j v hj => by
    rw [hcs, List.getElem?_take] at hj
    split at hj
    · rw [List.getElem?_drop, ← s6, List.getElem?_take] at hj
      split at hj
      · rw [show (⟨g2, 0 * k, none⟩ : Addr).add j = ⟨g2, 0 * k + j, none⟩ from Addr.add_mid _ _ _, cell_of_row _ _ _ _ _ _ s2, ← Array.getElem?_toList]
        exact hj
      · cases hj
    · cases hj) (fun j hj => by
    rw [cell_of_row _ _ _ _ _ _ r2]
    simp; omega) (fun j _ => by simp [World.frozen?, r2]) (cells_one hcells)
  refine ⟨_, g, 0 * k, cs, ?_, by rw [r1']; rfl, .inr ⟨.int .i64 cnt, rfl, fun _ => rfl⟩, fun V' hV => rowc_set hV hr0 (by rw [r1']; rfl) hcells (by simp only [List.length_append, List.length_take, List.length_drop]; omega) (fun l hl => ?_) (by omega) (by simp only [List.length_append, List.length_take, List.length_drop]; omega) ?_⟩
  · simp only [Nat.zero_mul] at hrun e1 e2
    simp [execOp, e1, e2, resolve, invoke, builtin, hrun, goInt, ← hcnt]
  · rcases List.mem_append.1 hl with h | h
    · rcases List.mem_append.1 h with h | h
      · exact hkl l (List.mem_of_mem_take h)
      · exact hkd l (List.mem_of_mem_take h)
    · exact hkl l (List.mem_of_mem_drop h)
  · have h5 : ((ls2.drop 0).take cnt).flatten.length = cnt * k := by rw [← hcl]; exact hcells.len
    rw [List.flatten_append, List.flatten_append, flat_take 0 hkl, flat_drop (0 + cnt) hkl, h5, Nat.add_mul]
theorem OpT.lenC (ht : lay P t = some ⟨.slice e, we, fl, z⟩ := by rfl) : OpT P ops (mkO d (.call ⟨.builtin .len, #[x], #[t]⟩) ty pos af) n [(x, .one (.key κ))] [(κ, .rowc q k ls m c)] [] (iT ((ls.length + m : Nat) : Int)) [] n := .rd rfl nofun fun β V w A h hr => by
  have e0 : A.eval x = β κ := (in1 h).1
  obtain ⟨hkl, g, cur, us, h1, h2, h3, _⟩ := hr
  have h1 : β κ = .slice (some ⟨g, 0, none⟩) (ls.length + m) c := h1
  refine ⟨.int .i64 ((ls.length + m : Nat) : Int), ?_, rfl⟩
  simp [execOp, e0, h1, resolve, invoke, builtin, Builtin.len_, Sem.run_bind, run_underlying (lay_slice ht) w, goInt]
end
end Go.Sv
namespace Go.Proofs.YtelkpflpgpdkdaaGreatDoor
open Go.Sv
set_option maxRecDepth 10000
open Go.RowKit Go.Lib Go.Shelf Go.Sort
theorem Con.rawT {P : Program} {f : FuncId} {args : List T} {out : T} (hk : out.keys = []) (hE : Enters P f) (h : ∀ (β : Env) (S : List Nat) (w : World) (vs : Array Value), All2 (fun t v => t.is β (hide S w) v) args vs.toList → Gl P (hide S w) → Calls P f vs w fun e w' => ∃ v, e = .returned v ∧ Kept [] w w' ∧ out.is β (hide S w') v) : ∀ n, Con P f args [] n out [] n :=
  Con.up hk ⟨hE, Nat.le_refl _, fun β S w vs hv hO => (h β S w vs hv hO.gl).mono fun _ w' ⟨v, h1, h2, h3⟩ => ⟨v, β, h1, h2, fun _ _ => rfl, bel0 hk, h3, ⟨nofun, nofun, nofun, fun b hb => Nat.lt_of_lt_of_le (hO.lt b hb) h2.size⟩, fun b hb => by cases hb⟩⟩
theorem mulC (x y : Nat) (h : x ≤ 1000 ∧ y ≤ 1000) : ∀ n, Con Tryz.prog 57 [dT (lit (.int .u64 (x : Int))), dT (lit (.int .u64 (y : Int)))] [] n (.tup [.one (.d (lit (.int .u64 0))), .one (.d (lit (.int .u64 ((x * y : Nat) : Int))))]) [] n :=
  Con.rawT rfl (enters_of Tryz.func57 (by kernel_rfl) rfl) fun β S w vs hv hG => by
  obtain ⟨vs⟩ := vs
  match vs, hv with
  | [u, v], h' =>
    have e : u = .int .u64 x := h'.1
    have e2 : v = .int .u64 y := h'.2.1
    subst e e2
    have hb : x * y ≤ 1000 * 1000 := Nat.mul_le_mul h.1 h.2
    refine (Any.bits_Mul Tryz.lays212 x y (by omega) (by omega) w).mono ?_
    rintro e w' ⟨rfl, rfl⟩
    refine ⟨_, rfl, Kept.refl _ _, _, rfl, ?_⟩
    rw [Nat.div_eq_of_lt (by omega), Nat.mod_eq_of_lt (by omega)]
    exact ⟨rfl, rfl, trivial⟩
theorem infoI : (Tryz.prog.info? 3).map (fun i => (i.zero, i.size, i.bytes)) = some (some (.int .i64 0), 1, 8) := by kernel_rfl
theorem OpT.makeI {ops : Array Oper} {d : Tmp} {ty : TypeId} {pos : String} {af : Array Edge} {n m : Nat} {x : Operand} (hm : m ≤ 1000000) : OpT Tryz.prog ops (mkO (some d) (.makeSlice 24 x x) ty pos af) n [(x, iT (m : Int))] [] [] (.one (.key n)) [(n, .row 3 1 (List.replicate m [i64 0]))] (n + 1) :=
  .newR rfl (fun l hl => by rw [(List.mem_replicate.1 hl).2]; rfl) fun β V w a hV hin => by
    have e1 := hin _ (List.mem_singleton.2 rfl)
    cases h : Tryz.prog.info? 3 with
    | none => have := infoI; rw [h] at this; cases this
    | some i =>
    have hi := infoI
    rw [h] at hi
    simp only [Option.map_some, Option.some.injEq, Prod.mk.injEq] at hi
    obtain ⟨hz, hs, hb⟩ := hi
    have hr := run_makeSlice (P := Tryz.prog) (w := w) 24 3 i _ Tryz.underlying24 h hz .i64 .i64 m m (by omega) (Int.le_refl _) (by rw [hs]; simp; omega) (by rw [hb]; omega) (by omega)
    have e2 : a.eval x = .int .i64 (m : Int) := e1
    have hmk : madeCells (Value.int .i64 0).cells (m * 1) = (List.replicate m (Value.int .i64 0)).toArray := by
      refine Array.ext (by simp [madeCells]) fun j h1 h2 => ?_
      simp [madeCells, Value.cells, Nat.mod_one]
    refine ⟨(List.replicate m (Value.int .i64 0)).toArray, m, ?_, by simp, by unfold maxLen; omega, by simp, ?_⟩
    · simp only [execOp, e2]
      rw [hs] at hr
      simp only [Int.toNat_natCast, hmk] at hr
      simp [hr]
    · simp only [List.length_replicate, Nat.mul_one]
      rw [List.take_of_length_le (by simp)]
      clear hr hmk e1 e2 hm hin
      induction m with
      | zero => exact trivial
      | succ m ih => exact ⟨rfl, ih⟩
/-- A row half of which is filled. -/
def halfI (n c : Nat) (a : Int) : List (List D) := List.replicate n [i64 a] ++ List.replicate (c - n) [i64 0]
theorem half_len (n c : Nat) (a : Int) (h : n ≤ c) : (halfI n c a).length = c := by rw [halfI, List.length_append, List.length_replicate, List.length_replicate]; omega
theorem half_next (n c m : Nat) (a : Int) (hm : m ≤ n) : (halfI n c a).take n ++ ((halfI n c a).drop 0).take m ++ (halfI n c a).drop (n + m) = halfI (n + m) c a := by
  unfold halfI
  rw [List.take_left' (List.length_replicate ..), List.drop_zero, List.take_append_of_le_length (by rw [List.length_replicate]; exact hm), List.take_replicate, Nat.min_eq_left hm, List.drop_append, List.drop_eq_nil_of_le (by rw [List.length_replicate]; omega), List.length_replicate, Nat.add_sub_cancel_left, List.nil_append, List.drop_replicate, List.replicate_append_replicate, Nat.sub_sub]
set_option maxHeartbeats 2000000 in
theorem repeatC (a : Int) (c : Nat) (hc : 1 ≤ c ∧ c ≤ 1000) : Con Tryz.prog 29 [.one (.key 0), iT (c : Int)] [(0, .row 3 1 [[i64 a]])] 1 (.one (.key 1)) [(1, .row 3 1 (List.replicate c [i64 a]))] 2 := by
  refine fnH Tryz.func29 Tryz.ntmps29 (h := fun S w0 β0 X => ?_)
  have s7 : Stop 7 := ⟨⟩
  refine GO ?_
  refine Ch.p (OpT.conv (k := .i64) (k' := .u64) (a := (c : Int)) (hr := by rw [IntKind.wrap_u64]; omega)) ⟨rfl, trivial⟩ ?_
  refine Ch.c (mulC 1 c ⟨by omega, by omega⟩) (r := ?_)
  rw [Nat.one_mul]
  refine GO ?_
  refine Ch.p (OpT.conv (k := .u64) (k' := .i64) (a := (c : Int)) (hr := by rw [IntKind.wrap_i64]; omega)) ⟨rfl, trivial⟩ ?_
  refine Ch.nw (OpT.makeI (m := c) (by omega)) ⟨rfl, trivial⟩ ?_
  refine GO ?_
  refine W.cap (ls := [[i64 a]]) 0 (by simp) (h := fun c0 hc0 hc1 => ?_)
  refine W.cap (ls := List.replicate c [i64 0]) 1 (by rw [List.length_replicate]; omega) (h := fun c2 hc2 hc3 => ?_)
  rw [List.length_replicate] at hc2
  clear s7
  have s8 : Stop 8 := ⟨⟩
  refine GO ?_
  refine Ch.wr1 (OpT.copyK (ls := List.replicate c [i64 0]) (ls2 := [[i64 a]]) (κ2 := 0) (cnt := 1) (by decide) (by rw [List.length_replicate]; simp only [Nat.min_def, List.length_singleton]; split <;> omega)) ⟨rfl, rfl, trivial⟩ (r := ?_)
  have e0 : (List.replicate c [i64 0]).take 0 ++ (([[i64 a]] : List (List D)).drop 0).take 1 ++ (List.replicate c [i64 0]).drop (0 + 1) = halfI 1 c a := by
    rw [halfI, List.drop_replicate]; rfl
  rw [e0]
  refine GO ?_
  clear s8
  refine W.lpG (fun n => 1 ≤ n ∧ n ≤ c) (fun n => [(8, iT (n : Int))]) [(4, _), (7, _)] (fun n => [(1, .rowc 3 1 (halfI n c a) 0 c2)]) [] (fun n => c - n) 1 (⟨Nat.le_refl _, hc.1⟩) (round := fun n hn => ?_)
  have hl := half_len n c a hn.2
  by_cases hlt : n < c
  · refine GO ?_
    refine Ch.r (OpT.lenC (ls := halfI n c a) (m := 0) (c := c2)) ⟨rfl, trivial⟩ rfl ?_
    rw [show (halfI n c a).length + 0 = c by rw [hl]; rfl]
    refine GO ?_
    refine Ch.r (OpT.fromC (ls := halfI n c a) (m := 0) (c := c2) (i := n) (by omega)) ⟨rfl, rfl, trivial⟩ rfl ?_
    refine GO ?_
    refine Ch.r (OpT.uptoC (ls := halfI n c a) (m := 0) (c := c2) (i := n) (by omega)) ⟨rfl, rfl, trivial⟩ rfl ?_
    obtain ⟨m, hm⟩ : ∃ m, m = Nat.min n (c - n) := ⟨_, rfl⟩
    have hmn : m ≤ n ∧ m ≤ c - n ∧ 1 ≤ m := by simp only [Nat.min_def] at hm; split at hm <;> omega
    refine Ch.wr0 (OpT.copyV (ls := halfI n c a) (m := 0) (c := c2) (i := n) (i2 := 0) (m1 := (halfI n c a).length + 0 - n) (m2 := n) (c1 := c2 - n) (c2 := c2) (cnt := m) (by omega) (by omega) (by rw [hl, hm, Nat.add_zero])) ⟨rfl, rfl, trivial⟩ (r := ?_)
    rw [half_next n c m a hmn.1]
    refine GO ?_
    exact W.ag (n + m) (⟨by omega, by omega⟩) (by omega)
  · obtain rfl : n = c := by omega
    rw [show halfI n n a = List.replicate n [i64 a] by rw [halfI, Nat.sub_self]; simp] at *
    refine GO ?_
    refine Ch.r (OpT.lenC (ls := List.replicate n [i64 a]) (m := 0) (c := c2)) ⟨rfl, trivial⟩ rfl ?_
    rw [List.length_replicate, Nat.add_zero]
    refine GO ?_
    refine W.uncap 1 (h := ?_)
    exact finH
def minI (a b : Int) : Int := if b < a then b else a
def newN (k : Int) : Nat := (if minI k 4 > 1 then minI k 4 else 1).toNat
def newE (k : Int) : PlanP := ⟨0, 0, List.replicate (newN k) (-1), []⟩
theorem newN_le (k : Int) : 1 ≤ newN k ∧ newN k ≤ 4 := by unfold newN minI; split <;> split <;> omega
def planN (l : List Int) : List D := [i64 0, i64 0, intsD l, nilD]
theorem nil_plan (l : List Int) (w : World) (us : List Value) (h : Cells w (planN l) us) : Cells w (planF ⟨0, 0, l, []⟩) us := by
  match us, h with
  | [_, _, _, _], h => exact ⟨h.1, h.2.1, h.2.2.1, nil_sl 3 _ _ h.2.2.2.1, trivial⟩
set_option maxHeartbeats 1000000 in
theorem snewC (k : Int) : ∀ n, Con Tryz.prog 6 [iT k] [] n (agD (planF (newE k))) [] n := by
  refine fnI Tryz.func6 Tryz.ntmps6 (h := fun S w0 β0 X => ?_)
  obtain ⟨h1, h2⟩ := newN_le k
  have hr := repeatC (-1) (newN k) ⟨h1, by omega⟩
  rw [show List.replicate (newN k) [i64 (-1)] = (List.replicate (newN k) (-1 : Int)).map (fun s => [i64 s]) by rw [List.map_replicate]] at hr
  have st : Stop 1 := ⟨⟩
  refine GO ?_
  refine W.reg (by rfl) ?_
  clear st
  refine Ch.nw (OpT.slice1O (l := [i64 (-1)]) (hs := .one _)) ⟨rfl, trivial⟩ ?_
  refine GO ?_
  refine Ch.p OpT.min ⟨rfl, rfl, trivial⟩ ?_
  refine GO ?_
  rw [show (if (if (4 : Int) < k then 4 else k) > 1 then (if (4 : Int) < k then 4 else k) else 1) = ((newN k : Nat) : Int) by unfold newN minI; split <;> split <;> omega]
  refine Ch.ch [1] hr (r := ?_)
  refine GO ?_
  refine W.frz 2 (h := ?_)
  rw [newE]
  refine W.boxL 0 (planN (List.replicate (newN k) (-1))) (planF ⟨0, 0, List.replicate (newN k) (-1), []⟩) (nil_plan _) (h := ?_)
  exact fin1
end Go.Proofs.YtelkpflpgpdkdaaGreatDoor
namespace Go.Proofs.YtelkpflpgpdkdaaGreatDoor
open Go.Sv
set_option maxRecDepth 10000
open Go.RowKit
theorem take_next {α : Type} {l m : List α} {k : Nat} {x y : α} (hx : l[k]? = some x) (hy : m[k]? = some y) (h : l.take k = m.take k) (hxy : x = y) : l.take (k + 1) = m.take (k + 1) := by rw [List.take_add_one, List.take_add_one, hx, hy, h, hxy]
set_option maxHeartbeats 1000000 in
theorem rIntsC (l m : List Int) (hl : l.length ≤ 1000000) : ∀ n, Con Tryz.prog 28 [dT (intsD l), dT (intsD m)] [] n (bT (decide (l = m))) [] n := by
  refine fnI Tryz.func28 Tryz.ntmps28 (h := fun S w0 β0 X => ?_)
  refine GO ?_
  refine W.cond rfl (fun h => ?_) (fun h => ?_)
  · have h : ¬ l.length = m.length := by simp at h; omega
    refine GO ?_
    exact finB (he := by simp; intro e; exact h (by rw [e]))
  have h : l.length = m.length := by simp at h; omega
  refine GO ?_
  refine W.lp (fun k => k ≤ l.length ∧ l.take k = m.take k) (fun k => [(5, iT (k : Int))]) [(0, _), (1, _)] (l.length - ·) 0 (⟨Nat.zero_le _, rfl⟩) (round := fun k hk => ?_)
  by_cases hlt : k < l.length
  · have hx := List.getElem?_eq_getElem hlt
    generalize l[k] = x at hx
    have hlm : k < m.length := by omega
    have hy := List.getElem?_eq_getElem hlm
    generalize m[k] = y at hy
    refine GO ?_
    refine W.cond rfl (fun h1 => ?_) (fun h1 => ?_)
    · have h1 : ¬ x = y := by simpa using h1
      refine GO ?_
      exact finB (he := by
        symm; apply decide_eq_false; rintro rfl
        rw [hx] at hy; cases hy; exact h1 rfl)
    · have h1 : x = y := by simpa using h1
      refine GO ?_
      exact W.ag (k + 1) (⟨hlt, take_next hx hy hk.2 h1⟩) (by omega)
  · obtain rfl : k = l.length := by omega
    refine GO ?_
    exact finB (he := by
      symm; apply decide_eq_true
      have := hk.2
      rwa [List.take_length, h, List.take_length] at this)
theorem stepIs_eq (a b : StepP) : stepIs a b = true ↔ a = b := by
  obtain ⟨a0, a1, a2⟩ := a
  obtain ⟨b0, b1, b2⟩ := b
  simp [stepIs]
instance : DecidableEq StepP := fun a b => decidable_of_iff _ (stepIs_eq a b)
def samePlan (p q : PlanP) : Bool := decide (p.epoch = q.epoch) && (decide (p.seq = q.seq) && (decide (p.stages = q.stages) && decide (p.log = q.log)))
set_option maxHeartbeats 2000000 in
theorem rsameC (p q : PlanP) (hl : p.stages.length ≤ 1000000) (hl2 : p.log.length ≤ 1000000) : ∀ n, Con Tryz.prog 10 [agD (planF p), agD (planF q)] [] n (bT (samePlan p q)) [] n := by
  refine fnI Tryz.func10 Tryz.ntmps10 (h := fun S w0 β0 X => ?_)
  have hi := rIntsC p.stages q.stages hl
  have hsm := (rfl : samePlan p q = samePlan p q)
  conv at hsm => rhs; rw [samePlan]
  generalize decide (p.stages = q.stages) = si at *
  refine GO ?_
  refine Ch.gc (hc := fun _ => hi) (r := ?_)
  refine GO ?_
  refine W.cond rfl (fun h => ?_) (fun h => ?_)
  · refine GO ?_
    exact finB (he := by
      rw [hsm]
      by_cases e : p.log = q.log
      · have := congrArg List.length e
        grind
      · grind)
  have h : p.epoch = q.epoch ∧ p.seq = q.seq ∧ si = true ∧ p.log.length = q.log.length := by grind
  refine GO ?_
  refine W.lpG (fun k => k ≤ p.log.length ∧ p.log.take k = q.log.take k) (fun k => [(5, iT (k : Int))]) [(2, _), (3, _)] (fun _ => []) [(0, _), (1, _)] (p.log.length - ·) 0 (⟨Nat.zero_le _, rfl⟩) (round := fun k hk => ?_)
  by_cases hlt : k < p.log.length
  · have hx := List.getElem?_eq_getElem hlt
    generalize p.log[k] = x at hx
    have hlm : k < q.log.length := by omega
    have hy := List.getElem?_eq_getElem hlm
    generalize q.log[k] = y at hy
    refine GO ?_
    refine Ch.p (OpT.eqAg (A := stepI x) (B := stepI y) stepGuard (step_neq x y)) ⟨rfl, rfl, trivial⟩ ?_
    refine GO ?_
    refine W.cond rfl (fun h1 => ?_) (fun h1 => ?_)
    · have h1 : ¬ x = y := fun e => by
        have := (stepIs_eq x y).2 e
        rw [this] at h1; cases h1
      refine GO ?_
      exact finB (he := by
        rw [hsm]
        have : decide (p.log = q.log) = false := by
          apply decide_eq_false; intro e
          rw [e, hy] at hx; cases hx; exact h1 rfl
        rw [this]; simp)
    · have h1 : x = y := (stepIs_eq x y).1 (by simpa using h1)
      refine GO ?_
      exact W.ag (k + 1) (⟨hlt, take_next hx hy hk.2 h1⟩) (by omega)
  · obtain rfl : k = p.log.length := by omega
    have he : p.log = q.log := by
      have := hk.2
      rwa [List.take_length, h.2.2.2, List.take_length] at this
    refine GO ?_
    exact finB (he := by rw [hsm, h.1, h.2.1, h.2.2.1, he]; simp)
end Go.Proofs.YtelkpflpgpdkdaaGreatDoor
namespace Go.Proofs.YtelkpflpgpdkdaaGreatDoor
open Go.Sv
set_option maxRecDepth 10000
open Go.RowKit
/-- Each release at a stage was one at the stage ahead, ahead of that. -/
def LogChn (l : List StepP) : Prop := ∀ (i : Nat) (s : StepP), l[i]? = some s → s.stage = 0 ∨ ∃ k : Nat, k < i ∧ l[k]? = some ⟨s.epoch, s.stage - 1, s.commit⟩
/-- What stands at a stage was released there, in this epoch. -/
def Served (p : PlanP) : Prop := ∀ (k : Nat) (c : Int), p.stages[k]? = some c → 0 ≤ c → (⟨p.epoch, k, c⟩ : StepP) ∈ p.log
structure PInv (p : PlanP) : Prop where
  right : planRight p = true
  chain : LogChn p.log
  served : Served p
theorem LogChn.snoc {l : List StepP} {s : StepP} (h : LogChn l) (hs : s.stage = 0 ∨ (⟨s.epoch, s.stage - 1, s.commit⟩ : StepP) ∈ l) : LogChn (l ++ [s]) := fun i t ht => by
  by_cases hi : i < l.length
  · rw [List.getElem?_append_left hi] at ht
    refine (h i t ht).imp id fun ⟨k, hk, e⟩ => ⟨k, hk, ?_⟩
    rw [List.getElem?_append_left (by omega)]; exact e
  · rw [List.getElem?_append_right (by omega)] at ht
    have hi2 : i = l.length := by
      have := (List.getElem?_eq_some_iff.1 ht).1
      simp at this; omega
    subst hi2
    rw [Nat.sub_self] at ht
    simp at ht
    subst ht
    refine hs.imp id fun hm => ?_
    obtain ⟨k, hk⟩ := List.mem_iff_getElem?.1 hm
    have hkl := (List.getElem?_eq_some_iff.1 hk).1
    exact ⟨k, hkl, by rw [List.getElem?_append_left hkl]; exact hk⟩
theorem right_mk {p : PlanP} (h1 : 1 ≤ p.stages.length) (h2 : p.stages.length ≤ 4) (h3 : p.log.length ≤ 256) (h4 : 0 ≤ p.epoch) (h5 : p.epoch ≤ mostN) (h6 : 0 ≤ p.seq) (h7 : p.seq ≤ mostN) (h8 : ∀ x ∈ p.stages, -1 ≤ x) (h9 : ∀ s ∈ p.log, stepBad p s = false) : planRight p = true := by
  simp only [planRight, betwE, Bool.and_eq_true, decide_eq_true_eq, List.all_eq_true, Bool.not_eq_true', List.any_eq_false]
  exact ⟨⟨⟨⟨⟨⟨h1, h2⟩, h3⟩, h4, h5⟩, h6, h7⟩, h8⟩, fun s hs => by rw [h9 s hs]; simp⟩
theorem bad_of {p : PlanP} {s : StepP} : stepBad p s = false ↔ 0 ≤ s.epoch ∧ s.epoch ≤ p.epoch ∧ 0 ≤ s.stage ∧ s.stage < p.stages.length ∧ 0 ≤ s.commit := by
  simp only [stepBad, betwE, Bool.or_eq_false_iff, Bool.not_eq_false', Bool.and_eq_true, decide_eq_true_eq, decide_eq_false_iff_not]
  omega
theorem PInv.step {p : PlanP} (h : PInv p) {k : Nat} {c : Int} (hk : k < p.stages.length) (hc : 0 ≤ c) (hm : k = 0 ∨ (⟨p.epoch, (k : Int) - 1, c⟩ : StepP) ∈ p.log) :
    ((stepE p k c).2 ≠ 0 → (stepE p k c).1 = p) ∧ ((stepE p k c).2 = 0 → (stepE p k c).1.seq = p.seq + 1 ∧ (stepE p k c).1.epoch = p.epoch) ∧ PInv (stepE p k c).1 := by
  obtain ⟨h1, h2, h3, h4, h5, h6, h7, h8, h9⟩ := planR_parts h.right
  unfold stepE
  by_cases hr : roomE p 1 ≠ 0
  · rw [if_pos hr]; exact ⟨fun _ => rfl, fun e => absurd e hr, h⟩
  rw [if_neg hr]
  have hr2 : (p.log.length : Int) + 1 ≤ 256 ∧ p.seq < mostN := by
    unfold roomE at hr
    split at hr
    · exact absurd (fun e => by cases e) hr
    · omega
  refine ⟨fun e => absurd rfl e, fun _ => ⟨rfl, rfl⟩, ?_, ?_, ?_⟩
  · refine right_mk (by simpa using h1) (by simpa using h2) (by simp; omega) h4 h5 (by simp only; omega) (by simp only; omega) (fun x hx => ?_) fun s hs => ?_
    · rcases List.mem_or_eq_of_mem_set hx with hx | rfl
      · exact h8 x hx
      · omega
    · rw [bad_of]
      simp only [List.length_set]
      rcases List.mem_append.1 hs with hs | hs
      · exact bad_of.1 (h9 s hs)
      · rw [List.mem_singleton.1 hs]; simp only; omega
  · refine h.chain.snoc ?_
    rcases hm with rfl | hm
    · exact .inl rfl
    · exact .inr hm
  · intro j d hj hd
    simp only at hj ⊢
    by_cases hjk : k = j
    · subst hjk
      rw [List.getElem?_set_self hk] at hj
      cases hj
      exact List.mem_append_right _ (List.mem_singleton.2 rfl)
    · rw [List.getElem?_set_ne hjk] at hj
      exact List.mem_append_left _ (h.served j d hj hd)
theorem puts_form (c : Int) (p : PlanP) : ∀ n, n ≤ p.stages.length → putsE c n p = ⟨p.epoch, p.seq, List.replicate n c ++ p.stages.drop n, p.log ++ (List.range n).map fun k : Nat => ⟨p.epoch, k, c⟩⟩
  | 0, _ => by simp [putsE]
  | n + 1, hn => by
    rw [putsE, puts_form c p n (by omega), putE]
    have e1 : (List.replicate n c ++ p.stages.drop n).set n c = List.replicate (n + 1) c ++ p.stages.drop (n + 1) := by
      rw [List.set_append_right _ _ (by simp), List.length_replicate, Nat.sub_self, List.drop_eq_getElem_cons (by omega), List.set_cons_zero, List.replicate_succ', List.append_assoc]; rfl
    simp only [e1, List.range_succ, List.map_append, List.map_cons, List.map_nil, List.append_assoc]
/-- What one call comes to. -/
def callE (p : PlanP) (x y z : Int) : PlanP × Int := if x = 0 then relE p z else if x = 1 ∨ x = 2 then proE p y 1 1 else rollE p z
structure CallOk (p : PlanP) (x : Int) (q : PlanP × Int) : Prop where
  same : q.2 ≠ 0 → q.1 = p
  seq : q.2 = 0 → q.1.seq = p.seq + 1
  up : q.2 = 0 → x = 3 → q.1.epoch = p.epoch + 1
  stay : q.2 = 0 → x ≠ 3 → q.1.epoch = p.epoch
  inv : PInv q.1
theorem roll_ok {p : PlanP} (h : PInv p) (z : Int) : CallOk p 3 (rollE p z) := by
  obtain ⟨h1, h2, h3, h4, h5, h6, h7, h8, h9⟩ := planR_parts h.right
  unfold rollE
  rw [if_neg (by rw [h.right]; simp)]
  by_cases ha : (p.log.any fun s => decide (s.commit = z)) = false
  · rw [if_pos ha]; exact ⟨fun _ => rfl, fun e => (by cases e), fun e => (by cases e), fun e => (by cases e), h⟩
  rw [if_neg ha]
  by_cases hr : mostN ≤ p.epoch ∨ roomE p p.stages.length ≠ 0
  · rw [if_pos hr]; exact ⟨fun _ => rfl, fun e => (by cases e), fun e => (by cases e), fun e => (by cases e), h⟩
  rw [if_neg hr]
  have hr2 : p.epoch < mostN ∧ (p.log.length : Int) + p.stages.length ≤ 256 ∧ p.seq < mostN := by
    rw [not_or] at hr
    obtain ⟨r1, r2⟩ := hr
    unfold roomE at r2
    split at r2
    · exact absurd (fun e => by cases e) r2
    · omega
  have hz : 0 ≤ z := by
    obtain ⟨s, hs, e⟩ := List.any_eq_true.1 (Bool.of_not_eq_false ha)
    have := bad_of.1 (h9 s hs)
    have e : s.commit = z := by simpa using e
    omega
  have hf := puts_form z (upP p) p.stages.length (Nat.le_refl _)
  rw [show (upP p).stages = p.stages from rfl, List.drop_length, List.append_nil] at hf
  rw [hf]
  refine ⟨fun e => absurd rfl e, fun _ => rfl, fun _ _ => rfl, fun _ e => absurd rfl e, ?_, ?_, ?_⟩
  · refine right_mk (by simpa using h1) (by simpa using h2) (by simp [upP]; omega) (by simp only [upP]; omega) (by simp only [upP]; omega) (by simp only [upP]; omega) (by simp only [upP]; omega) (fun x hx => ?_) fun s hs => ?_
    · rw [(List.mem_replicate.1 hx).2]; omega
    · rw [bad_of]
      simp only [List.length_replicate, upP]
      rcases List.mem_append.1 hs with hs | hs
      · have := bad_of.1 (h9 s hs); omega
      · obtain ⟨k, hk, rfl⟩ := List.mem_map.1 hs
        have := List.mem_range.1 hk
        simp only [upP]; omega
  · have key : ∀ n, LogChn (p.log ++ (List.range n).map fun k : Nat => ⟨p.epoch + 1, k, z⟩) := fun n => by
      induction n with
      | zero => simpa using h.chain
      | succ n ih =>
        rw [List.range_succ, List.map_append, ← List.append_assoc]
        refine ih.snoc ?_
        cases n with
        | zero => exact .inl rfl
        | succ n =>
          refine .inr (List.mem_append_right _ (List.mem_map.2 ⟨n, List.mem_range.2 (by omega), ?_⟩))
          simp only [StepP.mk.injEq, true_and, and_true]; omega
    exact key _
  · intro k c hk hc
    simp only [upP] at hk ⊢
    obtain ⟨hkl, e⟩ := List.getElem?_eq_some_iff.1 hk
    rw [List.getElem_replicate] at e
    subst e
    exact List.mem_append_right _ (List.mem_map.2 ⟨k, List.mem_range.2 (by simpa using hkl), rfl⟩)
theorem rel_ok {p : PlanP} (h : PInv p) (z : Int) : CallOk p 0 (relE p z) := by
  obtain ⟨h1, _⟩ := planR_parts h.right
  unfold relE
  by_cases hz : planRight p = false ∨ z < 0
  · rw [if_pos hz]; exact ⟨fun _ => rfl, fun e => (by cases e), fun e => (by cases e), fun e => (by cases e), h⟩
  rw [if_neg hz]
  obtain ⟨s1, s2, s3⟩ := h.step (k := 0) (c := z) (by omega) (by omega) (.inl rfl)
  exact ⟨s1, fun e => (s2 e).1, fun _ e => (by cases e), fun e _ => (s2 e).2, s3⟩
theorem pro_ok {p : PlanP} (h : PInv p) (y : Int) {x : Int} (hx : x ≠ 3) : CallOk p x (proE p y 1 1) := by
  unfold proE
  by_cases hy : planRight p = false ∨ betwE y ((p.stages.length : Int) - 2) = false
  · rw [if_pos hy]; exact ⟨fun _ => rfl, fun e => (by cases e), fun e => (by cases e), fun e => (by cases e), h⟩
  rw [if_neg hy]
  have hy2 : 0 ≤ y ∧ y ≤ (p.stages.length : Int) - 2 := by
    rw [not_or] at hy
    have := Bool.of_not_eq_false hy.2
    simpa [betwE] using this
  by_cases hs : p.stages.getD y.toNat 0 < 0
  · rw [if_pos hs]; exact ⟨fun _ => rfl, fun e => (by cases e), fun e => (by cases e), fun e => (by cases e), h⟩
  rw [if_neg hs, if_neg (by omega)]
  obtain ⟨k, rfl⟩ := Int.eq_ofNat_of_zero_le hy2.1
  have hkl : k < p.stages.length := by omega
  have hv := List.getElem?_eq_getElem hkl
  generalize p.stages[k] = v at hv
  rw [Int.toNat_natCast, show p.stages.getD k 0 = v by simp [hv]] at hs ⊢
  rw [show ((k : Int) + 1).toNat = k + 1 by omega]
  obtain ⟨s1, s2, s3⟩ := h.step (k := k + 1) (c := v) (by omega) (by omega) (.inr (by rw [show (((k + 1 : Nat) : Int) - 1) = (k : Int) by omega]; exact h.served k v hv (by omega)))
  exact ⟨s1, fun e => (s2 e).1, fun _ e => absurd e hx, fun e _ => (s2 e).2, s3⟩
theorem call_ok {p : PlanP} (h : PInv p) (x y z : Int) (hx : x = 0 ∨ x = 1 ∨ x = 2 ∨ x = 3) : CallOk p x (callE p x y z) := by
  unfold callE
  rcases hx with rfl | rfl | rfl | rfl
  · exact rel_ok h z
  · exact pro_ok h y (by decide)
  · exact pro_ok h y (by decide)
  · exact roll_ok h z
theorem new_inv (k : Int) : PInv (newE k) := by
  obtain ⟨h1, h2⟩ := newN_le k
  refine ⟨right_mk (by simpa [newE] using h1) (by simpa [newE] using h2) (Nat.zero_le _) (Int.le_refl _) (show (0 : Int) ≤ mostN by decide) (Int.le_refl _) (show (0 : Int) ≤ mostN by decide) (fun x hx => by rw [(List.mem_replicate.1 hx).2]; decide) (fun s hs => by cases hs), fun i s hs => by simp [newE] at hs, fun k c hk hc => ?_⟩
  have := List.mem_of_getElem? hk
  rw [(List.mem_replicate.1 this).2] at hc
  omega
end Go.Proofs.YtelkpflpgpdkdaaGreatDoor
