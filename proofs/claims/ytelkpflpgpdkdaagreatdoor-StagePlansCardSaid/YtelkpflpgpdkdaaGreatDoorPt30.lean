/- Part 30 of what StageOrder and StagePlans ask: for every input each returns true, and its input reads as it did. No condition. -/
import Derived.Test.YtelkpflpgpdkdaaGreatDoorPt25
import Derived.Test.YtelkpflpgpdkdaaGreatDoorPt27
import Derived.Test.YtelkpflpgpdkdaaGreatDoorPt28
import Derived.Test.YtelkpflpgpdkdaaGreatDoorPt29
import Derived.Lib.AppendZerosOnto
import Derived.Lib.Overlaps
import Derived.Laws.StructEq
namespace Go.Sv
open Go
open Go.RowKit
section
variable {P : Program} [Lays P] {ops : Array Oper} {n : Nat} {d : Option Tmp} {ty t : TypeId} {pos : String} {af : Array Edge} {x y : Operand} {κ q e k we j o m c : Nat} {fl : List (Nat × Nat)} {z : List ZK} {ls : List (List D)} {le : Lay}
/-- append(s[:i], make(.., zc)...), where there is no room. -/
theorem OpT.appendZ {i zc tn : Nat} {wn : Nat} {fn : List (Nat × Nat)} {zn : List ZK} (hi : i ≤ ls.length) (h0 : 0 < zc) (hg : c < i + zc) (hb : i + zc ≤ 34359738368) (ht : lay P t = some ⟨.slice e, we, fl, z⟩ := by rfl) (htn : lay P tn = some ⟨.int .i64, wn, fn, zn⟩ := by rfl) (he : lay P e = some le := by rfl) (hk : le.size = k := by rfl) (hz : le.zero.length = k := by rfl) (hk0 : Nat.blt 0 k = true := by rfl) :
    OpT P ops (mkO d (.call ⟨.builtin .append, #[x, y], #[t, tn]⟩) ty pos af) n [(x, .one (.sub κ 0 i c)), (y, iT zc)] [(κ, .rowc q k ls m c)] [] (.one (.key n)) [(n, .row e k (ls.take i ++ List.replicate zc (zeroD le.zero)))] (n + 1) :=
  ⟨Nat.le_succ n, fun β S w A K htin hbb hO hK => by
    rw [if_pos (by simp [Region.wanted])]
    obtain ⟨hκ, _, hkl, g, cur, us, r1, r2, r3, r4, r5, r6, r7⟩ := hO.is (κ, Own.rowc q k ls m c) (List.mem_cons_self ..)
    obtain ⟨hx, hy⟩ := in2 htin
    have e2 : A.eval y = .int .i64 zc := hy
    obtain ⟨b, o', hbase, e1⟩ := hx
    have r1' : β κ = .slice (some ⟨g, 0, none⟩) (ls.length + m) c := r1
    rw [r1'] at hbase
    cases hbase
    have hk0 : 0 < k := by simpa using hk0
    obtain ⟨_, inf, zv, _, hinf, ⟨hsz, hby⟩, _, hzv, hzc, _⟩ := lay_all he
    have hzs : zv.cells.size = k := by rw [← Array.length_toList, hzc, List.length_map, hz]
    have hik : i * k ≤ ls.length * k := Nat.mul_le_mul_right _ hi
    have hul : us.length = ls.length * k := by
      have := Nat.mul_le_mul_right k (show ls.length ≤ c by omega)
      rw [← r6, List.length_take]; exact Nat.min_eq_left (by rw [Array.length_toList (xs := cur), r5]; exact this)
    have hold : (Builtin.firstCells inf.size i (.slice (some ⟨g, 0, none⟩) i c)).run P w.drew = .ok (us.take (i * k)).toArray w.drew := by
      rw [hsz, hk]
      exact run_firstCells_some w.drew k i ⟨g, 0, none⟩ i c (us.take (i * k)) (by rw [List.length_take]; omega) (fun j v hj => by
        have r2' : w.drew.heap[g]? = some (.cells cur q (0, 0)) := r2
        have hadd : (⟨g, 0, none⟩ : Addr).add j = ⟨g, j, none⟩ := by have := Addr.add_mid g 0 j; rwa [Nat.zero_add] at this
        rw [hadd, cell_of_row _ _ _ _ _ _ r2']
        rw [List.getElem?_take] at hj
        split at hj
        · rw [← r6, List.getElem?_take] at hj
          split at hj
          · rw [← Array.getElem?_toList]; exact hj
          · cases hj
        · cases hj)
    obtain ⟨G, hG⟩ : ∃ G, G = grownCap w (i + zc) c e := ⟨_, rfl⟩
    have hGn : i + zc ≤ G := by rw [hG]; exact grownCap_ge w _ _ _
    have hGm : G ≤ maxLen := by rw [hG]; exact grownCap_le_maxLen w (i + zc) c e (by unfold maxLen; omega)
    have hnext : Builtin.nextslicecap (i + zc) c * inf.bytes ≤ 281474976710656 := growslice_fits hg (Nat.le_trans (Nat.mul_le_mul hb hby) (by decide))
    have hrun := Lib.run_append_grow_zeros w t tn ty e inf zv .i64 .i64 (lay_slice ht) (lay_int htn) hinf hzv (some ⟨g, 0, none⟩) i c (us.take (i * k)) hold zc h0 (by rw [hsz, hk]; exact hk0) hg (by omega) (Nat.le_trans (Nat.mul_le_mul (Nat.le_trans (Nat.le_add_left _ _) hb) hby) (by decide)) hnext
    rw [← hG] at hrun
    obtain ⟨ROW, hROW⟩ : ∃ ROW : Array Value, ROW = (us.take (i * k)).toArray ++ Builtin.zeroCells zv.cells zc ++ Builtin.zeroCells zv.cells (G - (i + zc)) := ⟨_, rfl⟩
    rw [← hROW] at hrun
    have hkept : Kept [] w (w.drew.alloc (.cells ROW e)) := ⟨rfl, rfl, rfl, Nat.le_of_lt (by show w.heap.size < (w.heap.push _).size; rw [Array.size_push]; exact Nat.lt_succ_self _), fun k hk _ => Below.heap_alloc w.drew _ _ hk⟩
    have hnew : (w.drew.alloc (.cells ROW e)).heap[w.heap.size]? = some (.cells ROW e (0, 0)) := heap_alloc_new w.drew _
    have hRs : ROW.size = G * k := by
      rw [hROW]
      simp only [Array.size_append, List.size_toArray, List.length_take, hul, size_zeroCells, hzs]
      rw [Nat.min_eq_left hik, ← Nat.add_mul, ← Nat.add_mul]; congr 1; omega
    have hll : (ls.take i ++ List.replicate zc (zeroD le.zero)).length = i + zc := by rw [List.length_append, List.length_take, List.length_replicate]; omega
    have hzl : (zeroD le.zero).length = k := by rw [zeroD, List.length_map, hz]
    have hRt : ROW.toList.take ((i + zc) * k) = us.take (i * k) ++ (Builtin.zeroCells zv.cells zc).toList := by
      rw [hROW, Array.toList_append, Array.toList_append, List.take_append_of_le_length, List.take_of_length_le]
      all_goals simp only [List.length_append, List.length_take, hul, Array.length_toList, size_zeroCells, hzs]
      all_goals rw [Nat.min_eq_left hik, Nat.add_mul]
      all_goals exact Nat.le_refl _
    unfold Oper.wp
    rw [show (execOp A.eval (mkO d (.call ⟨.builtin .append, #[x, y], #[t, tn]⟩) ty pos af)).run P w = .ok (.value (.slice (some ⟨w.heap.size, 0, none⟩) (i + zc) G)) (w.drew.alloc (.cells ROW e)) by
      simp [execOp, e1, e2, resolve, invoke, builtin, hrun]]
    obtain ⟨β', hβ'⟩ : ∃ β' : Env, β' = fun κ => if κ = n then .slice (some ⟨w.heap.size, 0, none⟩) (i + zc) G else β κ := ⟨_, rfl⟩
    have hn : β' n = .slice (some ⟨w.heap.size, 0, none⟩) (i + zc) G := by rw [hβ']; exact if_pos rfl
    have hlt : ∀ κ, κ < n → β' κ = β κ := fun κ hκ => by rw [hβ']; exact if_neg (by omega)
    have hκ' : β' κ = .slice (some ⟨g, 0, none⟩) (ls.length + m) c := (hlt κ hκ).trans r1'
    have hglt : g < w.heap.size := (Array.getElem?_eq_some_iff.1 r2).1
    have hbl : blks β' ([(κ, Own.rowc q k ls m c)] ++ [(n, Own.row e k (ls.take i ++ List.replicate zc (zeroD le.zero)))]) = [g, w.heap.size] := by simp [blks, hn, hκ', blk]
    have hbl0 : blks β ([(κ, Own.rowc q k ls m c)] ++ []) = [g] := by simp [blks, r1', blk]
    have hV : Sub (View β ([(κ, Own.rowc q k ls m c)] ++ []) S w) (View β' ([(κ, Own.rowc q k ls m c)] ++ [(n, Own.row e k (ls.take i ++ List.replicate zc (zeroD le.zero)))]) S (w.drew.alloc (.cells ROW e))) := by
      unfold View
      rw [hbl, hbl0]
      refine hide_sub hkept fun b hb hns => ⟨by simp, fun hm => ?_⟩
      rcases List.mem_append.1 hm with h | h
      · rcases List.mem_cons.1 h with h | h
        · exact hns (List.mem_append_left _ (List.mem_singleton.2 h))
        · rw [List.mem_singleton.1 h] at hb; omega
      · exact hns (List.mem_append_right _ h)
    refine hK _ β' _ hkept hlt ?_ ⟨hn.symm, rfl⟩ ⟨fun f hf => ?_, fun f hf f' hf' hne b h1 h2 => ?_, fun b hm => ?_, fun b hb => ?_⟩ fun b hm => ?_
    · intro κ hκ
      rw [List.mem_singleton.1 hκ]
      exact Nat.lt_succ_self n
    · rcases List.mem_append.1 hf with hf | hf
      · rw [List.mem_singleton.1 hf]
        refine ⟨Nat.lt_succ_of_lt hκ, nofun, hkl, g, cur, us, hκ', ?_, r3, r4, r5, r6, r7.mono hV⟩
        exact hkept.heap (by simp) r2
      · rw [List.mem_singleton.1 hf]
        refine ⟨Nat.lt_succ_self n, nofun, fun l hl => ?_, .inr ⟨w.heap.size, G, ROW, _, by rw [hll]; exact hn, hnew, by rw [hll]; exact hGn, hGm, hRs, rfl, ?_⟩⟩
        · rcases List.mem_append.1 hl with h | h
          · exact hkl l (List.mem_of_mem_take h)
          · rw [(List.mem_replicate.1 h).2]; exact hzl
        · rw [hll, hRt, List.flatten_append, flat_take i hkl]
          refine All2.append (All2.take _ (r7.mono hV)) ?_
          rw [zero_rep _ _ (by omega), hzc]
          exact rep_cells (zeroD_cells _) zc
    · have two : ∀ f ∈ [(κ, Own.rowc q k ls m c)] ++ [(n, Own.row e k (ls.take i ++ List.replicate zc (zeroD le.zero)))], (f.1 = κ ∧ blk (β' f.1) = some g) ∨ (f.1 = n ∧ blk (β' f.1) = some w.heap.size) := fun f hf => by
        rcases List.mem_append.1 hf with hf | hf
        · rw [List.mem_singleton.1 hf]; exact .inl ⟨rfl, by show blk (β' κ) = _; rw [hκ']; rfl⟩
        · rw [List.mem_singleton.1 hf]; exact .inr ⟨rfl, by show blk (β' n) = _; rw [hn]; rfl⟩
      rcases two f hf with ⟨a1, a2⟩ | ⟨a1, a2⟩ <;> rcases two f' hf' with ⟨b1, b2⟩ | ⟨b1, b2⟩
      · exact hne (a1.trans b1.symm)
      · rw [a2] at h1; rw [b2] at h2; have := Option.some.inj (h1.trans h2.symm); omega
      · rw [a2] at h1; rw [b2] at h2; have := Option.some.inj (h1.trans h2.symm); omega
      · exact hne (a1.trans b1.symm)
    · rw [hbl] at hm
      rcases List.mem_cons.1 hm with rfl | hm
      · exact hO.out b (by rw [hbl0]; exact List.mem_singleton.2 rfl)
      · rw [List.mem_singleton.1 hm]
        exact fun hS => Nat.lt_irrefl _ (hO.lt _ hS)
    · exact Nat.lt_of_lt_of_le (hO.lt b hb) hkept.size
    · have : b = w.heap.size := by
        have : blks β' [(n, Own.row e k (ls.take i ++ List.replicate zc (zeroD le.zero)))] = [w.heap.size] := by simp [blks, hn, blk]
        rw [this] at hm
        exact List.mem_singleton.1 hm
      exact .inr (by omega)⟩
theorem OpT.fromC {i : Nat} (hi : i < ls.length + m) (ht : lay P t = some ⟨.slice e, we, fl, z⟩ := by rfl) (he : lay P e = some le := by rfl) (hk : le.size = k := by rfl) : OpT P ops (mkO d (.slice t x (some y) none none) ty pos af) n [(x, .one (.key κ)), (y, iT i)] [(κ, .rowc q k ls m c)] [] (.one (.sub κ (i * k) (ls.length + m - i) (c - i))) [] n := .rd rfl (fun q hq => List.mem_singleton.1 hq) fun β V w A h hr => by
  obtain ⟨hx, hy⟩ := in2 h
  have e2 : A.eval y = .int .i64 i := hy
  have e0 : A.eval x = β κ := hx.1
  obtain ⟨hkl, g, cur, us, h1, h2, h3, _⟩ := hr
  have h1 : β κ = .slice (some ⟨g, 0, none⟩) (ls.length + m) c := h1
  have hadd : (⟨g, 0, none⟩ : Addr).add (i * k) = ⟨g, 0 + i * k, none⟩ := Addr.add_mid g _ _
  refine ⟨.slice (some ⟨g, 0 + i * k, none⟩) (ls.length + m - i) (c - i), ?_, g, 0, by rw [h1]; rfl, rfl⟩
  simp [execOp, e0, h1, e2, Instr.sliceAt, Instr.slice, Instr.sliceBounds, Sem.run_bind, run_underlying (lay_slice ht) w, lay_size he w, hk, bound_run, hadd, show i ≤ ls.length + m by omega, show ¬ (c = i) by omega]
theorem OpT.uptoC {i : Nat} (hi : i ≤ c) (ht : lay P t = some ⟨.slice e, we, fl, z⟩ := by rfl) (he : lay P e = some le := by rfl) (hk : le.size = k := by rfl) : OpT P ops (mkO d (.slice t x none (some y) none) ty pos af) n [(x, .one (.key κ)), (y, iT i)] [(κ, .rowc q k ls m c)] [] (.one (.sub κ 0 i c)) [] n := .rd rfl (fun q hq => List.mem_singleton.1 hq) fun β V w A h hr => by
  obtain ⟨hx, hy⟩ := in2 h
  have e2 : A.eval y = .int .i64 i := hy
  have e0 : A.eval x = β κ := hx.1
  obtain ⟨hkl, g, cur, us, h1, h2, h3, _⟩ := hr
  have h1 : β κ = .slice (some ⟨g, 0, none⟩) (ls.length + m) c := h1
  have hadd : (⟨g, 0, none⟩ : Addr).add 0 = ⟨g, 0, none⟩ := by simpa using Addr.add_mid g 0 0
  refine ⟨.slice (some ⟨g, 0, none⟩) i c, ?_, g, 0, by rw [h1]; rfl, rfl⟩
  simp [execOp, e0, h1, e2, Instr.sliceAt, Instr.slice, Instr.sliceBounds, Sem.run_bind, run_underlying (lay_slice ht) w, lay_size he w, hk, bound_run, hadd, hi]
theorem OpT.capC (ht : lay P t = some ⟨.slice e, we, fl, z⟩ := by rfl) : OpT P ops (mkO d (.call ⟨.builtin .cap, #[x], #[t]⟩) ty pos af) n [(x, .one (.key κ))] [(κ, .rowc q k ls m c)] [] (iT c) [] n := .rd rfl nofun fun β V w A h hr => by
  have e0 : A.eval x = β κ := (in1 h).1
  obtain ⟨hkl, g, cur, us, h1, h2, h3, _⟩ := hr
  have h1 : β κ = .slice (some ⟨g, 0, none⟩) (ls.length + m) c := h1
  refine ⟨.int .i64 c, ?_, rfl⟩
  simp [execOp, e0, h1, resolve, invoke, builtin, Builtin.cap_, Sem.run_bind, run_underlying (lay_slice ht) w, goInt]
/-- A row of one element. -/
theorem OpT.slice1O {s : T} {l : List D} (hs : AsD s l) (ht : lay P t = some ⟨.slice e, we, fl, z⟩ := by rfl) (he : lay P e = some le := by rfl) (hk : le.size = k := by rfl) (hlk : l.length = k := by rfl) (hz : le.zero.length = k := by rfl) (hb : (Nat.blt 0 k && Nat.ble k 1000) = true := by rfl) : OpT P ops (mkO d (.buildSlice t 1 #[(0, x)]) ty pos af) n [(x, s)] [] [] (.one (.key n)) [(n, .row e k [l])] (n + 1) := .newR rfl (fun l' h => by rw [List.mem_singleton.1 h]; exact hlk) fun β V w A _ htin => by
  have hc := hs.cells (in1 htin)
  have hsz : (A.eval x).cells.size = k := by have := hc.len; simp at this; omega
  obtain ⟨zv, h1, h2⟩ := lay_zero he w
  simp only [Bool.and_eq_true, Nat.blt_eq, Nat.ble_eq] at hb
  have hzs : zv.cells.size = k := by have := congrArg List.length h2; simp at this; omega
  have hfill : Instr.fill (fun i => some (i * k, k)) ((Array.range (1 * k)).map (zv.cells[· % zv.cells.size]!)) [(0, A.eval x)] = some (A.eval x).cells := by
    unfold Instr.fill
    simp only [Nat.zero_mul, Nat.zero_add, Nat.one_mul, Array.size_map, Array.size_range]
    rw [if_neg (by simp; omega)]
    unfold Instr.fill
    have := fold_setAll 0 (A.eval x).cells.toList 0 ((Array.range k).map (zv.cells[· % zv.cells.size]!))
    simp only [Nat.zero_add] at this
    rw [← Array.foldl_toList, Array.toList_zipIdx, this]
    congr 1
    refine Array.ext_getElem? fun i => ?_
    rw [setAll_get]
    simp only [Nat.zero_le, Nat.zero_add, Array.length_toList, Array.size_map, Array.size_range, true_and, Nat.sub_zero, Array.getElem?_toList]
    by_cases hi : i < k
    · rw [if_pos (by omega)]
    · rw [if_neg (by omega), Array.getElem?_eq_none (by simp; omega), Array.getElem?_eq_none (by omega)]
  refine ⟨(A.eval x).cells, 1, ?_, Nat.le_refl _, by unfold maxLen; decide, by omega, ?_⟩
  · have hne : ¬ (1 * k > 2 ^ 24) := by omega
    have hne0 : ¬ (1 * k = 0) := by omega
    simp only [execOp, Instr.buildSlice, Sem.run_bind, run_underlying (lay_slice ht) w, Result.andThen_ok, lay_size he w, hk, hne, if_false, hne0, h1, Sem.run_pure, List.map_toArray, List.map_cons, List.map_nil, hfill, newRow, run_newObj]
    rfl
  · rw [List.length_singleton, Nat.one_mul, List.take_of_length_le (by simp; omega), List.flatten_cons, List.flatten_nil, List.append_nil]
    exact hc
/-- Two rows that do not overlap: told by a function of the model's own. -/
theorem OpT.apart {f : FuncId} {κ2 q2 m0 c0 tr : Nat} {l : List D} {tys : Array TypeId} (hf : ∀ args w, (callFunc f args).run P w = (((Extern.SlicesOverlaps.overlaps #[t, t] #[tr]) args).run P w).andThen fun v w => .ok (.value v) w) (hne : κ2 ≠ κ) (hls : 0 < ls.length) (ht : lay P t = some ⟨.slice e, we, fl, z⟩ := by rfl) (he : lay P e = some le := by rfl) (hk : le.size = k := by rfl) (hk0 : Nat.blt 0 k = true := by rfl) :
    OpT P ops (mkO d (.call ⟨.value (.func f), #[x, y], tys⟩) ty pos af) n [(x, .one (.key κ2)), (y, .one (.sub κ o m c))] [(κ, .rowc q k ls m0 c0), (κ2, .row q2 k [l])] [] (bT false) [] n :=
  ⟨Nat.le_refl n, fun β S w A K htin hb hO hK => by
    rw [if_pos (by simp [Region.wanted])]
    obtain ⟨_, _, hr1⟩ := hO.is (κ, Own.rowc q k ls m0 c0) (List.mem_cons_self ..)
    obtain ⟨_, _, hr2⟩ := hO.is (κ2, Own.row q2 k [l]) (List.mem_cons_of_mem _ (List.mem_cons_self ..))
    have hap := hO.apart (κ2, Own.row q2 k [l]) (List.mem_cons_of_mem _ (List.mem_cons_self ..)) (κ, Own.rowc q k ls m0 c0) (List.mem_cons_self ..) hne
    obtain ⟨hx, hy⟩ := in2 htin
    obtain ⟨hkl, g, cur, us, r1, r2, r3, r4, r5, r6, r7⟩ := hr1
    have r1' : β κ = .slice (some ⟨g, 0, none⟩) (ls.length + m0) c0 := r1
    rcases hr2.2 with ⟨_, h⟩ | ⟨g2, c2, cur2, us2, s1, s2, _⟩
    · cases h
    have s1' : β κ2 = .slice (some ⟨g2, 0, none⟩) 1 c2 := s1
    obtain ⟨b, o', hbase, e1⟩ := hy
    rw [r1'] at hbase
    cases hbase
    have hx1 : A.eval x = .slice (some ⟨g2, 0, none⟩) 1 c2 := hx.1.trans s1'
    have hgne : g2 ≠ g := fun h => hap g2 (by show blk (β κ2) = _; rw [s1']; rfl) (by show blk (β κ) = _; rw [r1', h]; rfl)
    have hcs : cur.size ≠ 0 := by
      have h1 : 0 < c0 := by omega
      have h2 : 0 < k := by simpa using hk0
      have := Nat.mul_pos h1 h2
      omega
    have hrun := Lib.run_overlaps_apart w t tr e (lay_slice ht) k (fun w => by rw [lay_size he w, hk]) ⟨g2, 0, none⟩ ⟨g, 0 + o, none⟩ 1 c2 m c hgne q2 q cur2.size cur.size (by simp [World.shape?, s2]) (by simp [World.shape?, r2]) hcs (by simp [World.frozen?, s2]) (by simp [World.frozen?, s2])
    unfold Oper.wp
    rw [show (execOp A.eval (mkO d (.call ⟨.value (.func f), #[x, y], tys⟩) ty pos af)).run P w = .ok (.value (.bool false)) w by
      simp only [execOp, resolve, Deferred.ofValue, invoke, Sem.run_bind, Sem.run_pure, Result.andThen_ok, Array.append_empty, Array.empty_append, Act.eval, List.map_toArray, List.map_cons, List.map_nil, hf]
      show (Sem.run P (Extern.SlicesOverlaps.overlaps #[t, t] #[tr] #[A.eval x, A.eval y]) w).andThen _ = _
      rw [hx1, e1, hrun]
      rfl]
    exact hK _ β w (Kept.refl _ _) (fun _ _ => rfl) (bel0 rfl) rfl hO.toOwns nofun⟩
end
section
variable {P : Program} {ops : Array Oper} {n : Nat} {d : Option Tmp} {op : Op} {ty : TypeId} {pos : String} {af : Array Edge} {F : FL} {H H2 : HL} {acc : List Acc} {l : List Oper} {tin : TL} {out : T} {Fin : Nat → FL → HL → List Acc → Prop} {κ κ2 : Nat} {w1 w2 o2 : Own}
/-- A row is written. -/
theorem Ch.wr0 (h : OpT P ops (mkO d op ty pos af) n tin [] [(κ, w1)] out [(κ, w2)] n) (hF : Tin F tin) (hR : Rep κ w1 w2 H H2 := by (repeat (first | exact Rep.here (by rfl) | (apply Rep.there; rfl))))
    (r : Ch P ops Fin l n (putF F d out) H2 (acc ++ [Rec.acc ⟨tin, [], [(κ, w1)], out, [(κ, w2)], n, n⟩ d])) : Ch P ops Fin (mkO d op ty pos af :: l) n F H acc :=
  .step tin [] [(κ, w1)] out [(κ, w2)] n h hF.all (fun e he => by rw [List.nil_append, List.mem_singleton] at he; rw [he]; exact hR.mem.1) H2 hR.mem.2 r
/-- A row is written, another one read. -/
theorem Ch.wr1 (h : OpT P ops (mkO d op ty pos af) n tin [(κ2, o2)] [(κ, w1)] out [(κ, w2)] n) (hF : Tin F tin) (hL : Sv.look H κ2 = some o2 := by rfl) (hR : Rep κ w1 w2 H H2 := by (repeat (first | exact Rep.here (by rfl) | (apply Rep.there; rfl))))
    (r : Ch P ops Fin l n (putF F d out) H2 (acc ++ [Rec.acc ⟨tin, [(κ2, o2)], [(κ, w1)], out, [(κ, w2)], n, n⟩ d])) : Ch P ops Fin (mkO d op ty pos af :: l) n F H acc :=
  .step tin [(κ2, o2)] [(κ, w1)] out [(κ, w2)] n h hF.all (fun e he => by
    rcases List.mem_append.1 he with he | he <;> rw [List.mem_singleton.1 he]
    · exact look_mem hL
    · exact hR.mem.1) H2 hR.mem.2 r
/-- A row gets another header. -/
theorem Ch.wk (h : OpT P ops (mkO d op ty pos af) n tin [] [(κ, w1)] out [(n, w2)] (n + 1)) (hF : Tin F tin) (hO : Out κ w1 H H2 := by (repeat (first | exact Out.here (by rfl) | (apply Out.there; rfl))))
    (r : Ch P ops Fin l (n + 1) (putF F d out) ((n, w2) :: H2) (acc ++ [Rec.acc ⟨tin, [], [(κ, w1)], out, [(n, w2)], n, n + 1⟩ d])) : Ch P ops Fin (mkO d op ty pos af :: l) n F H acc :=
  .step tin [] [(κ, w1)] out [(n, w2)] (n + 1) h hF.all (fun e he => by rw [List.nil_append, List.mem_singleton] at he; rw [he]; exact hO.mem.1) _ (OutL.upd (l' := [(n, w2)]) (.cons hO .nil)) r
/-- A new row, made of what is read of another one. -/
theorem Ch.nr (h : OpT P ops (mkO d op ty pos af) n tin [(κ2, o2)] [] out [(n, w2)] (n + 1)) (hF : Tin F tin) (hL : Sv.look H κ2 = some o2 := by rfl)
    (r : Ch P ops Fin l (n + 1) (putF F d out) ((n, w2) :: H) (acc ++ [Rec.acc ⟨tin, [(κ2, o2)], [], out, [(n, w2)], n, n + 1⟩ d])) : Ch P ops Fin (mkO d op ty pos af :: l) n F H acc :=
  .step tin [(κ2, o2)] [] out [(n, w2)] (n + 1) h hF.all (fun e he => by rw [List.append_nil, List.mem_singleton] at he; rw [he]; exact look_mem hL) _ (OutL.upd (l' := [(n, w2)]) .nil) r
/-- Two rows are read. -/
theorem Ch.r2 (h : OpT P ops (mkO d op ty pos af) n tin [(κ, w1), (κ2, o2)] [] out [] n) (hF : Tin F tin) (hL1 : Sv.look H κ = some w1 := by rfl) (hL : Sv.look H κ2 = some o2 := by rfl)
    (r : Ch P ops Fin l n (putF F d out) H (acc ++ [Rec.acc ⟨tin, [(κ, w1), (κ2, o2)], [], out, [], n, n⟩ d])) : Ch P ops Fin (mkO d op ty pos af :: l) n F H acc :=
  .step tin [(κ, w1), (κ2, o2)] [] out [] n h hF.all (fun e he => by
    rw [List.append_nil] at he
    rcases List.mem_cons.1 he with rfl | he
    · exact look_mem hL1
    · rw [List.mem_singleton.1 he]; exact look_mem hL) H (fun _ => by rw [upd_nil]) r
end
end Go.Sv
namespace Go.Sv
open Go
open Go.RowKit
inductive Gv (κ k : Nat) (ls : List (List D)) : List T → List T → Prop
  | here {l : List T} : Gv κ k ls (.one (.key κ) :: l) (dT (sl k ls) :: l)
  | there {t : T} {l m : List T} (h : Gv κ k ls l m) : Gv κ k ls (t :: l) (t :: m)
theorem Gv.is {κ k : Nat} {ls : List (List D)} {β : Env} {V V' : World} {l m : List T} (h : Gv κ k ls l m) (hV : Sub V V') (hr : (sl k ls).is V' (β κ)) : ∀ {vs : List Value}, All2 (fun t v => T.is β V t v) l vs → All2 (fun t v => T.is β V' t v) m vs := by
  induction h with
  | here => intro vs; cases vs with
    | nil => exact fun h => h
    | cons v vs => exact fun h => ⟨by rw [show v = β κ from h.1.1]; exact hr, All2.mono (fun t v h => T.keep (fun _ _ => rfl) hV h) h.2⟩
  | there _ ih => intro vs; cases vs with
    | nil => exact fun h => h
    | cons v vs => exact fun h => ⟨T.keep (fun _ _ => rfl) hV h.1, ih h.2⟩
theorem Con.give {P : Program} {f : FuncId} {args args' : List T} {H0 H1 : HL} {out : T} {n0 e k : Nat} {ls : List (List D)} (h : Con P f args' H0 n0 out H1 n0) (hA : Gv n0 k ls args args') (hb : belH n0 H0 := by (repeat (first | exact belH_nil | refine belH_cons (blt_of (by rfl)) (by first | exact bel0 rfl | exact bel0 agD_keys | exact belR (by rfl)) ?_))) : Con P f args (H0 ++ [(n0, .row e k ls)]) (n0 + 1) out H1 (n0 + 1) :=
  ⟨h.1, Nat.le_refl _, fun β S w vs hv hO => by
    have hin : ∀ x ∈ H0, x ∈ H0 ++ [(n0, Own.row e k ls)] := fun x hx => List.mem_append_left _ hx
    have hme : (n0, Own.row e k ls) ∈ H0 ++ [(n0, Own.row e k ls)] := List.mem_append_right _ (List.mem_singleton.2 rfl)
    have hbs : ∀ b ∈ blks β H0, b ∈ blks β (H0 ++ [(n0, Own.row e k ls)]) := fun b hb => by
      obtain ⟨x, hx, h1⟩ := mem_blks.1 hb
      exact mem_blks.2 ⟨x, hin x hx, h1⟩
    have hV : Sub (View β (H0 ++ [(n0, .row e k ls)]) S w) (View β H0 S w) := hide_sub (Kept.refl [] w) fun q _ hq => ⟨by simp, fun hm => hq ((List.mem_append.1 hm).elim (fun h => List.mem_append_left _ (hbs q h)) (List.mem_append_right _))⟩
    have hrow : (sl k ls).is (View β H0 S w) (β n0) := row_sl hV (hO.is _ hme).2.2 fun g hg => by
      have hn : g ∉ blks β H0 ++ S := fun hm => by
        rcases List.mem_append.1 hm with hm | hm
        · obtain ⟨x, hx, h1⟩ := mem_blks.1 hm
          exact hO.apart x (hin x hx) _ hme (by have := (hb x hx).1; intro h; rw [h] at this; exact Nat.lt_irrefl _ this) g h1 hg
        · exact hO.out g (mem_blks.2 ⟨_, hme, hg⟩) hm
      show (hide (blks β H0 ++ S) w).heap[g]? = _
      rw [hide_at]
      cases w.heap[g]? with
      | none => rfl
      | some x => simp only [Option.map_some, if_neg hn]
    refine (h.2.2 β S w vs (hA.is hV hrow hv) ⟨⟨fun x hx => ⟨(hb x hx).1, (hb x hx).2, Own.keep (fun _ _ => rfl) hV (fun _ _ _ h => h) (hO.is x (hin x hx)).2.2⟩, fun x hx y hy => hO.apart x (hin x hx) y (hin y hy), fun b hm => hO.out b (hbs b hm), hO.lt⟩, hO.gl.mono hV⟩).mono ?_
    rintro r w' ⟨v, β', h1, h2, h3, h4, h5, h6, h7⟩
    obtain ⟨β2, hβ⟩ : ∃ β2 : Env, β2 = fun κ => if κ = n0 then β n0 else β' κ := ⟨_, rfl⟩
    have hlt : ∀ κ, κ < n0 → β2 κ = β' κ := fun κ hκ => by rw [hβ]; exact if_neg (by omega)
    have hn : β2 n0 = β n0 := by rw [hβ]; exact if_pos rfl
    have hH : ∀ x ∈ H1, β2 x.1 = β' x.1 := fun x hx => hlt _ (h6.is x hx).1
    have hbl : blks β2 H1 = blks β' H1 := blks_env hH
    have hV2 : View β2 H1 S w' = View β' H1 S w' := by unfold View; rw [hbl]
    refine ⟨v, β2, h1, ⟨h2.os, h2.tape, h2.output, h2.size, fun b hb hn => h2.block b hb fun hm => hn (hbs b hm)⟩, fun κ hκ => ?_, Bel.up (Nat.le_succ _) h4, by rw [hV2]; exact T.keep (fun κ hκ => hlt κ (h4 κ hκ)) (Sub.refl _) h5, ⟨fun x hx => ?_, fun x hx y hy hne b k1 k2 => h6.apart x hx y hy hne b (by rw [← hH x hx]; exact k1) (by rw [← hH y hy]; exact k2), by rw [hbl]; exact h6.out, h6.lt⟩, fun b hm => by rw [hbl] at hm; exact (h7 b hm).imp (hbs b) id⟩
    · by_cases h : κ = n0
      · rw [h, hn]
      · rw [hlt κ (by omega), h3 κ (by omega)]
    · obtain ⟨k1, k2, k3⟩ := h6.is x hx
      refine ⟨Nat.lt_succ_of_lt k1, Bel.up (Nat.le_succ _) k2, ?_⟩
      rw [hV2, hH x hx]
      exact Own.keep (fun κ hκ => hlt κ (k2 κ hκ)) (Sub.refl _) (fun _ _ _ h => h) k3⟩
end Go.Sv


namespace Go.Sv
open Go
open Go.RowKit
section
variable {P : Program} {ops : Array Oper} {n : Nat} {d : Option Tmp} {ty : TypeId} {pos : String} {af : Array Edge} {x y : Operand}
theorem OpT.binI {op : BinOp} {k k' kr : IntKind} {a b c : Int} {t t' : TypeId} (h : ∀ w, (binOp op t (.int k a) (.int k' b)).run P w = .ok (.int kr c) w) : OpT P ops (mkO d (.binOp op t x y t') ty pos af) n [(x, dT (lit (.int k a))), (y, dT (lit (.int k' b)))] [] [] (dT (lit (.int kr c))) [] n := .runD rfl fun β V w A _ hh => by
  obtain ⟨h1, h2⟩ := in2 hh
  have e1 : A.eval x = .int k a := h1
  have e2 : A.eval y = .int k' b := h2
  refine ⟨.int kr c, ?_, rfl⟩
  have hg : (eqGuard op t x y (.int k a) (.int k' b)).run P w = .ok () w := by unfold eqGuard; cases op <;> rfl
  simp only [execOp, e1, e2, Sem.run_bind, hg, Result.andThen_ok, h w, Sem.run_pure]
theorem intsV {w : World} : ∀ {l : List Int} {us : List Value}, Cells w (l.map i64) us → us = l.map (Value.int .i64)
  | [], [], _ => rfl
  | _ :: _, _ :: _, h => by
    obtain ⟨h1, h2⟩ := h
    rw [intsV h2]
    exact congrArg (· :: _) h1
  | [], _ :: _, h => h.elim
  | _ :: _, [], h => h.elim
/-- Two structs of numbers, held against each other. -/
theorem OpT.eqAg {op : BinOp} {A B : List Int} {r : Bool} {t t' : TypeId} (hg : P.eqGuardType P.depth t = false) (h : ∀ w, (binOp op t (.agg (A.map (Value.int .i64)).toArray) (.agg (B.map (Value.int .i64)).toArray)).run P w = .ok (.bool r) w) : OpT P ops (mkO d (.binOp op t x y t') ty pos af) n [(x, agD (A.map i64)), (y, agD (B.map i64))] [] [] (bT r) [] n := .runD rfl fun β V w a _ hh => by
  obtain ⟨⟨us, e1, h1⟩, vs, e2, h2⟩ := in2 hh
  have h1 : Cells V (A.map i64) us := all2_map.1 h1
  have h2 : Cells V (B.map i64) vs := all2_map.1 h2
  rw [intsV h1] at e1
  rw [intsV h2] at e2
  exact ⟨.bool r, by simp only [execOp, e1, e2, Sem.run_bind, run_eqGuard_agg w op t x y _ _ hg, Result.andThen_ok, h w, Sem.run_pure], rfl⟩
theorem OpT.min {a b : Int} {tys : Array TypeId} : OpT P ops (mkO d (.call ⟨.builtin .min, #[x, y], tys⟩) ty pos af) n [(x, iT a), (y, iT b)] [] [] (iT (if b < a then b else a)) [] n := .runD rfl fun β V w A _ h => by
  obtain ⟨h1, h2⟩ := in2 h
  have e1 : A.eval x = .int .i64 a := h1
  have e2 : A.eval y = .int .i64 b := h2
  refine ⟨.int .i64 (if b < a then b else a), ?_, rfl⟩
  simp [execOp, e1, e2, resolve, invoke, builtin, Builtin.min_, Builtin.min2, List.foldlM]
end
end Go.Sv
namespace Go.Proofs.YtelkpflpgpdkdaaGreatDoor
open Go.Sv
open Go.RowKit
structure StepP where
  epoch : Int
  stage : Int
  commit : Int
structure PlanP where
  epoch : Int
  seq : Int
  stages : List Int
  log : List StepP
def stepF (s : StepP) : List D := [i64 s.epoch, i64 s.stage, i64 s.commit]
def planF (p : PlanP) : List D := [i64 p.epoch, i64 p.seq, intsD p.stages, sl 3 (p.log.map stepF)]
def mostN : Int := 1099511627776
def betwE (n m : Int) : Bool := decide (0 ≤ n) && decide (n ≤ m)
set_option maxRecDepth 10000 in
theorem swithinC (a b : Int) : ∀ n, Con Tryz.prog 32 [iT a, iT b] [] n (bT (betwE a b)) [] n := by
  refine fnI Tryz.func32 Tryz.ntmps32 (h := fun S w0 β0 X => ?_)
  refine GO ?_
  exact finB (he := by rw [betwE])
def stepBad (p : PlanP) (s : StepP) : Bool := !betwE s.epoch p.epoch || !betwE s.stage ((p.stages.length : Int) - 1) || decide (s.commit < 0)
def minL : List Int → Int → Int
  | [], m => m
  | x :: l, m => minL l (if x < m then x else m)
/-- As stage.Right says. -/
def planRight (p : PlanP) : Bool := decide (1 ≤ p.stages.length) && decide (p.stages.length ≤ 4) && decide (p.log.length ≤ 256) && betwE p.epoch mostN && betwE p.seq mostN && p.stages.all (fun x => decide (-1 ≤ x)) && !p.log.any (stepBad p)
set_option maxRecDepth 10000 in
theorem sright1C (p : PlanP) (s : StepP) (hl : p.stages.length ≤ 1000000) : ∀ n, Con Tryz.prog 38 [agD (stepF s), dT (adr (planF p))] [] n (bT (stepBad p s)) [] n := by
  refine fnI Tryz.func38 Tryz.ntmps38 (h := fun S w0 β0 X => ?_)
  refine GO ?_
  refine Ch.c (swithinC s.epoch p.epoch) (r := ?_)
  refine GO ?_
  refine Ch.gc (hc := fun _ => swithinC s.stage ((p.stages.length : Int) - 1)) (r := ?_)
  refine GO ?_
  exact finB (he := by rw [stepBad])
set_option maxRecDepth 10000 in
set_option maxHeartbeats 1000000 in
theorem minC (l : List Int) (h0 : 1 ≤ l.length) (hl : l.length ≤ 1000000) : ∀ n, Con Tryz.prog 37 [dT (intsD l)] [] n (iT (minL (l.drop 1) (l.getD 0 0))) [] n := by
  refine fnI Tryz.func37 Tryz.ntmps37 (h := fun S w0 β0 X => ?_)
  have hx0 : l[0]? = some (l.getD 0 0) := getD_at (by omega)
  refine GO ?_
  refine W.lp (fun a : Nat × Int => 1 ≤ a.1 ∧ a.1 ≤ l.length ∧ minL (l.drop a.1) a.2 = minL (l.drop 1) (l.getD 0 0)) (fun a => [(4, iT a.1), (3, iT a.2)]) [(0, _), (2, _)] (fun a => l.length - a.1) (1, l.getD 0 0) (⟨Nat.le_refl _, h0, rfl⟩) (round := fun a hI => ?_)
  obtain ⟨k, m⟩ := a
  obtain ⟨h1, h2, h3⟩ := hI
  simp only at h1 h2 h3 ⊢
  by_cases hlt : k < l.length
  · have hx := List.getElem?_eq_getElem hlt
    generalize l[k] = x at hx
    have hd : l.drop k = x :: l.drop (k + 1) := by
      obtain ⟨e1, e2⟩ := List.getElem?_eq_some_iff.1 hx
      rw [List.drop_eq_getElem_cons e1, e2]
    rw [hd, minL] at h3
    refine GO ?_
    refine Ch.p OpT.min ⟨rfl, rfl, trivial⟩ ?_
    refine GO ?_
    refine W.ag (k + 1, if x < m then x else m) ⟨by omega, hlt, h3⟩ (by simp only; omega)
  · obtain rfl : k = l.length := by omega
    rw [List.drop_length] at h3
    refine GO ?_
    exact finI (he := by rw [← h3]; rfl)
theorem minL_ge : ∀ (l : List Int) (m : Int), (-1 ≤ minL l m) ↔ (-1 ≤ m ∧ ∀ x ∈ l, -1 ≤ x)
  | [], m => by simp [minL]
  | x :: l, m => by
    rw [minL, minL_ge l]
    simp only [List.mem_cons, forall_eq_or_imp]
    constructor
    · rintro ⟨h1, h2⟩; exact ⟨by split at h1 <;> omega, by split at h1 <;> omega, h2⟩
    · rintro ⟨h1, h2, h3⟩; exact ⟨by split <;> omega, h3⟩
theorem min_all {l : List Int} (h0 : 1 ≤ l.length) : decide (minL (l.drop 1) (l.getD 0 0) < -1) = !l.all fun x => decide (-1 ≤ x) := by
  match l, h0 with
  | y :: l, _ =>
    have := minL_ge l y
    simp only [List.drop_succ_cons, List.drop_zero, List.getD_cons_zero]
    by_cases h : -1 ≤ minL l y
    · obtain ⟨h1, h2⟩ := this.1 h
      rw [show ((y :: l).all fun x => decide (-1 ≤ x)) = true from List.all_eq_true.2 fun x hx => by
        rcases List.mem_cons.1 hx with rfl | hx
        · simpa using h1
        · simpa using h2 x hx]
      simp; omega
    · rw [show ((y :: l).all fun x => decide (-1 ≤ x)) = false from Bool.eq_false_iff.2 fun hc => h (this.2 (by
        have := List.all_eq_true.1 hc
        exact ⟨by simpa using this y (List.mem_cons_self ..), fun x hx => by simpa using this x (List.mem_cons_of_mem _ hx)⟩))]
      simp; omega
end Go.Proofs.YtelkpflpgpdkdaaGreatDoor
