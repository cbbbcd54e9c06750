/- Part 21 of what StageOrder and StagePlans ask: for every input each returns true, and its input reads as it did. No condition. -/
import Derived.Test.YtelkpflpgpdkdaaGreatDoorPt20
namespace Go.Sv
open Go Go.RowKit

theorem asAg {cs : List C} {l : List D} (h : l.map C.d = cs) : AsD (.ag cs) l := h ▸ .ag l
theorem splice_head {α : Type} : ∀ {a m r : List α}, a.length = m.length → splice (a ++ r) 0 m = m ++ r
  | [], [], r, _ => by cases r <;> rfl
  | _ :: a, y :: m, r, h => by
    show y :: splice (a ++ r) 0 m = _
    rw [splice_head (by simpa using h)]; rfl
  | [], _ :: _, _, h => by simp at h
  | _ :: _, [], _, h => by simp at h
theorem splice_len {α : Type} : ∀ {l : List α} {o : Nat} {m : List α}, (splice l o m).length = l.length
  | l, 0, [] => by cases l <;> rfl
  | _ :: l, 0, y :: m => congrArg (· + 1) (splice_len (l := l) (o := 0) (m := m))
  | _ :: l, o + 1, m => congrArg (· + 1) (splice_len (l := l) (o := o) (m := m))
  | [], _ + 1, _ => rfl
  | [], 0, _ :: _ => rfl
theorem splice_tail {α : Type} : ∀ {a r m : List α} {o : Nat}, splice (a ++ r) (a.length + o) m = a ++ splice r o m
  | [], r, m, o => by simp
  | x :: a, r, m, o => by
    rw [show (x :: a).length + o = (a.length + o) + 1 by simp only [List.length_cons]; omega]
    show x :: splice (a ++ r) (a.length + o) m = _
    rw [splice_tail]; rfl
theorem splice_left {α : Type} : ∀ {l B v : List α} {o : Nat}, o + v.length ≤ l.length → splice (l ++ B) o v = splice l o v ++ B
  | l, B, [], 0, _ => by cases l <;> cases B <;> rfl
  | _ :: l, B, y :: v, 0, h => congrArg (y :: ·) (splice_left (l := l) (B := B) (v := v) (o := 0) (by simp at h ⊢; omega))
  | x :: l, B, v, o + 1, h => congrArg (x :: ·) (splice_left (l := l) (B := B) (v := v) (o := o) (by simp at h ⊢; omega))
  | [], _, _ :: _, 0, h => by simp at h
  | [], _, _, _ + 1, h => by simp at h
theorem flat_part {k off : Nat} {l v : List D} {ls : List (List D)} {j : Nat} (hk : ∀ l ∈ ls, l.length = k) (hj : ls[j]? = some l) (hv : off + v.length ≤ k) : (ls.set j (splice l off v)).flatten = splice ls.flatten (j * k + off) v := by
  obtain ⟨l1, l2, rfl, rfl⟩ := split_at hj
  rw [List.set_append_right _ _ (Nat.le_refl _), Nat.sub_self, List.set_cons_zero, List.flatten_append, List.flatten_append, List.flatten_cons, List.flatten_cons,
    ← flat_len (k := k) (ls := l1) fun l hl => hk l (List.mem_append_left _ hl), splice_tail, splice_left (by rw [hk l (by simp)]; exact hv)]
theorem take_splice {α : Type} {l vs : List α} {o N : Nat} (h : o + vs.length ≤ N) : (splice l o vs).take N = splice (l.take N) o vs := by
  refine List.ext_getElem? fun i => ?_
  rw [List.getElem?_take, splice_get, splice_get, List.getElem?_take, List.length_take]
  by_cases hi : i < N
  · simp only [hi, if_true]
    by_cases hc : o ≤ i ∧ i < o + vs.length ∧ i < l.length
    · rw [if_pos hc, if_pos (by omega)]
    · rw [if_neg hc, if_neg (by omega)]
  · simp only [hi, if_false]
    rw [if_neg (by omega)]
section
variable {P : Program} [Lays P] {ops : Array Oper} {n : Nat} {d : Option Tmp} {ty t : TypeId} {pos : String} {af : Array Edge} {x y : Operand} {κ q e k we j o : Nat} {fl : List (Nat × Nat)} {z : List ZK} {ls : List (List D)} {le : Lay}
theorem OpT.indexW {ki : IntKind} {i : Int} (hj : j < ls.length) (hij : i = (j : Int) := by rfl) (ht : lay P t = some ⟨.slice e, we, fl, z⟩ := by rfl) (he : lay P e = some le := by rfl) (hk : le.size = k := by rfl) : OpT P ops (mkO d (.indexAddr t x y) ty pos af) n [(x, .one (.key κ)), (y, dT (lit (.int ki i)))] [(κ, .row q k ls)] [] (.one (.ptr κ (j * k))) [] n :=
  ⟨Nat.le_refl n, fun β S w A K htin hb hO hK => by
    rw [if_pos (by simp [Region.wanted])]
    obtain ⟨hκ, _, hr⟩ := hO.is (κ, Own.row q k ls) (List.mem_cons_self ..)
    obtain ⟨hx, hy⟩ := in2 htin
    have e2 : A.eval y = .int ki i := hy
    rcases hr.2 with ⟨_, rfl⟩ | ⟨g, c, cur, us, h1, h2, h3, h4, h5, h6, h7⟩
    · simp at hj
    have e1 : A.eval x = .slice (some ⟨g, 0, none⟩) ls.length c := hx.1.trans h1
    have hadd : (⟨g, 0, none⟩ : Addr).add (j * k) = ⟨g, 0 + j * k, none⟩ := Addr.add_mid g 0 _
    unfold Oper.wp
    rw [show (execOp A.eval (mkO d (.indexAddr t x y) ty pos af)).run P w = .ok (.value (.pointer (some ⟨g, 0 + j * k, none⟩))) w by
      subst hij
      simp [execOp, e1, e2, Instr.indexAt, asIntOf, Sem.run_bind, run_underlying (lay_slice ht) w, lay_size he w, hk, hj, hadd]]
    refine hK _ β w (Kept.refl _ _) (fun _ _ => rfl) (fun q' hq => ?_) ⟨g, 0, ?_, by simp⟩ hO.toOwns nofun
    · rw [List.mem_singleton.1 hq]; exact hκ
    · show base (β κ) = _
      rw [show β κ = _ from h1]; rfl⟩
/-- An element's part is put in the place of another. -/
theorem OpT.storeP {lk : LK} {s : T} {l v l' : List D} {m off : Nat} (hs : AsD s v) (ho : o = j * k + off) (hjl : ls[j]? = some l) (ht : lay P t = some ⟨lk, m, fl, z⟩) (hlm : v.length = m) (hok : off + m ≤ k) (hl' : l.length = k → splice l off v = l') :
    OpT P ops (mkO none (.store t x y) ty pos af) n [(x, .one (.ptr κ o)), (y, s)] [] [(κ, .row q k ls)] .any [(κ, .row q k (ls.set j l'))] n := by
  refine ⟨Nat.le_refl n, fun β S w A K htin hb hO hK => ?_⟩
  rw [if_pos (by simp [Region.wanted])]
  obtain ⟨h1, h2, hr⟩ := hO.is (κ, Own.row q k ls) (List.mem_cons_self ..)
  have hj := (List.getElem?_eq_some_iff.1 hjl).1
  obtain ⟨hx, hy⟩ := in2 htin
  obtain ⟨hkl, ⟨_, rfl⟩ | ⟨g, c, cur, us, r1, r2, r3, r4, r5, r6, r7⟩⟩ := hr
  · simp at hj
  have hl' := hl' (hkl l (List.mem_of_getElem? hjl))
  subst hl'
  obtain ⟨b, o', hbase, e1⟩ := hx
  have r1' : β κ = .slice (some ⟨g, 0, none⟩) ls.length c := r1
  rw [r1'] at hbase
  cases hbase
  rw [Nat.zero_add] at e1
  have hv := hs.cells hy
  have hvl : (A.eval y).cells.size = m := by have := hv.len; simp at this; omega
  have hjk : j * k + k ≤ ls.length * k := by rw [← Nat.succ_mul]; exact Nat.mul_le_mul_right _ hj
  have hck : ls.length * k ≤ c * k := Nat.mul_le_mul_right _ r3
  have hth : w.there g o (A.eval y).cells.size := fun i hi => ⟨by
    rw [cell_of_row _ _ _ _ _ _ r2]
    simp; omega, by simp [World.frozen?, r2]⟩
  have hone : ∀ u ∈ (A.eval y).cells.toList, u.oneCell' = true := fun u hv' => CellsC.one (β := β) (cs := v.map C.d) (us := (A.eval y).cells.toList) (all2_map.2 hv) u hv'
  have hrun : (storeVar t ⟨g, o, none⟩ (A.eval y)).run P w = .ok () (w.setCells g o (A.eval y).cells.toList) := by
    have h6 := run_storeCells_cells (P := P) g o (A.eval y).cells.toList 0 w (fun j hj => by simpa using (hth j (by simpa using hj)).1) (fun j hj => by simpa using (hth j (by simpa using hj)).2) hone
    have h7 : (sizeOf t).run P w = .ok (A.eval y).cells.size w := by rw [lay_size ht w, hvl]
    simp only [storeVar, Sem.run_bind, h7, Result.andThen_ok, ne_eq, not_true_eq_false, if_false]
    simpa [Sem.run_ite] using h6
  unfold Oper.wp
  have he : (execOp A.eval (mkO none (.store t x y) ty pos af)).run P w = .ok .skip (w.setCells g o (A.eval y).cells.toList) := by
    simp only [execOp, e1, Instr.storeAt, Instr.sureAddr, Sem.run_bind, Sem.run_pure, Result.andThen_ok, hrun]
  rw [he]
  have hbl : blks β ([] ++ [(κ, Own.row q k ls)]) = [g] := by simp [blks, r1', blk]
  have hbl' : blks β ([] ++ [(κ, Own.row q k (ls.set j (splice l off v)))]) = [g] := by simp [blks, r1', blk]
  have hkept : Kept [g] w (w.setCells g o (A.eval y).cells.toList) := setCells_kept g _ o w
  have hV : Sub (View β ([] ++ [(κ, Own.row q k ls)]) S w) (View β ([] ++ [(κ, Own.row q k (ls.set j (splice l off v)))]) S (w.setCells g o (A.eval y).cells.toList)) := by
    unfold View
    rw [hbl, hbl']
    exact hide_sub hkept fun k _ hn => ⟨fun hm => hn (List.mem_append_left _ hm), hn⟩
  have hvl2 : (A.eval y).cells.toList.length = m := by simpa using hvl
  refine hK undef β _ (show Kept (blks β [(κ, Own.row q k ls)]) _ _ from hbl ▸ hkept) (fun _ _ => rfl) (bel0 rfl) trivial ⟨fun e he => ?_, fun e he e' he' hne => ?_, fun p hm => ?_, fun p hk => ?_⟩ fun p hm => ?_
  · cases List.mem_singleton.1 he
    refine ⟨h1, nofun, fun l2 hl2 => ?_, .inr ⟨g, c, setAll cur o (A.eval y).cells.toList, splice us o (A.eval y).cells.toList, by rw [List.length_set]; exact r1, heap_setCells _ _ r2, by rw [List.length_set]; exact r3, r4, ?_, ?_, ?_⟩⟩
    · rcases List.mem_or_eq_of_mem_set hl2 with h | rfl
      · exact hkl l2 h
      · rw [splice_len]; exact hkl l (List.mem_of_getElem? hjl)
    · have : (setAll cur o (A.eval y).cells.toList) = (splice cur.toList o (A.eval y).cells.toList).toArray := by
        have := set_splice (A.eval y).cells.toList cur.toList o
        simpa using this
      rw [this]
      rw [List.size_toArray, splice_len, Array.length_toList, r5]
    · have : (setAll cur o (A.eval y).cells.toList) = (splice cur.toList o (A.eval y).cells.toList).toArray := by
        have := set_splice (A.eval y).cells.toList cur.toList o
        simpa using this
      rw [this, List.length_set]
      show (splice cur.toList o (A.eval y).cells.toList).take _ = _
      rw [take_splice (by rw [hvl2]; omega), r6]
    · rw [flat_part hkl hjl (by omega), ← ho]
      exact splice_all2 (Cells.mono hV r7) (Cells.mono hV hv)
  · cases List.mem_singleton.1 he
    cases List.mem_singleton.1 he'
    exact absurd rfl hne
  · rw [hbl'] at hm
    exact hO.out p (hbl ▸ hm)
  · rw [setCells_size]; exact hO.lt p hk
  · left
    rw [show blks β [(κ, Own.row q k (ls.set j (splice l off v)))] = [g] from hbl'] at hm
    exact hbl ▸ hm
/-- An element is put in the place of another. -/
theorem OpT.storeW {lk : LK} {s : T} {l : List D} (hs : AsD s l) (ho : o = j * k) (hj : j < ls.length) (ht : lay P t = some ⟨lk, k, fl, z⟩) (hlk : l.length = k) :
    OpT P ops (mkO none (.store t x y) ty pos af) n [(x, .one (.ptr κ o)), (y, s)] [] [(κ, .row q k ls)] .any [(κ, .row q k (ls.set j l))] n :=
  OpT.storeP (off := 0) hs ho (List.getElem?_eq_getElem hj) ht hlk (by omega) fun h => by
    have := splice_head (a := ls[j]'hj) (m := l) (r := []) (by omega)
    simpa using this
omit [Lays P] in
theorem OpT.fieldP [Lays P] {f off ft m : Nat} {lf : Lay} (ht : lay P t = some ⟨.struct, m, fl, z⟩ := by rfl) (hf : fl[f]? = some (off, ft) := by rfl) (hl : lay P ft = some lf := by rfl) (hs : Nat.beq lf.size 0 = false := by rfl) : OpT P ops (mkO d (.fieldAddr t x f) ty pos af) n [(x, .one (.ptr κ o))] [] [] (.one (.ptr κ (o + off))) [] n := .runs rfl (fun h => h _ (List.mem_singleton.2 rfl)) fun β V w A _ h => by
  obtain ⟨b, o', h1, e1⟩ := in1 h
  exact ⟨.pointer (some ⟨b, o' + (o + off), none⟩), by simp only [execOp, e1, Sem.run_bind, field_place ht hf hl hs b (o' + o) w, Result.andThen_ok, Sem.run_pure, Nat.add_assoc], b, o', h1, rfl⟩
omit [Lays P] in
theorem OpT.readW {op : Oper} {tin : TL} {out : T} {l : List D} {c : C} (hx : (x, .one c) ∈ tin) (hc : c = .ptr κ o) (hg : op.guard = none) (hk : out.keys = []) (hj : ls[j]? = some l) (ho : o = j * k)
    (h : ∀ (V w : World) (A : Act) (g : Nat) (us : List Value), A.eval x = .pointer (some ⟨g, o, none⟩) → Lie w g o us → Cells V l us → ∃ v, (execOp A.eval op).run P w = .ok (.value v) w ∧ ∀ β, out.is β V v) : OpT P ops op n tin [(κ, .row q k ls)] [] out [] n :=
  ⟨Nat.le_refl n, fun β S w A K htin hb hO hK => by
    rw [if_pos (by simp [Region.wanted, hg])]
    subst hc
    obtain ⟨h1, h2, hr⟩ := hO.is (κ, Own.row q k ls) (List.mem_cons_self ..)
    have hlt := (List.getElem?_eq_some_iff.1 hj).1
    obtain ⟨hkl, ⟨_, rfl⟩ | ⟨g, c, cur, us, r1, r2, r3, r4, r5, r6, r7⟩⟩ := hr
    · simp at hlt
    obtain ⟨b, o', hbase, e1⟩ := htin _ hx
    have r1' : β κ = .slice (some ⟨g, 0, none⟩) ls.length c := r1
    rw [r1'] at hbase
    cases hbase
    rw [Nat.zero_add] at e1
    have hlk := hkl l (List.mem_of_getElem? hj)
    have h9 : (ls.flatten.drop (j * k)).take k = l := by
      obtain ⟨l1, l2, rfl, rfl⟩ := split_at hj
      rw [List.flatten_append, List.flatten_cons, List.drop_append, List.drop_of_length_le (by rw [flat_len fun l hl => hkl l (List.mem_append_left _ hl)]; exact Nat.le_refl _), flat_len (fun l hl => hkl l (List.mem_append_left _ hl)), Nat.sub_self, List.nil_append, List.drop_zero, ← hlk, List.take_left]
    have h8 : Cells _ ((ls.flatten.drop (j * k)).take k) ((us.drop (j * k)).take k) := All2.take k (All2.drop (j * k) r7)
    rw [h9] at h8
    obtain ⟨v, h3, h4⟩ := h _ w A g ((us.drop (j * k)).take k) e1 (fun i u hi => by
      rw [cell_of_row _ _ _ _ _ _ r2]
      rw [List.getElem?_take] at hi
      split at hi
      · rw [List.getElem?_drop, ← r6, List.getElem?_take] at hi
        split at hi
        · rw [ho]; simpa using hi
        · cases hi
      · cases hi) h8
    unfold Oper.wp
    rw [h3]
    exact hK _ β w (Kept.refl _ _) (fun _ _ => rfl) (bel0 hk) (h4 β) hO.toOwns nofun⟩
theorem OpT.loadW {lk : LK} {l : List D} (hj : ls[j]? = some l) (ho : o = j * k := by rfl) (ht : lay P t = some ⟨lk, k, fl, z⟩ := by rfl) (ha : lk.agg = true := by rfl) (hlk : l.length = k := by rfl) : OpT P ops (mkO d (.load t x) ty pos af) n [(x, .one (.ptr κ o))] [(κ, .row q k ls)] [] (agD l) [] n :=
  .readW (List.mem_singleton.2 rfl) rfl rfl agD_keys hj ho fun V w A g us e1 h2 h3 => by
    have hsh := lay_shp ht
    rw [ha] at hsh
    exact ⟨_, by simp only [execOp, e1, Instr.loadAt, Instr.sureAddr, Sem.run_bind, Sem.run_pure, Result.andThen_ok, load_many hsh h2 (h3.len.symm.trans hlk)], fun β => ⟨us, rfl, all2_map.2 h3⟩⟩
/-- Nothing is appended. -/
theorem OpT.appendE (ht : lay P t = some ⟨.slice e, we, fl, z⟩ := by rfl) (he : lay P e = some le := by rfl) : OpT P ops (mkO d (.call ⟨.builtin .append, #[y, x], #[t, t]⟩) ty pos af) n [(y, .one (.key κ)), (x, dT (sl k []))] [(κ, .row q k ls)] [] (.one (.key κ)) [] n :=
  ⟨Nat.le_refl n, fun β S w A K htin hb hO hK => by
    rw [if_pos (by simp [Region.wanted])]
    obtain ⟨hκ, h2, hr⟩ := hO.is (κ, Own.row q k ls) (List.mem_cons_self ..)
    obtain ⟨hy, a, c, e1, _⟩ := in2 htin
    obtain ⟨dd, i, zz, hd, hi, _⟩ := lay_all he
    have h3 : ∃ a' c', A.eval y = .slice a' ls.length c' ∧ ls.length ≤ c' := by
      rw [hy.1]
      rcases hr.2 with ⟨h, rfl⟩ | ⟨g, c, _, _, h, _, h', _⟩
      · exact ⟨none, 0, h, Nat.le_refl _⟩
      · exact ⟨_, _, h, h'⟩
    obtain ⟨a', c', e2, hle⟩ := h3
    have hrun : (Builtin.append_ #[t, t] ty #[.slice a' ls.length c', .slice a 0 c]).run P w = .ok (.slice a' ls.length c') w := by
      cases a <;> cases a' <;> simp [Builtin.append_, run_underlying (lay_slice ht), sizeOf, typeInfo, hi, Builtin.lenOf, Builtin.firstCells, hle, storeCells, loadCells, loadCellsFrom]
    unfold Oper.wp
    have hex : (execOp A.eval (mkO d (.call ⟨.builtin .append, #[y, x], #[t, t]⟩) ty pos af)).run P w = .ok (.value (A.eval y)) w := by
      simp only [execOp, resolve, invoke, builtin, List.map_toArray, List.map_cons, List.map_nil, e1, e2, List.length_nil, Sem.run_bind, Sem.run_pure, Result.andThen_ok, hrun]
    rw [hex]
    exact hK _ β w (Kept.refl _ _) (fun _ _ => rfl) (fun p hp => by rw [List.mem_singleton.1 hp]; exact hκ) hy hO.toOwns nofun⟩
/-- append behind a slice without room. -/
theorem OpT.appendF {ls2 : List (List D)} (ht : lay P t = some ⟨.slice e, we, fl, z⟩) (he : lay P e = some le) (hk : le.size = k) (hz : le.zero.length = k) (hm : Nat.blt 0 ls2.length = true) (hb : ls.length + ls2.length ≤ 34359738368) : OpT P ops (mkO d (.call ⟨.builtin .append, #[y, x], #[t, t]⟩) ty pos af) n [(y, dT (slF k ls)), (x, dT (sl k ls2))] [] [] (.one (.key n)) [(n, .row e k (ls ++ ls2))] (n + 1) :=
  .appendG ht he hk hz hm hb (List.mem_cons_of_mem _ (List.mem_singleton.2 rfl)) fun β S w A hO h => by
    obtain ⟨⟨a, e1⟩, a', c', e2, h2, h3, h4⟩ := h _ (List.mem_cons_self ..)
    have e1' : A.eval y = .slice a ls.length ls.length := e1
    have e2' : A.eval y = .slice a' ls.length c' := e2
    have hkl : ∀ l ∈ ls, l.length = k := fun l hl => by
      obtain ⟨j, hj, rfl⟩ := List.mem_iff_getElem.1 hl
      exact (h4 j _ (List.getElem?_eq_getElem hj)).1
    refine ⟨hkl, fun i zz hi hzi hzs hik => ?_⟩
    rw [e1'] at e2' ⊢
    cases e2'
    have hgrow : ∀ (m : Nat) (xs news : List Value), xs.length = ls.length * i.size → news.length = m * i.size → ls.length + m ≤ maxLen → 0 < m → (w.drew.alloc (.cells (xs.toArray ++ news.toArray ++ Builtin.zeroCells zz.cells (grownCap w (ls.length + m) ls.length e - (ls.length + m))) e)).ownsRow 0 e i.size (.slice (some ⟨w.heap.size, 0, none⟩) (ls.length + m) (grownCap w (ls.length + m) ls.length e)) (ls.length + m) (xs ++ news) ∧
        Kept [] w (w.drew.alloc (.cells (xs.toArray ++ news.toArray ++ Builtin.zeroCells zz.cells (grownCap w (ls.length + m) ls.length e - (ls.length + m))) e)) := fun m xs news hx hl h63 hm => by
      have hge := grownCap_ge w (ls.length + m) ls.length e
      have hlen : (xs ++ news).length = (ls.length + m) * i.size := by rw [List.length_append, hx, hl, Nat.add_mul]
      refine ⟨⟨hlen, .inr ⟨w.heap.size, _, _, rfl, Nat.zero_le _, heap_alloc_new w.drew _, hge, grownCap_le_maxLen w (ls.length + m) ls.length e h63, ?_, ?_⟩⟩, ⟨rfl, rfl, rfl, by simp, fun k hk _ => Below.heap_alloc w.drew _ _ hk⟩⟩
      · simp only [Array.size_append, List.size_toArray, size_zeroCells, hzs, hx, hl, ← Nat.add_mul]
        congr 1
        omega
      · simp only [Array.toList_append, List.append_assoc]
        rw [← List.append_assoc, ← hlen]
        exact List.take_left
    cases a with
    | none =>
      have h0 : ls = [] := by
        cases ls with
        | nil => rfl
        | cons l ls => obtain ⟨_, b, o, _, hh, _⟩ := h4 0 l rfl; cases hh
      subst h0
      refine ⟨[], trivial, fun b m c news hl hn h1 h63 hby hm => ?_⟩
      have hg := hgrow m [] news (by simp) hl h63 hm
      simp only [List.length_nil, Nat.zero_add, List.nil_append, Array.empty_append] at hg h63 hby ⊢
      have hr := run_append_nil (P := P) w t ty e i zz (lay_slice ht) hi hzi b m c news hl hn hm (by simp only [maxLen] at h63; omega) (by omega)
      exact ⟨_, _, hr, hg.1, .inr ⟨hg.2, rfl⟩⟩
    | some g =>
      obtain ⟨xs, hx, hxs, hh⟩ : ∃ xs : List Value, xs.length = ls.length * i.size ∧ Cells (View β [] S w) ls.flatten xs ∧ ∀ j u, xs[j]? = some u → w.cell? (g.add j) = some u := by
        by_cases h0 : ls = []
        · subst h0; exact ⟨[], by simp, trivial, nofun⟩
        · obtain ⟨l0, hl0⟩ : ∃ l0, ls[0]? = some l0 := ⟨_, List.getElem?_eq_getElem (List.length_pos_iff.2 h0)⟩
          obtain ⟨_, b, o, _, hg, _⟩ := h4 0 l0 hl0
          cases hg
          obtain ⟨news, h5, h6, h7⟩ := sl_flat (V := View β [] S w) (b := b) (o := o) (k := k) (ls := ls) fun j l hj => by
            obtain ⟨h7, b', o', us, h8, h9, h10⟩ := h4 j l hj
            cases h8
            exact ⟨h7, us, h9, h10⟩
          exact ⟨news, by rw [h5, hik], h7, fun j u hj => by
            rw [Addr.add_mid]
            exact (hide_cell (h6 j u hj)).2⟩
      refine ⟨xs, hxs, fun b m c news hl hn h1 h63 hby hm => ?_⟩
      have hg := hgrow m xs news hx hl h63 hm
      exact ⟨_, _, run_append_grow (P := P) w t ty e i zz (lay_slice ht) hi hzi g ls.length ls.length xs hx hh b m c news hl hn (by omega) (by simp only [maxLen] at h63; omega) (growslice_fits (by omega) hby), hg.1, .inr ⟨hg.2, rfl⟩⟩
omit [Lays P] in
/-- A new row. -/
theorem OpT.newR {op : Oper} {tin : TL} (hg : op.guard = none) (hkl : ∀ l ∈ ls, l.length = k)
    (h : ∀ (β : Env) (V w : World) (a : Act), Sub V w → (∀ e ∈ tin, e.2.is β V (a.eval e.1)) → ∃ (cur : Array Value) (c : Nat), (execOp a.eval op).run P w = .ok (.value (.slice (some ⟨w.heap.size, 0, none⟩) ls.length c)) (w.alloc (.cells cur e)) ∧ ls.length ≤ c ∧ c ≤ maxLen ∧ cur.size = c * k ∧ Cells V ls.flatten (cur.toList.take (ls.length * k))) :
    OpT P ops op n tin [] [] (.one (.key n)) [(n, .row e k ls)] (n + 1) :=
  ⟨Nat.le_succ n, fun β S w a K htin hb hO hK => by
    rw [if_pos (by simp [Region.wanted, hg])]
    obtain ⟨cur, c, h1, h2, h3, h4, h5⟩ := h β (hide S w) w a hide_shown htin
    unfold Oper.wp
    rw [h1]
    obtain ⟨β', hβ'⟩ : ∃ β' : Env, β' = fun κ => if κ = n then .slice (some ⟨w.heap.size, 0, none⟩) ls.length c else β κ := ⟨_, rfl⟩
    have hn : β' n = .slice (some ⟨w.heap.size, 0, none⟩) ls.length c := by rw [hβ']; exact if_pos rfl
    have hlt : ∀ κ, κ < n → β' κ = β κ := fun κ hκ => by rw [hβ']; exact if_neg (by omega)
    have hkept : Kept [] w (w.alloc (.cells cur e)) := ⟨rfl, rfl, rfl, by simp, fun k hk _ => Below.heap_alloc _ _ _ hk⟩
    have hbl : blks β' ([] ++ [(n, Own.row e k ls)]) = [w.heap.size] := by simp [blks, hn, blk]
    have hV : Sub (hide S w) (View β' ([] ++ [(n, Own.row e k ls)]) S (w.alloc (.cells cur e))) := by
      unfold View
      rw [hbl]
      exact hide_sub hkept fun k hk hns => ⟨by simp, fun hm => by
        rcases List.mem_cons.1 hm with h | h
        · omega
        · exact hns h⟩
    refine hK _ β' _ hkept hlt ?_ ⟨hn.symm, rfl⟩ ⟨fun f hf => ?_, fun f hf f' hf' hne => ?_, fun b hm => ?_, fun b hb => ?_⟩ fun b hm => ?_
    · intro κ hκ
      rw [List.mem_singleton.1 hκ]
      exact Nat.lt_succ_self n
    · cases List.mem_singleton.1 hf
      exact ⟨Nat.lt_succ_self n, nofun, hkl, .inr ⟨w.heap.size, c, cur, _, hn, heap_alloc_new w _, h2, h3, h4, rfl, Cells.mono hV h5⟩⟩
    · cases List.mem_singleton.1 hf
      cases List.mem_singleton.1 hf'
      exact absurd rfl hne
    · rw [hbl, List.mem_singleton] at hm
      subst hm
      exact fun hS => Nat.lt_irrefl _ (hO.lt _ hS)
    · have := hO.lt b hb
      simp; omega
    · rw [show blks β' [(n, Own.row e k ls)] = [w.heap.size] from hbl, List.mem_singleton] at hm
      subst hm
      exact .inr (Nat.le_refl _)⟩
/-- An empty row is built. -/
theorem OpT.slice0 (ht : lay P t = some ⟨.slice e, we, fl, z⟩ := by rfl) (he : lay P e = some le := by rfl) (_ : le.size = k := by rfl) : OpT P ops (mkO d (.buildSlice t 0 #[]) ty pos af) n [] [] [] (.one (.key n)) [(n, .row e k [])] (n + 1) :=
  .newR rfl nofun fun β V w A _ h => ⟨(Array.map (fun _ => default) (Array.range 0)), 0, by
    simp [execOp, Instr.buildSlice, Sem.run_bind, run_underlying (lay_slice ht) w, lay_size he w, Instr.fill, newRow], Nat.le_refl _, by unfold maxLen; decide, by simp, by simp [Cells, All2]⟩
theorem OpT.appendF' {ls2 : List (List D)} (ht : lay P t = some ⟨.slice e, we, fl, z⟩ := by rfl) (he : lay P e = some le := by rfl) (hk : le.size = k := by rfl) (hz : le.zero.length = k := by rfl) (hm : Nat.blt 0 ls2.length = true := by rfl) (hb : ls.length + ls2.length ≤ 34359738368) : OpT P ops (mkO d (.call ⟨.builtin .append, #[y, x], #[t, t]⟩) ty pos af) n [(y, dT (slF k ls)), (x, dT (sl k ls2))] [] [] (.one (.key n)) [(n, .row e k (ls ++ ls2))] (n + 1) := .appendF ht he hk hz hm hb
variable {pf : TypeId} {F : FL} {H H2 : HL} {acc : List Acc} {l l1 : List Oper} {Fin : Nat → FL → HL → List Acc → Prop}
/-- A store into a row of one's own. -/
theorem Ch.storeW {lk : LK} {s : T} {v : List D} (hF : Tin F [(x, .one (.ptr κ o)), (y, s)] := by exact ⟨rfl, rfl, trivial⟩) (hs : AsD s v := by first | exact .one _ | exact .ag _ | exact asAg (by rfl)) (hR : Rep κ (.row q k ls) (.row q k (ls.set j v)) H H2 := by (repeat (first | exact Rep.here (by rfl) | (apply Rep.there; rfl)))) (ho : o = j * k := by rfl) (ht : lay P t = some ⟨lk, k, fl, z⟩ := by rfl) (hlk : v.length = k := by rfl) (hj : j < ls.length)
    (r : Ch P ops Fin l n F H2 (acc ++ [Rec.acc ⟨[(x, .one (.ptr κ o)), (y, s)], [], [(κ, .row q k ls)], .any, [(κ, .row q k (ls.set j v))], n, n⟩ none])) : Ch P ops Fin (mkO none (.store t x y) ty pos af :: l) n F H acc :=
  .step _ [] _ _ _ n (.storeW hs ho hj ht hlk) hF.all (fun e he => by rw [List.nil_append, List.mem_singleton] at he; subst he; exact hR.mem.1) H2 hR.mem.2 r
theorem Ch.storeP {lk : LK} {s : T} {v l' u : List D} {m off : Nat} (hj : ls[j]? = some u) (hF : Tin F [(x, .one (.ptr κ o)), (y, s)] := by exact ⟨rfl, rfl, trivial⟩) (hs : AsD s v := by first | exact .one _ | exact .ag _ | exact asAg (by rfl)) (hR : Rep κ (.row q k ls) (.row q k (ls.set j l')) H H2 := by (repeat (first | exact Rep.here (by rfl) | (apply Rep.there; rfl)))) (ho : o = j * k + off := by rfl) (ht : lay P t = some ⟨lk, m, fl, z⟩ := by rfl) (hlm : v.length = m := by rfl) (hok : Nat.ble (off + m) k = true := by rfl) (hl' : splice u off v = l' := by rfl)
    (r : Ch P ops Fin l1 n F H2 (acc ++ [Rec.acc ⟨[(x, .one (.ptr κ o)), (y, s)], [], [(κ, .row q k ls)], .any, [(κ, .row q k (ls.set j l'))], n, n⟩ none])) : Ch P ops Fin (mkO none (.store t x y) ty pos af :: l1) n F H acc :=
  .step _ [] _ _ _ n (.storeP hs ho hj ht hlm (Nat.le_of_ble_eq_true hok) fun _ => hl') hF.all (fun e he => by rw [List.nil_append, List.mem_singleton] at he; subst he; exact hR.mem.1) H2 hR.mem.2 r
end
theorem W.condNT {cx : Cx} {n : Nat} {F : FL} {H : HL} {Q : Exit → Act → World → Prop} {c : Operand} {u v : Code} {p : Prop} [Decidable p] (hc : opT F c = some (bT (!decide p))) (hp : ¬ p) (h : Wk cx n F H (u.wp cx.P Q)) : Wk cx n F H ((Code.cond c u v).wp cx.P Q) := W.cond hc (fun _ => h) fun hf => by simp [hp] at hf
theorem W.condNF {cx : Cx} {n : Nat} {F : FL} {H : HL} {Q : Exit → Act → World → Prop} {c : Operand} {u v : Code} {p : Prop} [Decidable p] (hc : opT F c = some (bT (!decide p))) (hp : p) (h : Wk cx n F H (v.wp cx.P Q)) : Wk cx n F H ((Code.cond c u v).wp cx.P Q) := W.cond hc (fun hf => by simp [hp] at hf) fun _ => h
end Go.Sv
