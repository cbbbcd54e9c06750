/- Part 32 of what StageOrder and StagePlans ask: for every input each returns true, and its input reads as it did. No condition. -/
import Derived.Test.YtelkpflpgpdkdaaGreatDoorPt16
import Derived.Test.YtelkpflpgpdkdaaGreatDoorPt24
import Derived.Test.YtelkpflpgpdkdaaGreatDoorPt25
import Derived.Test.YtelkpflpgpdkdaaGreatDoorPt27
import Derived.Test.YtelkpflpgpdkdaaGreatDoorPt28
import Derived.Test.YtelkpflpgpdkdaaGreatDoorPt31
namespace Go.Proofs.YtelkpflpgpdkdaaGreatDoor
open Go.Sv
open Go.RowKit Go.Lib Go.Shelf Go.Sort
theorem entersF {P : Program} {f : FuncId} {fn : Go.Func} {c : Code} (hf : P.funcs[f]? = some fn) (hnm : (fn.name == "runtime.NumGoroutine") = false) (hb : fn.body = some c) : Enters P f := fun args w => by simp only [callFunc, Sem.run_bind, run_program, Result.andThen_ok, hf, hb, hnm, Option.isNone, Bool.false_eq_true, if_false, Sem.run_pure]
theorem kept_grow (w : World) (q : Nat) (os : Array Obj) : Kept [] w (grow (w.drewN q) os) := ⟨rfl, rfl, rfl, by simp [grow, World.drewN], fun k hk _ => by simp only [grow, World.drewN]; rw [Array.getElem?_append_left hk]⟩
/-- A field's cells: its name, and what is behind it. -/
structure FE where
  name : Str
  r : List Value
  len : r.length = 7
  one : ∀ u ∈ r, u.oneCell' = true
def FE.enc (p : FE) : List Value := .string p.name :: p.r
instance : Inhabited FE := ⟨⟨⟨#[]⟩, List.replicate 7 (.bool false), rfl, by simp [Value.oneCell']⟩⟩
theorem FE.enc_len (p : FE) : p.enc.length = 8 := congrArg (· + 1) p.len
theorem FE.enc_one (p : FE) : ∀ v ∈ p.enc, v.oneCell' = true := fun v hv => by
  rcases List.mem_cons.1 hv with rfl | hv
  · rfl
  · exact p.one v hv
def cmpE (p q : FE) : Int := Lib.compareBytes p.name.data.toList q.name.data.toList
theorem ltE (p q : FE) : ltOf cmpE p q = sLt p.name q.name := by
  rw [sLt_cmp, ByteArray.toList_eq, ByteArray.toList_eq]; rfl
theorem swoE : SWO (ltOf cmpE) where
  irrefl x := by rw [ltE, sLt_irr]
  trans x y z h1 h2 := by rw [ltE] at *; exact sLt_trans h1 h2
  ntrans x y z h1 h2 := by rw [ltE] at *; exact sLt_ntrans h1 h2
theorem grow2 (w : World) (o1 o2 : Obj) : (w.alloc o1).alloc o2 = grow (w.drewN 0) #[o1, o2] := by
  show ({ w with heap := (w.heap.push o1).push o2 } : World) = { w with heap := w.heap ++ #[o1, o2] }
  congr 1
set_option maxHeartbeats 1000000 in
theorem with1_any (x y : FE) (w : World) : Calls Tryz.prog 253 #[.agg x.enc.toArray, .agg y.enc.toArray] w fun e w' => e = .returned (.int .i64 (cmpE x y)) ∧ ∃ q os', w' = grow (w.drewN q) os' := by
  have HC : ∀ W, Calls Tryz.prog 78 #[.string x.name, .string y.name] W fun e w' => e = .returned (.int .i64 (cmpE x y)) ∧ w' = W := fun W => Any.strings_Compare Tryz.lays106 x.name y.name W
  generalize cmpE x y = r at *
  obtain ⟨n1, r1, h1, _⟩ := x
  obtain ⟨n2, r2, h2, _⟩ := y
  simp only [FE.enc] at HC ⊢
  match r1, h1, r2, h2 with
  | [a1, a2, a3, a4, a5, a6, a7], _, [b1, b2, b3, b4, b5, b6, b7], _ =>
    have HC := Lib.hid HC
    go_enter Tryz.func253, Tryz.ntmps253
    go_wp2_with (refine (HC.out _).mono ?_; rintro e w1 ⟨rfl, rfl⟩)
    go_ret
    exact ⟨rfl, 0, _, grow2 _ _ _⟩
section
variable {V : World}
theorem mk_fe : ∀ (xs : List Fld) (us : List Value), Cells V (xs.map fldF).flatten us → ∃ ps : List FE, ps.flatMap FE.enc = us ∧ All2 (fun x p => p.name = x.name ∧ Cells V (fldF x) p.enc) xs ps
  | [], [], _ => ⟨[], rfl, trivial⟩
  | [], _ :: _, h => h.elim
  | x :: xs, us, h => by
    rw [List.map_cons, List.flatten_cons] at h
    obtain ⟨m1, m2, rfl, h1, h2⟩ := All2.split h
    obtain ⟨ps, h3, h4⟩ := mk_fe xs m2 h2
    have hl := h1.len
    match m1, h1, hl with
    | v :: r, h1, hl =>
      have hv : v = .string x.name := h1.1
      subst hv
      have hr : r.length = 7 := by simpa [fldF, typF] using hl.symm
      refine ⟨⟨x.name, r, hr, fun u hu => CellsC.one (β := fun _ => undef) (cs := (fldF x).map C.d) (us := .string x.name :: r) (all2_map.2 h1) u (List.mem_cons_of_mem _ hu)⟩ :: ps, ?_, ⟨rfl, h1⟩, h4⟩
      show (_ :: r) ++ ps.flatMap FE.enc = _
      rw [h3]
theorem fe_cells : ∀ {xs : List Fld} {ps : List FE}, All2 (fun x p => p.name = x.name ∧ Cells V (fldF x) p.enc) xs ps → Cells V (xs.map fldF).flatten (ps.flatMap FE.enc)
  | [], [], _ => trivial
  | x :: xs, p :: ps, h => by
    rw [List.map_cons, List.flatten_cons, List.flatMap_cons]
    exact All2.append h.1.2 (fe_cells h.2)
  | [], _ :: _, h => h.elim
  | _ :: _, [], h => h.elim
theorem all2_perm {α β : Type} {R : α → β → Prop} {ps qs : List β} (hp : ps.Perm qs) : ∀ {xs : List α}, All2 R xs ps → ∃ ys : List α, ys.Perm xs ∧ All2 R ys qs := by
  induction hp with
  | nil => intro xs h; exact ⟨xs, .refl _, h⟩
  | cons x _ ih => intro xs h; cases xs with
    | nil => exact h.elim
    | cons y ys =>
      obtain ⟨zs, h1, h2⟩ := ih h.2
      exact ⟨y :: zs, h1.cons y, h.1, h2⟩
  | swap x y l => intro xs h; match xs, h with
    | a :: b :: ys, h => exact ⟨b :: a :: ys, .swap _ _ _, h.2.1, h.1, h.2.2⟩
  | trans _ _ ih1 ih2 =>
    intro xs h
    obtain ⟨ys, h1, h2⟩ := ih1 h
    obtain ⟨zs, h3, h4⟩ := ih2 h2
    exact ⟨zs, h3.trans h1, h4⟩
end
theorem enc_flat : ∀ (ps : List FE) (j i : Nat), (i < 8) → (ps.flatMap FE.enc)[j * 8 + i]? = (ps[j]?).bind fun p => p.enc[i]?
  | [], j, i, _ => by simp
  | p :: ps, 0, i, hi => by
    rw [List.flatMap_cons, List.getElem?_append_left (by rw [p.enc_len]; omega)]
    simp
  | p :: ps, j + 1, i, hi => by
    rw [List.flatMap_cons, List.getElem?_append_right (by rw [p.enc_len]; omega), p.enc_len, show (j + 1) * 8 + i - 8 = j * 8 + i by omega, enc_flat ps j i hi]
    simp
theorem enc_len (ps : List FE) : (ps.flatMap FE.enc).length = ps.length * 8 := by
  induction ps with
  | nil => rfl
  | cons p ps ih => rw [List.flatMap_cons, List.length_append, ih, p.enc_len, List.length_cons]; omega
theorem flatK_eq (d : Array FE) : (flatK FE.enc 8 d).toList = d.toList.flatMap FE.enc := by
  refine List.ext_getElem? fun q => ?_
  by_cases hq : q < d.size * 8
  · rw [show q = q / 8 * 8 + q % 8 by omega, enc_flat _ _ _ (Nat.mod_lt _ (by decide)), show q / 8 * 8 + q % 8 = q by omega]
    have h1 : q / 8 < d.size := by omega
    have h2 := get_flatK FE.enc 8 d q hq
    have h3 : q < (flatK FE.enc 8 d).size := by simpa using hq
    rw [getElem!_pos (flatK FE.enc 8 d) q h3] at h2
    rw [Array.getElem?_toList, Array.getElem?_eq_getElem h3, h2, Array.getElem?_toList, Array.getElem?_eq_getElem h1, Option.bind_some, getElem!_pos d _ h1]
    have h4 : q % 8 < (d[q / 8]).enc.length := by rw [FE.enc_len]; omega
    rw [getElem!_pos (d[q / 8]).enc _ h4, List.getElem?_eq_getElem h4]
  · rw [List.getElem?_eq_none (by simp; omega), List.getElem?_eq_none (by rw [enc_len]; simp; omega)]
theorem heap_sorted {w : World} {g n : Nat} {os : Array Obj} {d : Array FE} {cur : Array Value} {ty : TypeId} (hg : w.heap[g]? = some (.cells cur ty (0, 0))) (hd : d.size * 8 ≤ cur.size) :
    ∃ cur', (sortWorldK FE.enc 8 w g 0 n d os).heap[g]? = some (.cells cur' ty (0, 0)) ∧ cur'.size = cur.size ∧ cur'.toList.take (d.size * 8) = d.toList.flatMap FE.enc := by
  have hlt := (Array.getElem?_eq_some_iff.1 hg).1
  refine ⟨putCells id 0 (flatK FE.enc 8 d) cur, ?_, by simp [putCells], ?_⟩
  · show ((w.heap.modify g (onCells (putCells id 0 (flatK FE.enc 8 d)))) ++ os)[g]? = _
    rw [Array.getElem?_append_left (by simpa using hlt), Array.getElem?_modify, if_pos rfl, hg]
    rfl
  · rw [← flatK_eq]
    refine List.ext_getElem? fun q => ?_
    rw [List.getElem?_take]
    by_cases hq : q < d.size * 8
    · have h3 : q < (flatK FE.enc 8 d).size := by simpa using hq
      rw [if_pos hq, Array.getElem?_toList, Array.getElem?_toList, putCells, Array.getElem?_mapIdx, Array.getElem?_eq_getElem (show q < cur.size by omega), Array.getElem?_eq_getElem h3, Option.map_some, if_pos ⟨Nat.zero_le _, by omega⟩, Nat.sub_zero, getElem!_pos (flatK FE.enc 8 d) q h3]
      rfl
    · rw [if_neg hq, List.getElem?_eq_none (by simp; omega)]
theorem kept_sorted {w : World} {g n : Nat} {os : Array Obj} {d : Array FE} : Kept [g] w (sortWorldK FE.enc 8 w g 0 n d os) := ⟨rfl, rfl, rfl, size_sortWorldK_c .., fun k hk hn => by
  have hne : ¬ g = k := fun e => hn (by rw [e]; exact List.mem_singleton.2 rfl)
  show ((w.heap.modify g (onCells (putCells id 0 (flatK FE.enc 8 d)))) ++ os)[k]? = _
  rw [Array.getElem?_append_left (by simpa using hk), Array.getElem?_modify, if_neg hne]⟩
theorem sortC (l : List Fld) (f : Fld) (hs : Srt l) (hn : ∀ g ∈ l, g.name ≠ f.name) (hl : l.length ≤ 1000000) : Con Tryz.prog 252 [.one (.key 0), dT (cloD 253 [])] [(0, .row 206 8 ((l ++ [f]).map fldF))] 1 (.tup []) [(0, .row 206 8 ((Typ.ins f l).map fldF))] 1 := by
  refine ⟨entersF Tryz.func252 (by kernel_rfl) rfl, Nat.le_refl _, fun β S w vs hv hO => ?_⟩
  obtain ⟨vs⟩ := vs
  match vs, hv with
  | [v0, v1], h =>
    obtain ⟨e0, ⟨us1, e1, h1⟩, _⟩ := h
    obtain rfl : us1 = [] := by cases us1 with | nil => rfl | cons => exact h1.elim
    have e0 : v0 = β 0 := e0.1
    obtain ⟨_, _, hlen, hrow⟩ := hO.is (0, _) (List.mem_cons_self ..)
    rcases hrow with ⟨_, h2⟩ | ⟨g, c, cur, us, h2, h3, h4, h5, h6, h7, h8⟩
    · simp at h2
    have h2 : β 0 = .slice (some ⟨g, 0, none⟩) ((l ++ [f]).map fldF).length c := h2
    have hbl : blks β [(0, Own.row 206 8 ((l ++ [f]).map fldF))] = [g] := by simp [blks, h2, blk]
    obtain ⟨ps, h9, h10⟩ := mk_fe (l ++ [f]) us h8
    have hpl := h10.len
    rw [List.length_map] at h2 h4 h7
    have hH : HoldsK FE.enc 8 w g 0 ps.toArray := fun j hj => by
      rw [size_flatK, List.size_toArray] at hj
      have hj2 : j < (flatK FE.enc 8 ps.toArray).size := by simpa using hj
      refine ⟨?_, by simp [World.frozen?, h3]⟩
      have h11 : (cur.toList.take ((l ++ [f]).length * 8))[j]? = (flatK FE.enc 8 ps.toArray).toList[j]? := by rw [h7, ← h9, flatK_eq]
      rw [List.getElem?_take, if_pos (by omega), Array.getElem?_toList, Array.getElem?_toList] at h11
      rw [cell_of_row _ _ _ _ _ _ h3, Nat.zero_add, h11, Array.getElem?_eq_getElem hj2, getElem!_pos (flatK FE.enc 8 ps.toArray) j hj2]
      rfl
    have hlt := (Array.getElem?_eq_some_iff.1 h3).1
    have hcon := AnyQ.slices_SortFunc Tryz.sortFld 8 Tryz.isAgg206 Tryz.sizeOf206 FE.enc FE.enc_len FE.enc_one cmpE swoE 253 #[] g 0 c ps.toArray w (entersF Tryz.func253 (by kernel_rfl) rfl) (fun m os dk _ x y => with1_any x y _) hH hlt (by rw [List.size_toArray, ← hpl, List.length_append, List.length_singleton]; omega)
    have hcon' : Calls Tryz.prog 252 #[.slice (some ⟨g, 0, none⟩) ps.toArray.size c, .func (.func 253) #[] #[]] w _ := hcon
    rw [List.size_toArray, ← hpl, ← h2, ← e0] at hcon'
    rw [e1]
    refine hcon'.mono ?_
    rintro e w' ⟨rfl, d', n, os, ⟨hp1, _, hp3⟩, hso, rfl⟩
    have hsz : d'.size = ps.length := by simpa using hp1
    have hperm : d'.toList.Perm ps := by
      have e1 : d'.extract 0 ps.length = d' := by rw [← hsz]; simp
      have e2 : ps.toArray.extract 0 ps.length = ps.toArray := by simp
      rw [hpl, e1, e2] at hp3
      exact hp3
    obtain ⟨ys, h11, h12⟩ := all2_perm hperm.symm h10
    have hys : ys = Typ.ins f l := Typ.sorted_ins hs hn h11 (by
      rw [List.pairwise_iff_getElem]
      intro i j hi hj hij
      have hyl := h12.len
      have hj' : j < d'.size := by rw [Array.length_toList (xs := d')] at hyl; omega
      have := hso i j (Nat.zero_le _) hij (by first | omega | (simp; omega))
      rw [getElem!_pos d' j hj', getElem!_pos d' i (by omega), ltE] at this
      obtain ⟨p, h13, h14, _⟩ := h12.get (List.getElem?_eq_getElem hi)
      obtain ⟨q, h15, h16, _⟩ := h12.get (List.getElem?_eq_getElem hj)
      rw [Array.getElem?_toList, Array.getElem?_eq_getElem (by omega)] at h13
      rw [Array.getElem?_toList, Array.getElem?_eq_getElem hj'] at h15
      cases h13
      cases h15
      rw [← h14, ← h16]
      exact this)
    subst hys
    obtain ⟨cur', h13, h14, h15⟩ := heap_sorted (n := n) (os := os) (d := d') h3 (by omega)
    have hkept : Kept [g] w (sortWorldK FE.enc 8 w g 0 n d' os) := kept_sorted
    have hil := h12.len
    rw [Array.length_toList (xs := d'), hsz, ← hpl] at hil
    have hbl2 : blks β [(0, Own.row 206 8 ((Typ.ins f l).map fldF))] = [g] := by simp [blks, h2, blk]
    have hV : Sub (View β [(0, Own.row 206 8 ((l ++ [f]).map fldF))] S w) (View β [(0, Own.row 206 8 ((Typ.ins f l).map fldF))] S (sortWorldK FE.enc 8 w g 0 n d' os)) := by
      unfold View
      rw [hbl, hbl2]
      exact hide_sub hkept fun k _ hk => ⟨fun hm => hk (List.mem_append_left _ hm), hk⟩
    refine ⟨_, β, rfl, hbl.symm ▸ hkept, fun _ _ => rfl, bel0 rfl, ⟨[], rfl, trivial⟩, ⟨fun e he => ?_, fun e he e' he' hne => ?_, fun b hm => ?_, fun b hb => ?_⟩, fun b hm => ?_⟩
    · cases List.mem_singleton.1 he
      refine ⟨Nat.zero_lt_one, nofun, fun x hx => ?_, .inr ⟨g, c, cur', _, ?_, h13, ?_, h5, by rw [h14]; exact h6, rfl, ?_⟩⟩
      · obtain ⟨y, _, rfl⟩ := List.mem_map.1 hx; rfl
      · rw [List.length_map, hil]; exact h2
      · rw [List.length_map, hil]; exact h4
      · rw [List.length_map, hil, hpl, ← hsz, h15]
        exact Cells.mono hV (fe_cells h12)
    · cases List.mem_singleton.1 he
      cases List.mem_singleton.1 he'
      exact absurd rfl hne
    · rw [hbl2] at hm
      exact hO.out b (by rw [hbl]; exact hm)
    · exact Nat.lt_of_lt_of_le (hO.lt b hb) hkept.size
    · rw [hbl2] at hm
      rw [hbl]
      exact .inl hm
end Go.Proofs.YtelkpflpgpdkdaaGreatDoor
namespace Go.Proofs.YtelkpflpgpdkdaaGreatDoor
open Go.Sv
open Go.RowKit Go.Lib Go.Shelf Go.Sort
theorem itoaC : ItoaH := fun n hn => Con.raw (enters_of Tryz.func239 (by kernel_rfl) rfl) fun β S w vs hv hG => by
  obtain ⟨vs⟩ := vs
  match vs, hv with
  | [v], h =>
    have e : v = .int .i64 n := h.1
    subst e
    refine (Any.strconv_Itoa Tryz.laysM171 n (by omega) (by omega) w (hG.mono hide_shown)).mono ?_
    rintro e w' ⟨rfl, k, os, rfl⟩
    exact ⟨_, rfl, kept_grow _ _ _, _, rfl⟩
end Go.Proofs.YtelkpflpgpdkdaaGreatDoor
namespace Go.Proofs.YtelkpflpgpdkdaaGreatDoor
open Go.Sv
set_option maxRecDepth 10000 in
theorem tfineC (r : Registry) (k : Int) (s : State) (j : Nat) (x : Named) (hj : k = j) (hx : r.schemas[j]? = some x) (ht : x.typ.fit) (hs : s.fit) : ∀ n, Con Tryz.prog 107 [agD (regF r), iT k, agD (stateF s)] [] n (iT (fineE x.typ s)) [] n := by
  refine fnI Tryz.func107 Tryz.ntmps107 (h := fun S w0 β0 X => ?_)
  refine GO ?_
  refine Ch.p (OpT.indexR (hij := hj) (hj := hx)) ⟨rfl, rfl, trivial⟩ ?_
  refine GO ?_
  refine Ch.c (isC x.typ s.doc itoaC ht hs.1) (r := ?_)
  refine GO ?_
  refine W.cond rfl (fun h => ?_) (fun h => ?_)
  · refine GO ?_
    exact finI (he := by rw [fineE, if_pos (by simpa using h)])
  have h : ¬ isOf x.typ s.doc = false := by simpa using h
  refine GO ?_
  refine Ch.c (resRightC s.res hs.2.2) (r := ?_)
  refine GO ?_
  refine W.cond rfl (fun h2 => ?_) (fun h2 => ?_)
  · refine GO ?_
    exact finI (he := by rw [fineE, if_neg h, if_pos (by simpa using h2)])
  refine GO ?_
  exact finI (he := by rw [fineE, if_neg h, if_neg (by simpa using h2)])
end Go.Proofs.YtelkpflpgpdkdaaGreatDoor
namespace Go.Proofs.YtelkpflpgpdkdaaGreatDoor
open Go.Sv
set_option maxRecDepth 10000 in
set_option maxHeartbeats 1000000 in
theorem taroundC (r : Registry) (c : Int) (hr : r.joins.length ≤ 1000000) : ∀ n, Con Tryz.prog 126 [agD (regF r), iT c] [] n (dT (sl 2 ((arnd (hopsT c) 0 r.joins).map hopF))) [] n := by
  refine fnI Tryz.func126 Tryz.ntmps126 (h := fun S w0 β0 X => ?_)
  have st : Stop 2 := ⟨⟩
  refine GO ?_
  clear st
  refine W.nilT 5 177 2 (h := ?_)
  refine GO ?_
  refine W.lpG ((fun k => k ≤ r.joins.length ∧ (arnd (hopsT c) 0 (r.joins.take k)).length ≤ k)) (fun k => [(11, iT k), (5, .one (.key 1))]) [(1, _), (4, _), (9, _), (10, _)] (fun k => [(1, .row 177 2 ((arnd (hopsT c) 0 (r.joins.take k)).map hopF))]) [(0, _)] (r.joins.length - ·) 0 (⟨Nat.zero_le _, Nat.le_refl _⟩) (round := fun k hk => ?_)
  have hle := hk.2
  by_cases hlt : k < r.joins.length
  · have hx := List.getElem?_eq_getElem hlt
    generalize r.joins[k] = x at hx
    have ha := arnd_succ (F := hopsT c) hx
    have hl : ((arnd (hopsT c) 0 (r.joins.take k)).map hopF).length ≤ k := by rw [List.length_map]; exact hle
    refine GO ?_
    refine W.cond rfl (fun h => ?_) (fun h => ?_)
    · have h : x.from_ = c ∨ x.to = c := by simpa using h
      rw [hopsT, if_pos h] at ha
      refine GO ?_
      refine Ch.p (OpT.slice1' (hs := asAg (l := hopF ⟨k, decide (x.to = c)⟩) rfl)) ⟨rfl, trivial⟩ ?_
      refine GO ?_
      rw [show ((arnd (hopsT c) 0 (r.joins.take k)).map hopF) ++ [hopF ⟨k, decide (x.to = c)⟩] = (arnd (hopsT c) 0 (r.joins.take (k + 1))).map hopF by rw [ha, List.map_append]; rfl]
      refine W.swap 1 3 (h := ?_)
      exact W.ag (k + 1) (⟨hlt, by rw [ha, List.length_append, List.length_singleton]; omega⟩) (by omega)
    · have h : ¬ (x.from_ = c ∨ x.to = c) := by simpa using h
      rw [hopsT, if_neg h, List.append_nil] at ha
      refine GO ?_
      rw [← ha]
      exact W.ag (k + 1) (⟨hlt, by rw [ha]; omega⟩) (by omega)
  · obtain rfl : k = r.joins.length := by omega
    rw [List.take_length]
    refine GO ?_
    refine W.frz 1 (h := ?_)
    exact fin1
end Go.Proofs.YtelkpflpgpdkdaaGreatDoor

namespace Go.Proofs.YtelkpflpgpdkdaaGreatDoor
open Go.Sv
set_option maxRecDepth 10000 in
theorem adropC (l : List Res) (ed : Int) (st : List Int) (ks : List Str) (hl : l.length ≤ 1000000) (hf : ∀ x ∈ l, x.fit) : Con Tryz.prog 190 [dT (sl 8 (l.map resF)), iT ed, dT (intsD st), dT (strsD ks)] [] 0 (.one (.key 0)) [(0, .row 161 8 ((resDrop l ed st ks).map resF))] 1 := by
  refine fnH Tryz.func190 Tryz.ntmps190 (h := fun S w0 β0 X => ?_)
  have sp : Stop 3 := ⟨⟩
  refine GO ?_
  refine Ch.c (atC ed st ks) (r := ?_)
  refine GO ?_
  clear sp
  refine W.nilT 10 161 8 (h := ?_)
  refine GO ?_
  refine W.lpG ((· ≤ l.length)) (fun k => [(10, .one (.key 0)), (19, iT k)]) [(8, _), (9, _), (17, _), (18, _)] (fun k => [(0, .row 161 8 ((resDrop (l.take k) ed st ks).map resF))]) [] (l.length - ·) 0 (Nat.zero_le _) (round := fun k hk => ?_)
  have hle := drop_take (l := l) (k := k) ed st ks
  by_cases hlt : k < l.length
  · have hx := List.getElem?_eq_getElem hlt
    generalize l[k] = x at hx
    have hq := filter_take (q := fun x => !(resLess x (placeRes ed st ks) == 0)) hx
    have hl2 : ((resDrop (l.take k) ed st ks).map resF).length ≤ k := by rw [List.length_map]; exact hle
    have hc := at1C ed st ks x
    rw [show firstNZ [cmpI x.edge ed, cmpL cmpI x.step st, cmpL cmpS x.at_ ks] = resLess x (placeRes ed st ks) from resLess_first x (placeRes ed st ks)] at hc
    refine GO ?_
    refine Ch.dy (ts := [agD (resF x)]) (cs := [adr (keyF ed st ks)]) hc (r := ?_)
    refine GO ?_
    by_cases h1 : resLess x (placeRes ed st ks) = 0
    · have h2 : resDrop (l.take (k + 1)) ed st ks = resDrop (l.take k) ed st ks := by rw [resDrop, hq, if_neg (by simpa using h1), List.append_nil]; rfl
      refine GO ?_
      rw [← h2]
      exact W.ag (k + 1) (hlt) (by omega)
    · have h2 : resDrop (l.take (k + 1)) ed st ks = resDrop (l.take k) ed st ks ++ [x] := by rw [resDrop, hq, if_pos (by simpa using h1)]; rfl
      refine GO ?_
      refine Ch.c (copiedC x (hf x (List.mem_of_getElem? hx))) (r := ?_)
      refine GO ?_
      rw [show (resDrop (l.take k) ed st ks).map resF ++ [resF x] = (resDrop (l.take (k + 1)) ed st ks).map resF by rw [h2, List.map_append]; rfl]
      refine W.swap 0 2 (h := ?_)
      exact W.ag (k + 1) (hlt) (by omega)
  · obtain rfl : k = l.length := by omega
    rw [List.take_length]
    refine GO ?_
    exact finH
end Go.Proofs.YtelkpflpgpdkdaaGreatDoor

namespace Go.Proofs.YtelkpflpgpdkdaaGreatDoor
open Go.Sv
/-- slices.DeleteFunc. -/
def DelH : Prop := ∀ (l : List Fld) (f : FuncId) (cs : List D) (p : Fld → Bool), l.length ≤ 1000000 → (∀ x ∈ l, ∀ n, Con Tryz.prog f ([agD (fldF x)] ++ cs.map dT) [] n (bT (p x)) [] n) →
  Con Tryz.prog 272 [.one (.key 0), dT (cloD f cs)] [(0, .row 206 8 (l.map fldF))] 1 (.one (.key 1)) [(1, .row 206 8 ((l.filter fun x => !p x).map fldF))] 2
theorem recT_eq (l : List Fld) : agD (typF (.mk 1 0 0 [] l [])) = agD [i64 1, i64 0, i64 0, sl 1 [], sl 8 (l.map fldF), sl 6 []] := by
  rw [← (rowFlds l).eq]; rfl
set_option maxRecDepth 10000 in
theorem withoutC (t : Typ) (s : Str) (hD : DelH) (hl : t.fields.length ≤ 1000000) : ∀ n, Con Tryz.prog 255 [agD (typF t), sT s] [] n (agD (typF (t.without s))) [] n := by
  refine fnI Tryz.func255 Tryz.ntmps255 (h := fun S w0 β0 X => ?_)
  have s1 : Stop 1 := ⟨⟩
  refine GO ?_
  clear s1
  refine W.frzB 1 [str s] (h := ?_)
  have s2 : Stop 2 := ⟨⟩
  refine GO ?_
  refine Ch.ch [] (cloneFldC (fldsC t.fields) (by rw [fldsC_len]; omega)) (r := ?_)
  rw [(rowFlds t.fields).eq]
  refine GO ?_
  refine Ch.ch [3] (hD t.fields 273 [adr [str s]] (fun x => x.name.toList == s.toList) hl fun x hx => by
    refine fnI Tryz.func273 Tryz.ntmps273 (h := fun S w0 β0 X => ?_)
    refine GO ?_
    exact fin1) (r := ?_)
  refine GO ?_
  clear s2
  refine W.frz 4 (h := ?_)
  refine GO ?_
  refine W.nilB 2 3 9 1 (h := ?_)
  refine W.nilB 2 5 56 6 (h := ?_)
  refine W.frz 5 (h := ?_)
  refine W.frz 6 (h := ?_)
  exact fin1 (he := by exact Eq.trans rfl (recT_eq _).symm)
set_option maxRecDepth 10000 in
theorem withC (t : Typ) (f : Fld) (hs : Srt t.fields) (hn : ∀ g ∈ t.fields, g.name ≠ f.name) (hl : t.fields.length ≤ 1000000) : ∀ n, Con Tryz.prog 221 [agD (typF t), agD (fldF f)] [] n (agD (typF (t.with_ f))) [] n := by
  refine fnI Tryz.func221 Tryz.ntmps221 (h := fun S w0 β0 X => ?_)
  have s2 : Stop 2 := ⟨⟩
  refine GO ?_
  refine Ch.ch [] (cloneFldC (fldsC t.fields) (by rw [fldsC_len]; omega)) (r := ?_)
  rw [(rowFlds t.fields).eq]
  refine GO ?_
  refine Ch.p (OpT.slice1' (hs := asAg (l := fldF f) rfl)) ⟨rfl, trivial⟩ ?_
  refine GO ?_
  rw [show t.fields.map fldF ++ [fldF f] = (t.fields ++ [f]).map fldF by rw [List.map_append]; rfl]
  clear s2
  have s3 : Stop 3 := ⟨⟩
  refine GO ?_
  refine Ch.ch [4] (sortC t.fields f hs hn hl) (r := ?_)
  refine GO ?_
  clear s3
  refine W.frz 4 (h := ?_)
  refine GO ?_
  refine W.nilB 2 3 9 1 (h := ?_)
  refine W.nilB 2 5 56 6 (h := ?_)
  refine W.frz 5 (h := ?_)
  refine W.frz 6 (h := ?_)
  exact fin1 (he := by exact Eq.trans rfl (recT_eq _).symm)
set_option maxRecDepth 10000 in
theorem setC (t : Typ) (s : Str) (x : Typ) (hD : DelH) (hs : Srt t.fields) (hl : t.fields.length ≤ 1000000) : ∀ n, Con Tryz.prog 256 [agD (typF t), sT s, agD (typF x)] [] n (agD (typF (t.set s x))) [] n := by
  refine fnI Tryz.func256 Tryz.ntmps256 (h := fun S w0 β0 X => ?_)
  refine GO ?_
  refine Ch.c (withoutC t s hD hl) (r := ?_)
  refine GO ?_
  refine Ch.c (withC (t.without s) (.mk s false x) (Typ.without_srt s hs) (Typ.without_not s) (Nat.le_trans (List.length_filter_le ..) hl)) (r := ?_)
  refine GO ?_
  exact fin1
def recU (t : Typ) (e : Int) : T := .tup [.ag ((typF t).map C.d), .one (.d (i64 e))]
end Go.Proofs.YtelkpflpgpdkdaaGreatDoor
namespace Go.Proofs.YtelkpflpgpdkdaaGreatDoor
open Go.Sv
theorem findNC {t : Typ} {s : Str} (h : t.find s = none) : ∀ n, Con Tryz.prog 204 [agD (typF t), sT s] [] n (.tup [.ag (fldZ.map C.d), .one (.d (bl false))]) [] n := fun n => by
  have := lfindC t s n; rw [h] at this; exact this
theorem findSC {t : Typ} {s : Str} {f : Fld} (h : t.find s = some f) : ∀ n, Con Tryz.prog 204 [agD (typF t), sT s] [] n (.tup [.ag ((fldF f).map C.d), .one (.d (bl true))]) [] n := fun n => by
  have := lfindC t s n; rw [h] at this; exact this
theorem Typ.right_len {t : Typ} (h : t.right = true) : t.fields.length ≤ 1000000 := by
  have := (Typ.right_fit h).fields
  omega
theorem Typ.find_no {t : Typ} (hk : t.kind = 1) {s : Str} (h : t.find s = none) : ∀ g ∈ t.fields, g.name ≠ s := fun g hg he => by
  rw [Typ.find, if_pos hk] at h
  have := List.find?_eq_none.1 h g hg
  rw [he] at this
  simp at this
theorem typ_nils {k lo hi : Int} (t : Typ) (w : World) (us : List Value) (h : Cells w [i64 k, i64 lo, i64 hi, nilD, nilD, sl 6 [typF t]] us) : Cells w (typF (.mk k lo hi [] [] [t])) us := by
  show Cells w [i64 k, i64 lo, i64 hi, sl 1 [], sl 8 [], sl 6 (typsC [t])] us
  rw [(rowTyps [t]).eq]
  match us, h with
  | [_, _, _, _, _, _], h => exact ⟨h.1, h.2.1, h.2.2.1, nil_sl _ _ _ h.2.2.2.1, nil_sl _ _ _ h.2.2.2.2.1, h.2.2.2.2.2⟩
theorem recU_e {t u : Typ} {e f : Int} (h : u = t) (h2 : f = e) : recU u f = recU t e := by rw [h, h2]
set_option maxRecDepth 10000 in
theorem lscalarC (t : Typ) (d : Doc) (ht : t.fit) (hd : d.fit) : ∀ n, Con Tryz.prog 222 [agD (typF t), agD (docF d)] [] n (iT (scalarE t d)) [] n := by
  refine fnI Tryz.func222 Tryz.ntmps222 (h := fun S w0 β0 X => ?_)
  refine GO ?_
  refine Ch.c (rightTC t ht) (r := ?_)
  refine GO ?_
  refine Ch.gc (hc := fun _ => scalarC t) (r := ?_)
  refine GO ?_
  refine W.cond rfl (fun h => ?_) (fun h => ?_)
  · refine GO ?_
    exact finI (he := by grind [scalarE])
  refine GO ?_
  refine Ch.c (isC t d itoaC ht hd) (r := ?_)
  refine GO ?_
  refine W.cond rfl (fun h2 => ?_) (fun h2 => ?_)
  · refine GO ?_
    exact finI (he := by grind [scalarE])
  refine GO ?_
  exact finI (he := by grind [scalarE])
def addT (t : Typ) (a : Str) (ty : Typ) : Typ := if nameOk a = false then t else if (t.find a).isSome then t else t.with_ (.mk a false ty)
set_option maxRecDepth 10000 in
theorem laddC (t : Typ) (s : Lens) (ht : t.right = true) (hk : t.kind = 1) (hs : s.typ.fit) (hd : s.doc.fit) : ∀ n, Con Tryz.prog 202 [agD (typF t), agD (lensF s)] [] n (recU (addT t s.a s.typ) (addE t s.a s.typ s.doc)) [] n := by
  refine fnI Tryz.func202 Tryz.ntmps202 (h := fun S w0 β0 X => ?_)
  cases hf : t.find s.a with
  | some f =>
    refine GO ?_
    refine Ch.c (findSC hf) (r := ?_)
    refine GO ?_
    refine Ch.c (nameC s.a) (r := ?_)
    refine GO ?_
    refine W.cond rfl (fun h => ?_) (fun h => ?_)
    · rw [recU_e (t := t) (e := 1) (by grind [addT]) (by grind [addE])]
      refine GO ?_
      exact fin2
    rw [recU_e (t := t) (e := 5) (by grind [addT]) (by grind [addE])]
    refine GO ?_
    exact fin2
  | none =>
    refine GO ?_
    refine Ch.c (findNC hf) (r := ?_)
    refine GO ?_
    refine Ch.c (nameC s.a) (r := ?_)
    refine GO ?_
    refine W.cond rfl (fun h => ?_) (fun h => ?_)
    · rw [recU_e (t := t) (e := 1) (by grind [addT]) (by grind [addE])]
      refine GO ?_
      exact fin2
    rw [recU_e (t := t.with_ (.mk s.a false s.typ)) (e := scalarE s.typ s.doc) (by grind [addT]) (by grind [addE])]
    refine GO ?_
    refine Ch.c (withC t (.mk s.a false s.typ) (right_srt ht) (Typ.find_no hk hf) (Typ.right_len ht)) (r := ?_)
    refine GO ?_
    refine Ch.c (lscalarC s.typ s.doc hs hd) (r := ?_)
    refine GO ?_
    exact fin2
def renT (t : Typ) (f : Fld) (a b : Str) : Typ := if nameOk b = false then t else if (t.find b).isSome then t else (t.without a).with_ (.mk b f.opt f.typ)
theorem wo_len (t : Typ) (s : Str) (ht : t.fields.length ≤ 1000000) : (t.without s).fields.length ≤ 1000000 := Nat.le_trans (List.length_filter_le ..) ht
theorem without_no {t : Typ} {b : Str} (a : Str) (h : ∀ g ∈ t.fields, g.name ≠ b) : ∀ g ∈ (t.without a).fields, g.name ≠ b := fun g hg => h g ((List.mem_filter.1 hg).1)
set_option maxRecDepth 10000 in
theorem lrenameC (t : Typ) (f : Fld) (s : Lens) (hD : DelH) (ht : t.right = true) (hk : t.kind = 1) : ∀ n, Con Tryz.prog 223 [agD (typF t), agD (fldF f), agD (lensF s)] [] n (recU (renT t f s.a s.b) (renameE t s.b)) [] n := by
  refine fnI Tryz.func223 Tryz.ntmps223 (h := fun S w0 β0 X => ?_)
  cases hf : t.find s.b with
  | some g =>
    refine GO ?_
    refine Ch.c (findSC hf) (r := ?_)
    refine GO ?_
    refine Ch.c (nameC s.b) (r := ?_)
    refine GO ?_
    refine W.cond rfl (fun h => ?_) (fun h => ?_)
    · rw [recU_e (t := t) (e := 1) (by grind [renT]) (by grind [renameE])]
      refine GO ?_
      exact fin2
    rw [recU_e (t := t) (e := 5) (by grind [renT]) (by grind [renameE])]
    refine GO ?_
    exact fin2
  | none =>
    refine GO ?_
    refine Ch.c (findNC hf) (r := ?_)
    refine GO ?_
    refine Ch.c (nameC s.b) (r := ?_)
    refine GO ?_
    refine W.cond rfl (fun h => ?_) (fun h => ?_)
    · rw [recU_e (t := t) (e := 1) (by grind [renT]) (by grind [renameE])]
      refine GO ?_
      exact fin2
    rw [recU_e (t := (t.without s.a).with_ (.mk s.b f.opt f.typ)) (e := 0) (by grind [renT]) (by grind [renameE])]
    refine GO ?_
    refine Ch.c (withoutC t s.a hD (Typ.right_len ht)) (r := ?_)
    refine GO ?_
    refine Ch.c (withC (t.without s.a) (.mk s.b f.opt f.typ) (Typ.without_srt s.a (right_srt ht)) (without_no s.a (Typ.find_no hk hf)) (wo_len t s.a (Typ.right_len ht))) (r := ?_)
    refine GO ?_
    exact fin2
def remT (t : Typ) (f : Fld) (a : Str) (ty : Typ) : Typ := if Typ.same f.typ ty = false then t else t.without a
set_option maxRecDepth 10000 in
theorem lremoveC (t : Typ) (f : Fld) (s : Lens) (hD : DelH) (ht : t.right = true) (hs : s.typ.fit) (hd : s.doc.fit) : ∀ n, Con Tryz.prog 224 [agD (typF t), agD (fldF f), agD (lensF s)] [] n (recU (remT t f s.a s.typ) (removeE f s.typ s.doc)) [] n := by
  refine fnI Tryz.func224 Tryz.ntmps224 (h := fun S w0 β0 X => ?_)
  refine GO ?_
  refine Ch.c (sameTC f.typ s.typ) (r := ?_)
  refine GO ?_
  refine W.cond rfl (fun h => ?_) (fun h => ?_)
  · rw [recU_e (t := t) (e := 7) (by grind [remT]) (by grind [removeE])]
    refine GO ?_
    exact fin2
  rw [recU_e (t := t.without s.a) (e := scalarE s.typ s.doc) (by grind [remT]) (by grind [removeE])]
  refine GO ?_
  refine Ch.c (withoutC t s.a hD (Typ.right_len ht)) (r := ?_)
  refine GO ?_
  refine Ch.c (lscalarC s.typ s.doc hs hd) (r := ?_)
  refine GO ?_
  exact fin2
def wrapT (t : Typ) (f : Fld) (a : Str) : Typ := if scalarB f.typ = false then t else t.set a (.mk 3 1 1 [] [] [f.typ])
set_option maxRecDepth 10000 in
theorem lwrapC (t : Typ) (f : Fld) (s : Lens) (hD : DelH) (ht : t.right = true) : ∀ n, Con Tryz.prog 227 [agD (typF t), agD (fldF f), agD (lensF s)] [] n (recU (wrapT t f s.a) (if scalarB f.typ then 0 else 7)) [] n := by
  refine fnI Tryz.func227 Tryz.ntmps227 (h := fun S w0 β0 X => ?_)
  refine GO ?_
  refine Ch.c (scalarC f.typ) (r := ?_)
  refine GO ?_
  refine W.cond rfl (fun h => ?_) (fun h => ?_)
  · rw [recU_e (t := t) (e := 7) (by grind [wrapT]) (by grind)]
    refine GO ?_
    exact fin2
  rw [recU_e (t := t.set s.a (.mk 3 1 1 [] [] [f.typ])) (e := 0) (by grind [wrapT]) (by grind)]
  refine GO ?_
  refine Ch.p (OpT.slice1' (hs := asAg (l := typF f.typ) rfl)) ⟨rfl, trivial⟩ ?_
  refine GO ?_
  refine Ch.c (fun n => (setC t s.a (.mk 3 1 1 [] [] [f.typ]) hD (right_srt ht) (Typ.right_len ht) n).argL (args := [agD (typF t), sT s.a, agD [i64 3, i64 1, i64 1, nilD, nilD, sl 6 [typF f.typ]]]) ⟨.refl _, .refl _, .ag (typ_nils f.typ), trivial⟩) (r := ?_)
  refine GO ?_
  exact fin2
end Go.Proofs.YtelkpflpgpdkdaaGreatDoor

