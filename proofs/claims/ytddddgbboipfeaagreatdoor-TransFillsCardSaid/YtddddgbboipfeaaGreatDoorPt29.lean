/- Part 29 of what TransFills asks: for every input it returns true, and its input reads as it did. No condition. -/
import Derived.Test.YtddddgbboipfeaaGreatDoorPt15
import Derived.Test.YtddddgbboipfeaaGreatDoorPt25
import Derived.Test.YtddddgbboipfeaaGreatDoorPt27
import Derived.Test.YtddddgbboipfeaaGreatDoorPt28
namespace Go.Proofs.YtddddgbboipfeaaGreatDoor
open Go.Sv
open Go.RowKit Go.Lib Go.Shelf Go.Sort
theorem entersF {P : Program} {f : FuncId} {fn : Go.Func} {c : Code} (hf : P.funcs[f]? = some fn) (hnm : (fn.name == "runtime.NumGoroutine") = false) (hb : fn.body = some c) : Enters P f := fun args w => by simp only [callFunc, Sem.run_bind, run_program, Result.andThen_ok, hf, hb, hnm, Option.isNone, Bool.false_eq_true, if_false, Sem.run_pure]
theorem kept_grow (w : World) (q : Nat) (os : Array Obj) : Kept [] w (grow (w.drewN q) os) := ⟨rfl, rfl, rfl, by simp [grow, World.drewN], fun k hk _ => by simp only [grow, World.drewN]; rw [Array.getElem?_append_left hk]⟩
/-- A field's cells: its name, and what is behind it. -/
structure FE where
  name : Str
  r : List Value
  len : r.length = 7
  one : ∀ u ∈ r, u.oneCell' = true
def FE.enc (p : FE) : List Value := .string p.name :: p.r
instance : Inhabited FE := ⟨⟨⟨#[]⟩, List.replicate 7 (.bool false), rfl, by simp [Value.oneCell']⟩⟩
theorem FE.enc_len (p : FE) : p.enc.length = 8 := congrArg (· + 1) p.len
theorem FE.enc_one (p : FE) : ∀ v ∈ p.enc, v.oneCell' = true := fun v hv => by
  rcases List.mem_cons.1 hv with rfl | hv
  · rfl
  · exact p.one v hv
def cmpE (p q : FE) : Int := Lib.compareBytes p.name.data.toList q.name.data.toList
theorem ltE (p q : FE) : ltOf cmpE p q = sLt p.name q.name := by
  rw [sLt_cmp, ByteArray.toList_eq, ByteArray.toList_eq]; rfl
theorem swoE : SWO (ltOf cmpE) where
  irrefl x := by rw [ltE, sLt_irr]
  trans x y z h1 h2 := by rw [ltE] at *; exact sLt_trans h1 h2
  ntrans x y z h1 h2 := by rw [ltE] at *; exact sLt_ntrans h1 h2
theorem grow2 (w : World) (o1 o2 : Obj) : (w.alloc o1).alloc o2 = grow (w.drewN 0) #[o1, o2] := by
  show ({ w with heap := (w.heap.push o1).push o2 } : World) = { w with heap := w.heap ++ #[o1, o2] }
  congr 1
set_option maxHeartbeats 1000000 in
theorem with1_any (x y : FE) (w : World) : Calls Tryz.prog 280 #[.agg x.enc.toArray, .agg y.enc.toArray] w fun e w' => e = .returned (.int .i64 (cmpE x y)) ∧ ∃ q os', w' = grow (w.drewN q) os' := by
  have HC : ∀ W, Calls Tryz.prog 281 #[.string x.name, .string y.name] W fun e w' => e = .returned (.int .i64 (cmpE x y)) ∧ w' = W := fun W => Any.strings_Compare Tryz.lays106 x.name y.name W
  generalize cmpE x y = r at *
  obtain ⟨n1, r1, h1, _⟩ := x
  obtain ⟨n2, r2, h2, _⟩ := y
  simp only [FE.enc] at HC ⊢
  match r1, h1, r2, h2 with
  | [a1, a2, a3, a4, a5, a6, a7], _, [b1, b2, b3, b4, b5, b6, b7], _ =>
    have HC := Lib.hid HC
    go_enter Tryz.func280, Tryz.ntmps280
    go_wp2_with (refine (HC.out _).mono ?_; rintro e w1 ⟨rfl, rfl⟩)
    go_ret
    exact ⟨rfl, 0, _, grow2 _ _ _⟩
section
variable {V : World}
theorem mk_fe : ∀ (xs : List Fld) (us : List Value), Cells V (xs.map fldF).flatten us → ∃ ps : List FE, ps.flatMap FE.enc = us ∧ All2 (fun x p => p.name = x.name ∧ Cells V (fldF x) p.enc) xs ps
  | [], [], _ => ⟨[], rfl, trivial⟩
  | [], _ :: _, h => h.elim
  | x :: xs, us, h => by
    rw [List.map_cons, List.flatten_cons] at h
    obtain ⟨m1, m2, rfl, h1, h2⟩ := All2.split h
    obtain ⟨ps, h3, h4⟩ := mk_fe xs m2 h2
    have hl := h1.len
    match m1, h1, hl with
    | v :: r, h1, hl =>
      have hv : v = .string x.name := h1.1
      subst hv
      have hr : r.length = 7 := by simpa [fldF, typF] using hl.symm
      refine ⟨⟨x.name, r, hr, fun u hu => CellsC.one (β := fun _ => undef) (cs := (fldF x).map C.d) (us := .string x.name :: r) (all2_map.2 h1) u (List.mem_cons_of_mem _ hu)⟩ :: ps, ?_, ⟨rfl, h1⟩, h4⟩
      show (_ :: r) ++ ps.flatMap FE.enc = _
      rw [h3]
theorem fe_cells : ∀ {xs : List Fld} {ps : List FE}, All2 (fun x p => p.name = x.name ∧ Cells V (fldF x) p.enc) xs ps → Cells V (xs.map fldF).flatten (ps.flatMap FE.enc)
  | [], [], _ => trivial
  | x :: xs, p :: ps, h => by
    rw [List.map_cons, List.flatten_cons, List.flatMap_cons]
    exact All2.append h.1.2 (fe_cells h.2)
  | [], _ :: _, h => h.elim
  | _ :: _, [], h => h.elim
theorem all2_perm {α β : Type} {R : α → β → Prop} {ps qs : List β} (hp : ps.Perm qs) : ∀ {xs : List α}, All2 R xs ps → ∃ ys : List α, ys.Perm xs ∧ All2 R ys qs := by
  induction hp with
  | nil => intro xs h; exact ⟨xs, .refl _, h⟩
  | cons x _ ih => intro xs h; cases xs with
    | nil => exact h.elim
    | cons y ys =>
      obtain ⟨zs, h1, h2⟩ := ih h.2
      exact ⟨y :: zs, h1.cons y, h.1, h2⟩
  | swap x y l => intro xs h; match xs, h with
    | a :: b :: ys, h => exact ⟨b :: a :: ys, .swap _ _ _, h.2.1, h.1, h.2.2⟩
  | trans _ _ ih1 ih2 => intro xs h
                         obtain ⟨ys, h1, h2⟩ := ih1 h
                         obtain ⟨zs, h3, h4⟩ := ih2 h2
                         exact ⟨zs, h3.trans h1, h4⟩
end
theorem enc_flat : ∀ (ps : List FE) (j i : Nat), (i < 8) → (ps.flatMap FE.enc)[j * 8 + i]? = (ps[j]?).bind fun p => p.enc[i]?
  | [], j, i, _ => by simp
  | p :: ps, 0, i, hi => by
    rw [List.flatMap_cons, List.getElem?_append_left (by rw [p.enc_len]; omega)]
    simp
  | p :: ps, j + 1, i, hi => by
    rw [List.flatMap_cons, List.getElem?_append_right (by rw [p.enc_len]; omega), p.enc_len, show (j + 1) * 8 + i - 8 = j * 8 + i by omega, enc_flat ps j i hi]
    simp
theorem enc_len (ps : List FE) : (ps.flatMap FE.enc).length = ps.length * 8 := by
  induction ps with
  | nil => rfl
  | cons p ps ih => rw [List.flatMap_cons, List.length_append, ih, p.enc_len, List.length_cons]; omega
theorem flatK_eq (d : Array FE) : (flatK FE.enc 8 d).toList = d.toList.flatMap FE.enc := by
  refine List.ext_getElem? fun q => ?_
  by_cases hq : q < d.size * 8
  · rw [show q = q / 8 * 8 + q % 8 by omega, enc_flat _ _ _ (Nat.mod_lt _ (by decide)), show q / 8 * 8 + q % 8 = q by omega]
    have h1 : q / 8 < d.size := by omega
    have h2 := get_flatK FE.enc 8 d q hq
    have h3 : q < (flatK FE.enc 8 d).size := by simpa using hq
    rw [getElem!_pos (flatK FE.enc 8 d) q h3] at h2
    rw [Array.getElem?_toList, Array.getElem?_eq_getElem h3, h2, Array.getElem?_toList, Array.getElem?_eq_getElem h1, Option.bind_some, getElem!_pos d _ h1]
    have h4 : q % 8 < (d[q / 8]).enc.length := by rw [FE.enc_len]; omega
    rw [getElem!_pos (d[q / 8]).enc _ h4, List.getElem?_eq_getElem h4]
  · rw [List.getElem?_eq_none (by simp; omega), List.getElem?_eq_none (by rw [enc_len]; simp; omega)]
theorem heap_sorted {w : World} {g n : Nat} {os : Array Obj} {d : Array FE} {cur : Array Value} {ty : TypeId} (hg : w.heap[g]? = some (.cells cur ty (0, 0))) (hd : d.size * 8 ≤ cur.size) :
    ∃ cur', (sortWorldK FE.enc 8 w g 0 n d os).heap[g]? = some (.cells cur' ty (0, 0)) ∧ cur'.size = cur.size ∧ cur'.toList.take (d.size * 8) = d.toList.flatMap FE.enc := by
  have hlt := (Array.getElem?_eq_some_iff.1 hg).1
  refine ⟨putCells id 0 (flatK FE.enc 8 d) cur, ?_, by simp [putCells], ?_⟩
  · show ((w.heap.modify g (onCells (putCells id 0 (flatK FE.enc 8 d)))) ++ os)[g]? = _
    rw [Array.getElem?_append_left (by simpa using hlt), Array.getElem?_modify, if_pos rfl, hg]
    rfl
  · rw [← flatK_eq]
    refine List.ext_getElem? fun q => ?_
    rw [List.getElem?_take]
    by_cases hq : q < d.size * 8
    · have h3 : q < (flatK FE.enc 8 d).size := by simpa using hq
      rw [if_pos hq, Array.getElem?_toList, Array.getElem?_toList, putCells, Array.getElem?_mapIdx, Array.getElem?_eq_getElem (show q < cur.size by omega), Array.getElem?_eq_getElem h3, Option.map_some, if_pos ⟨Nat.zero_le _, by omega⟩, Nat.sub_zero, getElem!_pos (flatK FE.enc 8 d) q h3]
      rfl
    · rw [if_neg hq, List.getElem?_eq_none (by simp; omega)]
theorem kept_sorted {w : World} {g n : Nat} {os : Array Obj} {d : Array FE} : Kept [g] w (sortWorldK FE.enc 8 w g 0 n d os) := ⟨rfl, rfl, rfl, size_sortWorldK_c .., fun k hk hn => by
  have hne : ¬ g = k := fun e => hn (by rw [e]; exact List.mem_singleton.2 rfl)
  show ((w.heap.modify g (onCells (putCells id 0 (flatK FE.enc 8 d)))) ++ os)[k]? = _
  rw [Array.getElem?_append_left (by simpa using hk), Array.getElem?_modify, if_neg hne]⟩
theorem sortC (l : List Fld) (f : Fld) (hs : Srt l) (hn : ∀ g ∈ l, g.name ≠ f.name) (hl : l.length ≤ 1000000) : Con Tryz.prog 279 [.one (.key 0), dT (cloD 280 [])] [(0, .row 66 8 ((l ++ [f]).map fldF))] 1 (.tup []) [(0, .row 66 8 ((Typ.ins f l).map fldF))] 1 := by
  refine ⟨entersF Tryz.func279 (by kernel_rfl) rfl, Nat.le_refl _, fun β S w vs hv hO => ?_⟩
  obtain ⟨vs⟩ := vs
  match vs, hv with
  | [v0, v1], h =>
    obtain ⟨e0, ⟨us1, e1, h1⟩, _⟩ := h
    obtain rfl : us1 = [] := by cases us1 with | nil => rfl | cons => exact h1.elim
    have e0 : v0 = β 0 := e0.1
    obtain ⟨_, _, hlen, hrow⟩ := hO.is (0, _) (List.mem_cons_self ..)
    rcases hrow with ⟨_, h2⟩ | ⟨g, c, cur, us, h2, h3, h4, h5, h6, h7, h8⟩
    · simp at h2
    have h2 : β 0 = .slice (some ⟨g, 0, none⟩) ((l ++ [f]).map fldF).length c := h2
    have hbl : blks β [(0, Own.row 66 8 ((l ++ [f]).map fldF))] = [g] := by simp [blks, h2, blk]
    obtain ⟨ps, h9, h10⟩ := mk_fe (l ++ [f]) us h8
    have hpl := h10.len
    rw [List.length_map] at h2 h4 h7
    have hH : HoldsK FE.enc 8 w g 0 ps.toArray := fun j hj => by
      rw [size_flatK, List.size_toArray] at hj
      have hj2 : j < (flatK FE.enc 8 ps.toArray).size := by simpa using hj
      refine ⟨?_, by simp [World.frozen?, h3]⟩
      have h11 : (cur.toList.take ((l ++ [f]).length * 8))[j]? = (flatK FE.enc 8 ps.toArray).toList[j]? := by rw [h7, ← h9, flatK_eq]
      rw [List.getElem?_take, if_pos (by omega), Array.getElem?_toList, Array.getElem?_toList] at h11
      rw [cell_of_row _ _ _ _ _ _ h3, Nat.zero_add, h11, Array.getElem?_eq_getElem hj2, getElem!_pos (flatK FE.enc 8 ps.toArray) j hj2]
      rfl
    have hlt := (Array.getElem?_eq_some_iff.1 h3).1
    have hcon := AnyQ.slices_SortFunc Tryz.sortFld 8 Tryz.isAgg66 Tryz.sizeOf66 FE.enc FE.enc_len FE.enc_one cmpE swoE 280 #[] g 0 c ps.toArray w (entersF Tryz.func280 (by kernel_rfl) rfl) (fun m os dk _ x y => with1_any x y _) hH hlt (by rw [List.size_toArray, ← hpl, List.length_append, List.length_singleton]; omega)
    have hcon' : Calls Tryz.prog 279 #[.slice (some ⟨g, 0, none⟩) ps.toArray.size c, .func (.func 280) #[] #[]] w _ := hcon
    rw [List.size_toArray, ← hpl, ← h2, ← e0] at hcon'
    rw [e1]
    refine hcon'.mono ?_
    rintro e w' ⟨rfl, d', n, os, ⟨hp1, _, hp3⟩, hso, rfl⟩
    have hsz : d'.size = ps.length := by simpa using hp1
    have hperm : d'.toList.Perm ps := by
      have e1 : d'.extract 0 ps.length = d' := by rw [← hsz]; simp
      have e2 : ps.toArray.extract 0 ps.length = ps.toArray := by simp
      rw [hpl, e1, e2] at hp3
      exact hp3
    obtain ⟨ys, h11, h12⟩ := all2_perm hperm.symm h10
    have hys : ys = Typ.ins f l := Typ.sorted_ins hs hn h11 (by
      rw [List.pairwise_iff_getElem]
      intro i j hi hj hij
      have hyl := h12.len
      have hj' : j < d'.size := by rw [Array.length_toList (xs := d')] at hyl; omega
      have := hso i j (Nat.zero_le _) hij (by first | omega | (simp; omega))
      rw [getElem!_pos d' j hj', getElem!_pos d' i (by omega), ltE] at this
      obtain ⟨p, h13, h14, _⟩ := h12.get (List.getElem?_eq_getElem hi)
      obtain ⟨q, h15, h16, _⟩ := h12.get (List.getElem?_eq_getElem hj)
      rw [Array.getElem?_toList, Array.getElem?_eq_getElem (by omega)] at h13
      rw [Array.getElem?_toList, Array.getElem?_eq_getElem hj'] at h15
      cases h13
      cases h15
      rw [← h14, ← h16]
      exact this)
    subst hys
    obtain ⟨cur', h13, h14, h15⟩ := heap_sorted (n := n) (os := os) (d := d') h3 (by omega)
    have hkept : Kept [g] w (sortWorldK FE.enc 8 w g 0 n d' os) := kept_sorted
    have hil := h12.len
    rw [Array.length_toList (xs := d'), hsz, ← hpl] at hil
    have hbl2 : blks β [(0, Own.row 66 8 ((Typ.ins f l).map fldF))] = [g] := by simp [blks, h2, blk]
    have hV : Sub (View β [(0, Own.row 66 8 ((l ++ [f]).map fldF))] S w) (View β [(0, Own.row 66 8 ((Typ.ins f l).map fldF))] S (sortWorldK FE.enc 8 w g 0 n d' os)) := by
      unfold View
      rw [hbl, hbl2]
      exact hide_sub hkept fun k _ hk => ⟨fun hm => hk (List.mem_append_left _ hm), hk⟩
    refine ⟨_, β, rfl, hbl.symm ▸ hkept, fun _ _ => rfl, bel0 rfl, ⟨[], rfl, trivial⟩, ⟨fun e he => ?_, fun e he e' he' hne => ?_, fun b hm => ?_, fun b hb => ?_⟩, fun b hm => ?_⟩
    · cases List.mem_singleton.1 he
      refine ⟨Nat.zero_lt_one, nofun, fun x hx => ?_, .inr ⟨g, c, cur', _, ?_, h13, ?_, h5, by rw [h14]; exact h6, rfl, ?_⟩⟩
      · obtain ⟨y, _, rfl⟩ := List.mem_map.1 hx; rfl
      · rw [List.length_map, hil]; exact h2
      · rw [List.length_map, hil]; exact h4
      · rw [List.length_map, hil, hpl, ← hsz, h15]
        exact Cells.mono hV (fe_cells h12)
    · cases List.mem_singleton.1 he
      cases List.mem_singleton.1 he'
      exact absurd rfl hne
    · rw [hbl2] at hm
      exact hO.out b (by rw [hbl]; exact hm)
    · exact Nat.lt_of_lt_of_le (hO.lt b hb) hkept.size
    · rw [hbl2] at hm
      rw [hbl]
      exact .inl hm
end Go.Proofs.YtddddgbboipfeaaGreatDoor
namespace Go.Proofs.YtddddgbboipfeaaGreatDoor
open Go.Sv
/-- slices.DeleteFunc. -/
def DelH : Prop := ∀ (l : List Fld) (f : FuncId) (cs : List D) (p : Fld → Bool), l.length ≤ 1000000 → (∀ x ∈ l, ∀ n, Con Tryz.prog f ([agD (fldF x)] ++ cs.map dT) [] n (bT (p x)) [] n) →
  Con Tryz.prog 291 [.one (.key 0), dT (cloD f cs)] [(0, .row 66 8 (l.map fldF))] 1 (.one (.key 1)) [(1, .row 66 8 ((l.filter fun x => !p x).map fldF))] 2
theorem recT_eq (l : List Fld) : agD (typF (.mk 1 0 0 [] l [])) = agD [i64 1, i64 0, i64 0, sl 1 [], sl 8 (l.map fldF), sl 6 []] := by
  rw [← (rowFlds l).eq]; rfl
set_option maxRecDepth 10000 in
theorem withoutC (t : Typ) (s : Str) (hD : DelH) (hl : t.fields.length ≤ 1000000) : ∀ n, Con Tryz.prog 283 [agD (typF t), sT s] [] n (agD (typF (t.without s))) [] n := by
  refine fnI Tryz.func283 Tryz.ntmps283 (h := fun S w0 β0 X => ?_)
  have s1 : Stop 1 := ⟨⟩
  refine GO ?_
  clear s1
  refine W.frzB 1 [str s] (h := ?_)
  have s2 : Stop 2 := ⟨⟩
  refine GO ?_
  refine Ch.ch [] (cloneFldC (fldsC t.fields) (by rw [fldsC_len]; omega)) (r := ?_)
  rw [(rowFlds t.fields).eq]
  refine GO ?_
  refine Ch.ch [3] (hD t.fields 292 [adr [str s]] (fun x => x.name.toList == s.toList) hl fun x hx => by
    refine fnI Tryz.func292 Tryz.ntmps292 (h := fun S w0 β0 X => ?_)
    refine GO ?_
    exact fin1) (r := ?_)
  refine GO ?_
  clear s2
  refine W.frz 4 (h := ?_)
  refine GO ?_
  refine W.nilB 2 3 9 1 (h := ?_)
  refine W.nilB 2 5 62 6 (h := ?_)
  refine W.frz 5 (h := ?_)
  refine W.frz 6 (h := ?_)
  exact fin1 (he := by exact Eq.trans rfl (recT_eq _).symm)
set_option maxRecDepth 10000 in
theorem withC (t : Typ) (f : Fld) (hs : Srt t.fields) (hn : ∀ g ∈ t.fields, g.name ≠ f.name) (hl : t.fields.length ≤ 1000000) : ∀ n, Con Tryz.prog 254 [agD (typF t), agD (fldF f)] [] n (agD (typF (t.with_ f))) [] n := by
  refine fnI Tryz.func254 Tryz.ntmps254 (h := fun S w0 β0 X => ?_)
  have s2 : Stop 2 := ⟨⟩
  refine GO ?_
  refine Ch.ch [] (cloneFldC (fldsC t.fields) (by rw [fldsC_len]; omega)) (r := ?_)
  rw [(rowFlds t.fields).eq]
  refine GO ?_
  refine Ch.p (OpT.slice1' (hs := asAg (l := fldF f) rfl)) ⟨rfl, trivial⟩ ?_
  refine GO ?_
  rw [show t.fields.map fldF ++ [fldF f] = (t.fields ++ [f]).map fldF by rw [List.map_append]; rfl]
  clear s2
  have s3 : Stop 3 := ⟨⟩
  refine GO ?_
  refine Ch.ch [4] (sortC t.fields f hs hn hl) (r := ?_)
  refine GO ?_
  clear s3
  refine W.frz 4 (h := ?_)
  refine GO ?_
  refine W.nilB 2 3 9 1 (h := ?_)
  refine W.nilB 2 5 62 6 (h := ?_)
  refine W.frz 5 (h := ?_)
  refine W.frz 6 (h := ?_)
  exact fin1 (he := by exact Eq.trans rfl (recT_eq _).symm)
set_option maxRecDepth 10000 in
theorem setC (t : Typ) (s : Str) (x : Typ) (hD : DelH) (hs : Srt t.fields) (hl : t.fields.length ≤ 1000000) : ∀ n, Con Tryz.prog 284 [agD (typF t), sT s, agD (typF x)] [] n (agD (typF (t.set s x))) [] n := by
  refine fnI Tryz.func284 Tryz.ntmps284 (h := fun S w0 β0 X => ?_)
  refine GO ?_
  refine Ch.c (withoutC t s hD hl) (r := ?_)
  refine GO ?_
  refine Ch.c (withC (t.without s) (.mk s false x) (Typ.without_srt s hs) (Typ.without_not s) (Nat.le_trans (List.length_filter_le ..) hl)) (r := ?_)
  refine GO ?_
  exact fin1
def recU (t : Typ) (e : Int) : T := .tup [.ag ((typF t).map C.d), .one (.d (i64 e))]
end Go.Proofs.YtddddgbboipfeaaGreatDoor
namespace Go.Proofs.YtddddgbboipfeaaGreatDoor
open Go.Sv
set_option maxRecDepth 10000 in
theorem cmpDocsC {ls ms : List (List D)} {l m : List Doc} [Row ls Doc l docF] [Row ms Doc m docF] (hc : ∀ x ∈ l, ∀ y ∈ m, ∀ n, Con Tryz.prog 83 ([agD (docF x), agD (docF y)] ++ [].map dT) [] n (iT (Doc.cmp x y)) [] n) : ∀ n, Con Tryz.prog 124 [dT (sl 5 ls), dT (sl 5 ms), dT (cloD 83 [])] [] n (iT (cmpL Doc.cmp l m)) [] n := by
  refine fnI Tryz.func124 Tryz.ntmps124 (h := fun S w0 β0 X => ?_)
  refine GO ?_
  refine W.len 11 (h := fun hl => ?_)
  refine W.len 1 (h := fun hl => ?_)
  refine W.lp (fun k => k ≤ l.length ∧ cmpL Doc.cmp (l.drop k) (m.drop k) = cmpL Doc.cmp l m) (fun k => [(13, iT k)]) [(12, _), (11, _), (0, _), (1, _), (2, _)] (l.length - ·) 0 (⟨Nat.zero_le _, rfl⟩) (round := fun k hk => ?_)
  by_cases hlt : k < l.length
  · have hx := List.getElem?_eq_getElem hlt
    generalize l[k] = x at hx
    by_cases hm2 : m.length ≤ k
    · refine GO ?_
      exact finI (he := by rw [← hk.2, cmpL_long hlt hm2])
    · have hy := List.getElem?_eq_getElem (show k < m.length by omega)
      generalize m[k]'(by omega) = y at hy
      have he := cmpL_drop (f := Doc.cmp) hx hy
      refine GO ?_
      refine Ch.dy (ts := [_, _]) (hc x (List.mem_of_getElem? hx) y (List.mem_of_getElem? hy)) (r := ?_)
      by_cases hz : Doc.cmp x y = 0
      · refine GO ?_
        exact W.ag (k + 1) (⟨hlt, by rw [← hk.2, he, if_neg (by omega)]⟩) (by omega)
      · refine GO ?_
        exact finI (he := by rw [← hk.2, he, if_pos hz])
  · obtain rfl : k = l.length := by omega
    have hc := hk.2
    rw [cmpL_end] at hc
    by_cases h1 : l.length < m.length
    · refine GO ?_
      exact finI (he := by rw [← hc, if_pos h1])
    · refine GO ?_
      exact finI (he := by rw [← hc, if_neg h1])
set_option maxRecDepth 10000 in
theorem compareC (d e : Doc) : ∀ n, Con Tryz.prog 83 [agD (docF d), agD (docF e)] [] n (iT (Doc.cmp d e)) [] n := by
  refine fnI Tryz.func83 Tryz.ntmps83 (h := fun S w0 β0 X => ?_)
  refine GO ?_
  refine Ch.c (cmpIntC d.kind e.kind) (r := ?_)
  refine GO ?_
  refine Ch.c (cmpIntC d.num e.num) (r := ?_)
  refine GO ?_
  refine Ch.c (cmpStrC d.str e.str) (r := ?_)
  refine GO ?_
  refine Ch.c (cmpIntC d.keys.length e.keys.length) (r := ?_)
  refine GO ?_
  refine Ch.c (cmpStrsC d.keys e.keys) (r := ?_)
  refine GO ?_
  refine Ch.c (cmpIntC d.kids.length e.kids.length) (r := ?_)
  refine GO ?_
  refine Ch.c (cmpDocsC (l := d.kids) (m := e.kids) fun x hx y hy => by have := mem_size hx; exact compareC x y) (r := ?_)
  refine Ch.p (OpT.sliceN (k := 1) (xs := [_, _, _, _, _, _, _]) (ss := [_, _, _, _, _, _, _]) (lls := [cmpI d.kind e.kind, cmpI d.num e.num, cmpS d.str e.str, cmpI d.keys.length e.keys.length, cmpL cmpS d.keys e.keys, cmpI d.kids.length e.kids.length, cmpL Doc.cmp d.kids e.kids].map fun n => [i64 n]) ⟨.one _, .one _, .one _, .one _, .one _, .one _, .one _, trivial⟩ rfl (by simp)) ⟨rfl, rfl, rfl, rfl, rfl, rfl, rfl, trivial⟩ ?_
  refine Ch.c (orC [cmpI d.kind e.kind, cmpI d.num e.num, cmpS d.str e.str, cmpI d.keys.length e.keys.length, cmpL cmpS d.keys e.keys, cmpI d.kids.length e.kids.length, cmpL Doc.cmp d.kids e.kids]) (r := ?_)
  refine GO ?_
  exact finI (he := by rw [Doc.cmp_kids])
termination_by d.size
set_option maxRecDepth 10000 in
theorem docSameC (d e : Doc) : ∀ n, Con Tryz.prog 42 [agD (docF d), agD (docF e)] [] n (bT (decide (Doc.cmp d e = 0))) [] n := by
  refine fnI Tryz.func42 Tryz.ntmps42 (h := fun S w0 β0 X => ?_)
  refine GO ?_
  refine Ch.c (compareC d e) (r := ?_)
  refine GO ?_
  exact fin1
end Go.Proofs.YtddddgbboipfeaaGreatDoor
namespace Go.Proofs.YtddddgbboipfeaaGreatDoor
open Go.Sv
set_option maxRecDepth 10000 in
theorem orderC (b : Bool) : ∀ n, Con Tryz.prog 100 [bT b] [] n (iT (ordI b)) [] n := by
  refine fnI Tryz.func100 Tryz.ntmps100 (h := fun S w0 β0 X => ?_)
  refine GO ?_
  refine W.cond rfl (fun h => ?_) (fun h => ?_)
  · subst h
    refine GO ?_
    exact finI (he := by rfl)
  · subst h
    refine GO ?_
    exact finI (he := by rfl)
theorem first7 {a b c d e f g : Int} : firstNZ [a, b, c, d, e, f, g] = if a ≠ 0 then a else if b ≠ 0 then b else if c ≠ 0 then c else if d ≠ 0 then d else if e ≠ 0 then e else if f ≠ 0 then f else g := by
  simp only [firstNZ]
  grind
set_option maxRecDepth 10000 in
theorem rcompareC (d e : Doc) : ∀ n, Con Tryz.prog 61 [agD (docF d), agD (docF e)] [] n (iT (Doc.cmp d e)) [] n := by
  have hc := (Doc.cmp_kids d e).trans first7
  refine fnI Tryz.func61 Tryz.ntmps61 (h := fun S w0 β0 X => ?_)
  by_cases k1 : d.kind = e.kind
  case neg =>
    refine GO ?_
    refine Ch.c (orderC _) (r := ?_)
    refine GO ?_
    exact finI (he := by rw [hc, if_pos (by rw [cmpI_ord k1]; exact ordI_ne _), cmpI_ord k1])
  rw [if_neg (by simp [cmpI_zero k1])] at hc
  by_cases k2 : d.num = e.num
  case neg =>
    refine GO ?_
    refine Ch.c (orderC _) (r := ?_)
    refine GO ?_
    exact finI (he := by rw [hc, if_pos (by rw [cmpI_ord k2]; exact ordI_ne _), cmpI_ord k2])
  rw [if_neg (by simp [cmpI_zero k2])] at hc
  refine GO ?_
  refine W.cond rfl (fun k3 => ?_) (fun k3 => ?_)
  · have k3' : (d.str.toList == e.str.toList) = false := by simpa using k3
    refine GO ?_
    refine Ch.c (orderC _) (r := ?_)
    refine GO ?_
    exact finI (he := by rw [hc, if_pos (by rw [cmpS_ord k3']; exact ordI_ne _), cmpS_ord k3'])
  have k3' : (d.str.toList == e.str.toList) = true := by simpa using k3
  rw [if_neg (by simp [cmpS_zero k3'])] at hc
  by_cases k4 : (d.keys.length : Int) = e.keys.length
  case neg =>
    refine GO ?_
    refine Ch.c (orderC _) (r := ?_)
    refine GO ?_
    exact finI (he := by rw [hc, if_pos (by rw [cmpN_ord k4]; exact ordI_ne _), cmpN_ord k4]; simp)
  rw [if_neg (by simp [cmpI_zero k4])] at hc
  refine GO ?_
  refine W.len 45 (h := fun hl => ?_)
  refine W.lp (fun k => k ≤ d.keys.length ∧ cmpL cmpS (d.keys.drop k) (e.keys.drop k) = cmpL cmpS d.keys e.keys) (fun k => [(5, iT k)]) [(2, _), (3, _)] (d.keys.length - ·) 0 (⟨Nat.zero_le _, rfl⟩) (round := fun k hk => ?_)
  by_cases hlt : k < d.keys.length
  · have hx := List.getElem?_eq_getElem hlt
    generalize d.keys[k] = x at hx
    have hy := List.getElem?_eq_getElem (show k < e.keys.length by omega)
    generalize e.keys[k]'(by omega) = y at hy
    have hd := cmpL_drop (f := cmpS) hx hy
    refine GO ?_
    refine W.cond rfl (fun k5 => ?_) (fun k5 => ?_)
    · have k5' : (x.toList == y.toList) = false := by simpa using k5
      rw [← hk.2, hd, cmpS_ord k5', if_pos (ordI_ne _), if_pos (ordI_ne _)] at hc
      refine GO ?_
      refine Ch.c (orderC _) (r := ?_)
      refine GO ?_
      exact finI (he := by rw [hc])
    · have k5' : (x.toList == y.toList) = true := by simpa using k5
      refine GO ?_
      exact W.ag (k + 1) (⟨hlt, by rw [← hk.2, hd, if_neg (by simp [cmpS_zero k5'])]⟩) (by omega)
  obtain rfl : k = d.keys.length := by omega
  have k5 := hk.2
  rw [cmpL_end, if_neg (by omega)] at k5
  rw [← k5, if_neg (by simp)] at hc
  by_cases k6 : (d.kids.length : Int) = e.kids.length
  case neg =>
    refine GO ?_
    refine Ch.c (orderC _) (r := ?_)
    refine GO ?_
    exact finI (he := by rw [hc, if_pos (by rw [cmpN_ord k6]; exact ordI_ne _), cmpN_ord k6]; simp)
  rw [if_neg (by simp [cmpI_zero k6])] at hc
  refine GO ?_
  refine W.len 90 (h := fun hl => ?_)
  refine W.lp (fun k => k ≤ d.kids.length ∧ cmpL Doc.cmp (d.kids.drop k) (e.kids.drop k) = cmpL Doc.cmp d.kids e.kids) (fun k => [(6, iT k)]) [(2, _), (3, _)] (d.kids.length - ·) 0 (⟨Nat.zero_le _, rfl⟩) (round := fun k hk => ?_)
  by_cases hlt : k < d.kids.length
  · have hx := List.getElem?_eq_getElem hlt
    generalize d.kids[k] = x at hx
    have hy := List.getElem?_eq_getElem (show k < e.kids.length by omega)
    generalize e.kids[k]'(by omega) = y at hy
    have hd := cmpL_drop (f := Doc.cmp) hx hy
    have hm := mem_size (List.mem_of_getElem? hx)
    refine GO ?_
    refine Ch.c (rcompareC x y) (r := ?_)
    refine GO ?_
    by_cases k7 : Doc.cmp x y = 0
    · refine GO ?_
      exact W.ag (k + 1) (⟨hlt, by rw [← hk.2, hd, if_neg (by simp [k7])]⟩) (by omega)
    · refine GO ?_
      exact finI (he := by rw [hc, ← hk.2, hd, if_pos k7])
  obtain rfl : k = d.kids.length := by omega
  have k7 := hk.2
  rw [cmpL_end, if_neg (by omega)] at k7
  refine GO ?_
  exact finI (he := by rw [hc, ← k7])
termination_by d.size
set_option maxRecDepth 10000 in
theorem rdocSameC (d e : Doc) : ∀ n, Con Tryz.prog 26 [agD (docF d), agD (docF e)] [] n (bT (decide (Doc.cmp d e = 0))) [] n := by
  refine fnI Tryz.func26 Tryz.ntmps26 (h := fun S w0 β0 X => ?_)
  refine GO ?_
  refine Ch.c (rcompareC d e) (r := ?_)
  refine GO ?_
  exact fin1
set_option maxRecDepth 10000 in
theorem intsC (l m : List Int) : ∀ n, Con Tryz.prog 62 [dT (intsD l), dT (intsD m)] [] n (iT (cmpL cmpI l m)) [] n := by
  refine fnI Tryz.func62 Tryz.ntmps62 (h := fun S w0 β0 X => ?_)
  refine GO ?_
  refine W.len 0 (h := fun hl => ?_)
  refine W.len 1 (h := fun hl => ?_)
  refine W.lp (fun k => k ≤ l.length ∧ k ≤ m.length ∧ cmpL cmpI (l.drop k) (m.drop k) = cmpL cmpI l m) (fun k => [(5, iT k)]) [(0, _), (1, _)] (l.length - ·) 0 (⟨Nat.zero_le _, Nat.zero_le _, rfl⟩) (round := fun k hk => ?_)
  by_cases hlt : k < l.length
  · have hx := List.getElem?_eq_getElem hlt
    generalize l[k] = x at hx
    by_cases hlt2 : k < m.length
    · have hy := List.getElem?_eq_getElem hlt2
      generalize m[k] = y at hy
      have hd := cmpL_drop (f := cmpI) hx hy
      have hc : (decide ((k : Int) < l.length) && decide ((k : Int) < m.length)) = true := by simp; omega
      by_cases h1 : x < y
      · refine GO ?_
        exact finI (he := by rw [← hk.2.2, hd, cmpI, if_pos h1]; rfl)
      by_cases h2 : y < x
      · refine GO ?_
        exact finI (he := by rw [← hk.2.2, hd, cmpI, if_neg h1, if_pos h2]; rfl)
      · refine GO ?_
        exact W.ag (k + 1) (⟨hlt, hlt2, by rw [← hk.2.2, hd, cmpI, if_neg h1, if_neg h2]; rfl⟩) (by omega)
    · obtain rfl : k = m.length := by omega
      have hc : (decide ((m.length : Int) < l.length) && decide ((m.length : Int) < m.length)) = false := by simp
      refine GO ?_
      exact finI (he := by rw [← hk.2.2, cmpL_long hlt (Nat.le_refl _)])
  · obtain rfl : k = l.length := by omega
    have hc : (decide ((l.length : Int) < l.length) && decide ((l.length : Int) < m.length)) = false := by simp
    have he := hk.2.2
    rw [cmpL_end] at he
    by_cases h1 : l.length < m.length
    · refine GO ?_
      exact finI (he := by rw [← he, if_pos h1])
    · refine GO ?_
      exact finI (he := by rw [← he, if_neg h1])
theorem cmpS_lt8 {a b : Str} (h : Op.bytesLess a.toList b.toList = true) : cmpS a b = -1 := by rw [cmpS, sLt, if_pos h]
theorem cmpS_gt8 {a b : Str} (h : (!(Op.bytesLess a.toList b.toList || a.toList == b.toList)) = true) : cmpS a b = 1 := by grind [cmpS, sLt, sLe]
theorem cmpS_eq8 {a b : Str} (h1 : Op.bytesLess a.toList b.toList = false) (h2 : (!(Op.bytesLess a.toList b.toList || a.toList == b.toList)) = false) : cmpS a b = 0 := by grind [cmpS, sLt, sLe]
set_option maxRecDepth 10000 in
theorem rlessStrC (l m : List Str) : ∀ n, Con Tryz.prog 63 [dT (strsD l), dT (strsD m)] [] n (iT (cmpL cmpS l m)) [] n := by
  refine fnI Tryz.func63 Tryz.ntmps63 (h := fun S w0 β0 X => ?_)
  refine GO ?_
  refine W.len 0 (h := fun hl => ?_)
  refine W.len 1 (h := fun hl => ?_)
  refine W.lp (fun k => k ≤ l.length ∧ k ≤ m.length ∧ cmpL cmpS (l.drop k) (m.drop k) = cmpL cmpS l m) (fun k => [(5, iT k)]) [(0, _), (1, _)] (l.length - ·) 0 (⟨Nat.zero_le _, Nat.zero_le _, rfl⟩) (round := fun k hk => ?_)
  by_cases hlt : k < l.length
  · have hx := List.getElem?_eq_getElem hlt
    generalize l[k] = x at hx
    by_cases hlt2 : k < m.length
    · have hy := List.getElem?_eq_getElem hlt2
      generalize m[k] = y at hy
      have hd := cmpL_drop (f := cmpS) hx hy
      have hc : (decide ((k : Int) < l.length) && decide ((k : Int) < m.length)) = true := by simp; omega
      refine GO ?_
      refine W.cond rfl (fun h1 => ?_) (fun h1 => ?_)
      · refine GO ?_
        exact finI (he := by rw [← hk.2.2, hd, cmpS_lt8 h1]; rfl)
      refine GO ?_
      refine W.cond rfl (fun h2 => ?_) (fun h2 => ?_)
      · refine GO ?_
        exact finI (he := by rw [← hk.2.2, hd, cmpS_gt8 h2]; rfl)
      · refine GO ?_
        exact W.ag (k + 1) (⟨hlt, hlt2, by rw [← hk.2.2, hd, cmpS_eq8 h1 h2]; rfl⟩) (by omega)
    · obtain rfl : k = m.length := by omega
      have hc : (decide ((m.length : Int) < l.length) && decide ((m.length : Int) < m.length)) = false := by simp
      refine GO ?_
      exact finI (he := by rw [← hk.2.2, cmpL_long hlt (Nat.le_refl _)])
  · obtain rfl : k = l.length := by omega
    have hc : (decide ((l.length : Int) < l.length) && decide ((l.length : Int) < m.length)) = false := by simp
    have he := hk.2.2
    rw [cmpL_end] at he
    by_cases h1 : l.length < m.length
    · refine GO ?_
      exact finI (he := by rw [← he, if_pos h1])
    · refine GO ?_
      exact finI (he := by rw [← he, if_neg h1])
theorem rlessG (e1 e2 : Int) (s1 s2 : List Int) (t1 t2 : List Str) (a1 a2 a3 a4 a5 b1 b2 b3 b4 b5 : D) : ∀ n, Con Tryz.prog 27 [agD [i64 e1, intsD s1, strsD t1, a1, a2, a3, a4, a5], agD [i64 e2, intsD s2, strsD t2, b1, b2, b3, b4, b5]] [] n (iT (resLess ⟨e1, s1, t1, zeroDoc⟩ ⟨e2, s2, t2, zeroDoc⟩)) [] n := by
  refine fnI Tryz.func27 Tryz.ntmps27 (h := fun S w0 β0 X => ?_)
  by_cases h1 : e1 < e2
  · refine GO ?_
    exact finI (he := by simp [resLess, cmpI, h1])
  by_cases h2 : e2 < e1
  · refine GO ?_
    exact finI (he := by simp [resLess, cmpI, h1, h2])
  refine GO ?_
  refine Ch.c (intsC s1 s2) (r := ?_)
  refine GO ?_
  have h0 : cmpI e1 e2 = 0 := by rw [cmpI, if_neg h1, if_neg h2]
  by_cases h3 : cmpL cmpI s1 s2 = 0
  · refine GO ?_
    refine Ch.c (rlessStrC t1 t2) (r := ?_)
    refine GO ?_
    exact finI (he := by rw [resLess, if_neg (by simp [h0]), if_neg (by simp [h3])])
  · refine GO ?_
    exact finI (he := by rw [resLess, if_neg (by simp [h0]), if_pos h3])
theorem rlessC (x y : Res) (n : Nat) : Con Tryz.prog 27 [agD (resF x), agD (resF y)] [] n (iT (resLess x y)) [] n := rlessG x.edge y.edge x.step y.step x.at_ y.at_ _ _ _ _ _ _ _ _ _ _ n
end Go.Proofs.YtddddgbboipfeaaGreatDoor
