/- Part 24 of what StageOrder and StagePlans ask: for every input each returns true, and its input reads as it did. No condition. -/
import Derived.Test.YtelkpflpgpdkdaaGreatDoorPt22
import Derived.Test.YtelkpflpgpdkdaaGreatDoorPt23
namespace Go.Proofs.YtelkpflpgpdkdaaGreatDoor
open Go.Sv
theorem docsC_len (l : List Doc) : (docsC l).length = l.length := by rw [(rowDocs l).eq, List.length_map]
theorem docsC_get {l : List Doc} {k : Nat} {x : Doc} (h : l[k]? = some x) : (docsC l)[k]? = some (docF x) := by rw [(rowDocs l).eq, List.getElem?_map, h]; rfl
theorem set_same {α : Type} {l : List α} {k : Nat} {x : α} (h : l[k]? = some x) : l.set k x = l := by
  obtain ⟨hk, rfl⟩ := List.getElem?_eq_some_iff.1 h
  exact List.set_getElem_self hk
set_option maxRecDepth 10000 in
theorem docCopyC (d : Doc) (hf : d.fit) : ∀ n, Con Tryz.prog 52 [agD (docF d)] [] n (agD (docF d)) [] n := by
  have hk := hf.keys
  have hd := hf.kids
  have hl := docsC_len d.kids
  refine fnI Tryz.func52 Tryz.ntmps52 (hk := by rw [List.flatMap_singleton]; exact agD_keys) (hko := agD_keys) (h := fun S w0 β0 X => ?_)
  have st : Stop 2 := ⟨⟩
  refine GO ?_
  refine Ch.ch [] (cloneStrC (d.keys.map fun s => [str s]) (by rw [List.length_map]; omega)) (r := ?_)
  refine GO ?_
  refine Ch.ch [] (cloneDocC (docsC d.kids) (by omega)) (r := ?_)
  refine GO ?_
  clear st
  refine W.frz 2 (h := ?_)
  refine GO ?_
  refine W.lp (· ≤ d.kids.length) (fun k => [(16, iT k)]) [(15, _), (14, _), (1, _), (2, _)] (d.kids.length - ·) 0 (Nat.zero_le _) (round := fun k hk => ?_)
  by_cases hlt : k < d.kids.length
  · have hlt' : k < (docsC d.kids).length := by omega
    have hx := List.getElem?_eq_getElem hlt
    generalize d.kids[k] = x at hx
    refine GO ?_
    refine Ch.r (OpT.indexW hlt') ⟨rfl, rfl, trivial⟩ rfl ?_
    refine Ch.r (OpT.loadW (docsC_get hx)) ⟨rfl, trivial⟩ rfl ?_
    refine GO ?_
    refine Ch.c (docCopyC x (hf.kid (List.mem_of_getElem? hx))) (r := ?_)
    refine Ch.r (OpT.indexW hlt') ⟨rfl, rfl, trivial⟩ rfl ?_
    refine Ch.storeW (hj := hlt') (r := ?_)
    rw [set_same (docsC_get hx)]
    refine GO ?_
    exact W.ag (k + 1) hlt (by omega)
  · obtain rfl : k = d.kids.length := by omega
    refine GO ?_
    refine W.frz 3 (h := ?_)
    exact fin1 (hk := agD_keys)
termination_by d.size
decreasing_by exact mem_size (List.mem_of_getElem? hx)
end Go.Proofs.YtelkpflpgpdkdaaGreatDoor
namespace Go.Proofs.YtelkpflpgpdkdaaGreatDoor
open Go.Sv
theorem fldsC_len (l : List Fld) : (fldsC l).length = l.length := by rw [(rowFlds l).eq, List.length_map]
theorem fldsC_get {l : List Fld} {k : Nat} {x : Fld} (h : l[k]? = some x) : (fldsC l)[k]? = some (fldF x) := by rw [(rowFlds l).eq, List.getElem?_map, h]; rfl
theorem typsC_len (l : List Typ) : (typsC l).length = l.length := by rw [(rowTyps l).eq, List.length_map]
theorem typsC_get {l : List Typ} {k : Nat} {x : Typ} (h : l[k]? = some x) : (typsC l)[k]? = some (typF x) := by rw [(rowTyps l).eq, List.getElem?_map, h]; rfl
set_option maxRecDepth 10000 in
theorem typCopyC (t : Typ) (hf : t.fit) : ∀ n, Con Tryz.prog 101 [agD (typF t)] [] n (agD (typF t)) [] n := by
  have hn := hf.names
  have hd := hf.fields
  have ho := hf.of
  have hl := fldsC_len t.fields
  have hl2 := typsC_len t.of
  refine fnI Tryz.func101 Tryz.ntmps101 (hk := by rw [List.flatMap_singleton]; exact agD_keys) (hko := agD_keys) (h := fun S w0 β0 X => ?_)
  have st : Stop 2 := ⟨⟩
  refine GO ?_
  refine Ch.ch [] (cloneStrC (t.names.map fun s => [str s]) (by rw [List.length_map]; omega)) (r := ?_)
  refine GO ?_
  refine Ch.ch [] (cloneFldC (fldsC t.fields) (by omega)) (r := ?_)
  refine GO ?_
  refine Ch.ch [] (cloneTypC (typsC t.of) (by omega)) (r := ?_)
  refine GO ?_
  clear st
  refine W.frz 2 (h := ?_)
  refine GO ?_
  refine W.lp (· ≤ t.fields.length) (fun k => [(22, iT k)]) [(21, _), (20, _), (1, _), (2, _)] (t.fields.length - ·) 0 (Nat.zero_le _) (round := fun k hk => ?_)
  by_cases hlt : k < t.fields.length
  · have hlt' : k < (fldsC t.fields).length := by omega
    have hx := List.getElem?_eq_getElem hlt
    generalize t.fields[k] = x at hx
    refine GO ?_
    refine Ch.r (OpT.indexW hlt') ⟨rfl, rfl, trivial⟩ rfl ?_
    refine Ch.r (OpT.loadW (fldsC_get hx)) ⟨rfl, trivial⟩ rfl ?_
    refine GO ?_
    refine Ch.c (typCopyC x.typ (hf.fld (List.mem_of_getElem? hx))) (r := ?_)
    refine Ch.r (OpT.indexW hlt') ⟨rfl, rfl, trivial⟩ rfl ?_
    refine GO ?_
    refine Ch.storeP (v := typF x.typ) (l' := fldF x) (fldsC_get hx) (r := ?_)
    rw [set_same (fldsC_get hx)]
    refine GO ?_
    exact W.ag (k + 1) hlt (by omega)
  · obtain rfl : k = t.fields.length := by omega
    refine GO ?_
    refine W.lp (· ≤ t.of.length) (fun k => [(39, iT k)]) [(38, _), (37, _), (1, _), (2, _)] (t.of.length - ·) 0 (Nat.zero_le _) (round := fun k hk => ?_)
    by_cases hlt : k < t.of.length
    · have hlt' : k < (typsC t.of).length := by omega
      have hx := List.getElem?_eq_getElem hlt
      generalize t.of[k] = x at hx
      refine GO ?_
      refine Ch.r (OpT.indexW hlt') ⟨rfl, rfl, trivial⟩ rfl ?_
      refine Ch.r (OpT.loadW (typsC_get hx)) ⟨rfl, trivial⟩ rfl ?_
      refine GO ?_
      refine Ch.c (typCopyC x (hf.kid (List.mem_of_getElem? hx))) (r := ?_)
      refine Ch.r (OpT.indexW hlt') ⟨rfl, rfl, trivial⟩ rfl ?_
      refine Ch.storeW (hj := hlt') (r := ?_)
      rw [set_same (typsC_get hx)]
      refine GO ?_
      exact W.ag (k + 1) hlt (by omega)
    · obtain rfl : k = t.of.length := by omega
      refine GO ?_
      refine W.frz 3 (h := ?_)
      refine W.frz 4 (h := ?_)
      exact fin1 (hk := agD_keys)
termination_by t.size
decreasing_by
  · exact fld_size (List.mem_of_getElem? hx)
  · exact of_size (List.mem_of_getElem? hx)
end Go.Proofs.YtelkpflpgpdkdaaGreatDoor
namespace Go.Proofs.YtelkpflpgpdkdaaGreatDoor
open Go.Sv
theorem lensesC_len (l : List Lens) : (lensesC l).length = l.length := by rw [(rowLens l).eq, List.length_map]
theorem lensesC_get {l : List Lens} {k : Nat} {x : Lens} (h : l[k]? = some x) : (lensesC l)[k]? = some (lensF x) := by rw [(rowLens l).eq, List.getElem?_map, h]; rfl
theorem sub_size {l : List Lens} {x : Lens} (hm : x ∈ l) : Lens.size x.subs < Lens.size l := by
  obtain ⟨l1, l2, rfl⟩ := List.append_of_mem hm
  rw [Lens.size_subs (l1 ++ x :: l2), Lens.subsSize_append, Lens.subsSize, List.length_append, List.length_cons]
  omega
set_option maxRecDepth 10000 in
theorem lensCopyC (l : List Lens) (hf : Lens.fit l) : Con Tryz.prog 102 [dT (sl 16 (lensesC l))] [] 0 (.one (.key 0)) [(0, .row 210 16 (lensesC l))] 1 := by
  have hd := hf.len
  have hl := lensesC_len l
  refine fnH Tryz.func102 Tryz.ntmps102 (h := fun S w0 β0 X => ?_)
  refine GO ?_
  refine Ch.ch [] (cloneLensC (lensesC l) (by omega)) (r := ?_)
  refine GO ?_
  refine W.lp (· ≤ l.length) (fun k => [(10, iT k)]) [(9, _), (8, _), (3, _), (2, _)] (l.length - ·) 0 (Nat.zero_le _) (round := fun k hk => ?_)
  by_cases hlt : k < l.length
  · have hlt' : k < (lensesC l).length := by omega
    have hx := List.getElem?_eq_getElem hlt
    generalize l[k] = x at hx
    have hm := List.mem_of_getElem? hx
    obtain ⟨h1, h2, h3, h4⟩ := hf.sub hm
    have st : Stop 6 := ⟨⟩
    refine GO ?_
    refine Ch.r (OpT.indexW hlt') ⟨rfl, rfl, trivial⟩ rfl ?_
    refine Ch.r (OpT.loadW (lensesC_get hx)) ⟨rfl, trivial⟩ rfl ?_
    refine GO ?_
    refine Ch.c (typCopyC x.typ h1) (r := ?_)
    refine GO ?_
    refine Ch.c (docCopyC x.doc h2) (r := ?_)
    refine GO ?_
    refine Ch.ch [] (clonePairC (x.swaps.map swapF) (by rw [List.length_map]; omega)) (r := ?_)
    refine GO ?_
    refine Ch.ch [] (lensCopyC x.subs h4) (r := ?_)
    refine GO ?_
    clear st
    refine W.frz 2 (h := ?_)
    refine W.frz 3 (h := ?_)
    refine GO ?_
    refine Ch.r (OpT.indexW hlt') ⟨rfl, rfl, trivial⟩ rfl ?_
    refine Ch.storeW (hs := .ag (lensF x)) (hj := hlt') (r := ?_)
    rw [set_same (lensesC_get hx)]
    refine GO ?_
    exact W.ag (k + 1) hlt (by omega)
  · obtain rfl : k = l.length := by omega
    refine GO ?_
    exact finH
termination_by Lens.size l
decreasing_by
  exact sub_size hm
set_option maxRecDepth 10000 in
theorem copiedC (x : Res) (hf : x.fit) : ∀ n, Con Tryz.prog 138 [agD (resF x)] [] n (agD (resF x)) [] n := by
  refine fnI Tryz.func138 Tryz.ntmps138 (hk := by rw [List.flatMap_singleton]; exact agD_keys) (hko := agD_keys) (h := fun S w0 β0 X => ?_)
  obtain ⟨h1, h2, h3⟩ := hf
  refine GO ?_
  refine Ch.ch [] (cloneIntC (x.step.map fun s => [i64 s]) (by rw [List.length_map]; omega)) (r := ?_)
  refine GO ?_
  refine Ch.ch [] (cloneStrC (x.at_.map fun s => [str s]) (by rw [List.length_map]; omega)) (r := ?_)
  refine GO ?_
  refine Ch.c (docCopyC x.doc h3) (r := ?_)
  refine GO ?_
  refine W.frz 2 (h := ?_)
  refine W.frz 3 (h := ?_)
  exact fin1 (hk := agD_keys)
end Go.Proofs.YtelkpflpgpdkdaaGreatDoor
namespace Go.Sv
open Go
theorem W.lpG {cx : Cx} {n : Nat} {F : FL} {H : HL} {Q : Exit → Act → World → Prop} {α : Type} {c : Code} (p : α → Prop) (dF : α → FL) (Fk : FL) (dH : α → HL) (Hk : HL) (μ : α → Nat) (a0 : α) (hp : p a0) (hF : SubF F (dF a0 ++ Fk) := by (repeat (first | exact SubF.nil | refine SubF.cons rfl ?_))) (hH : SubH H (dH a0 ++ Hk) := by (repeat (first | exact SubH.nil | refine SubH.cons rfl ?_))) (h0 : Nat.ble cx.n0 n = true := by rfl)
    (hb : ∀ a, belF n (dF a ++ Fk) := by intro a; (repeat (first | exact belF_nil | refine belF_cons (by first | exact bel0 rfl | exact bel0 agD_keys | exact belR (by rfl)) ?_))) (hb' : ∀ a, belH n (dH a ++ Hk) := by intro a; (repeat (first | exact belH_nil | refine belH_cons (blt_of (by rfl)) (by first | exact bel0 rfl | exact bel0 agD_keys | exact belR (by rfl)) ?_)))
    (round : ∀ a, p a → Wk cx n (dF a ++ Fk) (dH a ++ Hk) (c.wp cx.P (Exit.then (Rnd cx n p dF Fk dH Hk μ a) Q))) : Wk cx n F H ((Code.loop c).wp cx.P Q) := W.loopG p dF Fk dH Hk μ a0 hp hF hH (Nat.le_of_ble_eq_true h0) hb hb' round
end Go.Sv
namespace Go.Proofs.YtelkpflpgpdkdaaGreatDoor
open Go.Sv
theorem take_map_succ {α β : Type} {l : List α} {k : Nat} {x : α} {f : α → β} (h : l[k]? = some x) : (l.take (k + 1)).map f = (l.take k).map f ++ [f x] := by
  rw [List.take_add_one, h, List.map_append]; rfl
instance rowMap {α : Type} (l : List α) (f : α → List D) : Row (l.map f) α l f := ⟨rfl⟩
set_option maxRecDepth 10000 in
theorem stCopyC (s : State) (hf : StFit s) : ∀ n, Con Tryz.prog 103 [agD (stateF s)] [] n (agD (stateF s)) [] n := by
  obtain ⟨h1, h2, h3⟩ := hf
  refine fnI Tryz.func103 Tryz.ntmps103 (hk := by rw [List.flatMap_singleton]; exact agD_keys) (hko := agD_keys) (h := fun S w0 β0 X => ?_)
  have st : Stop 2 := ⟨⟩
  refine GO ?_
  refine Ch.c (docCopyC s.doc h1) (r := ?_)
  refine GO ?_
  clear st
  refine W.nilB 2 5 161 8 (h := ?_)
  refine GO ?_
  refine W.lpG (· ≤ s.res.length) (fun k => [(13, iT k)]) [(12, _), (11, _), (1, _), (2, _), (3, _)] (fun k => [(3, .row 161 8 ((s.res.take k).map resF))]) [(0, _), (1, _), (2, _)] (s.res.length - ·) 0 (Nat.zero_le _) (round := fun k hk => ?_)
  by_cases hlt : k < s.res.length
  · have hx := List.getElem?_eq_getElem hlt
    generalize s.res[k] = x at hx
    have hlen : (s.res.take k).length = k := by rw [List.length_take]; omega
    refine GO ?_
    refine Ch.c (copiedC x (h3 x (List.mem_of_getElem? hx))) (r := ?_)
    refine GO ?_
    rw [← take_map_succ hx]
    refine W.swap 3 5 (h := ?_)
    exact W.ag (k + 1) hlt (by omega)
  · obtain rfl : k = s.res.length := by omega
    rw [List.take_length]
    refine GO ?_
    refine W.frz 3 (h := ?_)
    exact fin1 (hk := agD_keys)
end Go.Proofs.YtelkpflpgpdkdaaGreatDoor
namespace Go.Sv
open Go Go.RowKit

theorem setAll_size : ∀ (vs : List Value) (o : Nat) (cs : Array Value), (setAll cs o vs).size = cs.size
  | [], _, _ => rfl
  | v :: vs, o, cs => by rw [setAll, setAll_size vs]; simp
theorem setAll_app : ∀ (vs us : List Value) (o : Nat) (cs : Array Value), setAll cs o (vs ++ us) = setAll (setAll cs o vs) (o + vs.length) us
  | [], _, _, _ => rfl
  | v :: vs, us, o, cs => by
    rw [List.cons_append, setAll, setAll, setAll_app vs us, List.length_cons]
    congr 1; omega
theorem fill_parts {k : Nat} : ∀ (vs : List Value) (i0 : Nat) (cs : Array Value), (∀ v ∈ vs, v.cells.size = k) → (i0 + vs.length) * k ≤ cs.size →
    Instr.fill (fun i => some (i * k, k)) cs ((vs.zipIdx i0).map fun p => (p.2, p.1)) = some (setAll cs (i0 * k) (vs.flatMap fun v => v.cells.toList))
  | [], _, _, _, _ => rfl
  | v :: vs, i0, cs, hv, hle => by
    have h1 := hv v (List.mem_cons_self ..)
    have h2 : i0 * k + k ≤ cs.size := by
      have : (i0 + 1) * k ≤ (i0 + (v :: vs).length) * k := Nat.mul_le_mul_right _ (by simp)
      rw [Nat.add_mul, Nat.one_mul] at this
      omega
    rw [List.zipIdx_cons, List.map_cons]
    unfold Instr.fill
    simp only
    rw [if_neg (by simp only [ne_eq, Bool.or_eq_true, decide_eq_true_eq, not_or, Decidable.not_not, Nat.not_lt]; omega)]
    rw [← Array.foldl_toList, Array.toList_zipIdx]
    have := fold_setAll (i0 * k) v.cells.toList 0 cs
    rw [Nat.add_zero] at this
    rw [this, fill_parts vs (i0 + 1) _ (fun u hu => hv u (List.mem_cons_of_mem _ hu)) (by rw [setAll_size]; rw [List.length_cons] at hle; rw [show i0 + 1 + vs.length = i0 + (vs.length + 1) by omega]; exact hle),
      List.flatMap_cons, setAll_app, Array.length_toList, h1, show (i0 + 1) * k = i0 * k + k by rw [Nat.add_mul, Nat.one_mul]]
theorem setAll_full {cs : Array Value} {vs : List Value} (h : vs.length = cs.size) : setAll cs 0 vs = vs.toArray := by
  refine Array.ext_getElem? fun i => ?_
  rw [setAll_get]
  simp only [Nat.zero_le, Nat.zero_add, true_and, Nat.sub_zero, List.getElem?_toArray]
  by_cases hi : i < cs.size
  · rw [if_pos (by omega)]
  · rw [if_neg (by omega), Array.getElem?_eq_none (by omega), List.getElem?_eq_none (by omega)]
theorem cells_len {k : Nat} : ∀ vs : List Value, (∀ v ∈ vs, v.cells.size = k) → (vs.flatMap fun v => v.cells.toList).length = vs.length * k
  | [], _ => by simp
  | v :: vs, hv => by rw [List.flatMap_cons, List.length_append, cells_len vs fun u hu => hv u (List.mem_cons_of_mem _ hu), Array.length_toList, hv v (List.mem_cons_self ..), List.length_cons, Nat.add_mul]; omega
theorem cells_at {k j i : Nat} {vs : List Value} {v : Value} {u : Value} (hk : ∀ v ∈ vs, v.cells.size = k) (hv : vs[j]? = some v) (hu : v.cells.toList[i]? = some u) : (vs.flatMap fun v => v.cells.toList)[j * k + i]? = some u := by
  obtain ⟨a, b, rfl, rfl⟩ := split_at hv
  have hi := (List.getElem?_eq_some_iff.1 hu).1
  rw [List.flatMap_append, List.flatMap_cons, List.getElem?_append_right (by rw [cells_len a fun v hv => hk v (List.mem_append_left _ hv)]; omega), cells_len a (fun v hv => hk v (List.mem_append_left _ hv)), Nat.add_sub_cancel_left, List.getElem?_append_left hi, hu]
section
variable {P : Program} [Lays P] {ops : Array Oper} {n : Nat} {d : Option Tmp} {ty t : TypeId} {pos : String} {af : Array Edge}
theorem parts_cells {β : Env} {V : World} {A : Act} : ∀ {xs : List Operand} {ss : List T} {lls : List (List D)}, All2 AsD ss lls → xs.length = ss.length → (∀ e ∈ xs.zip ss, e.2.is β V (A.eval e.1)) → All2 (fun l v => Cells V l v.cells.toList) lls (xs.map A.eval)
  | [], [], [], _, _, _ => trivial
  | x :: xs, s :: ss, l :: lls, h, hl, ht => ⟨h.1.cells (ht (x, s) (by simp)), parts_cells h.2 (by simpa using hl) fun e he => ht e (by simp only [List.zip_cons_cons, List.mem_cons]; exact .inr he)⟩
  | _, [], _ :: _, h, _, _ => h.elim
  | _, _ :: _, [], h, _, _ => h.elim
  | [], _ :: _, _, _, hl, _ => by simp at hl
  | _ :: _, [], _, _, hl, _ => by simp at hl
theorem OpT.sliceN {e k we : Nat} {fl : List (Nat × Nat)} {z : List ZK} {le : Lay} {xs : List Operand} {ss : List T} {lls : List (List D)} (hs : All2 AsD ss lls) (hl : xs.length = ss.length) (hlk : ∀ l ∈ lls, l.length = k) (ht : lay P t = some ⟨.slice e, we, fl, z⟩ := by rfl) (he : lay P e = some le := by rfl) (hk : le.size = k := by rfl) (hb : (Nat.blt 0 (xs.length * k) && Nat.ble (xs.length * k) 1000) = true := by rfl) :
    OpT P ops (mkO d (.buildSlice t xs.length (xs.zipIdx.map fun p => (p.2, p.1)).toArray) ty pos af) n (xs.zip ss) [] [] (dT (sl k lls)) [] n :=
  ⟨Nat.le_refl n, fun β S w A K htin hbel hO hK => by
    rw [if_pos (by simp [Region.wanted])]
    have hc := parts_cells (A := A) hs hl htin
    have hlen : lls.length = xs.length := by have := hc.len; simpa using this
    simp only [Bool.and_eq_true, Nat.blt_eq, Nat.ble_eq] at hb
    obtain ⟨zv, h1, h2⟩ := lay_zero he w
    have hsz : ∀ v ∈ xs.map A.eval, v.cells.size = k := fun v hv => by
      obtain ⟨j, hj, rfl⟩ := List.mem_iff_getElem.1 hv
      have hjl : j < lls.length := by rw [hlen]; simpa using hj
      obtain ⟨v', e1, e2⟩ := hc.get (List.getElem?_eq_getElem hjl)
      rw [List.getElem?_eq_getElem hj] at e1
      cases e1
      have := e2.len
      rw [hlk _ (List.getElem_mem hjl)] at this
      simpa using this.symm
    have hfl : ((xs.map A.eval).flatMap fun v => v.cells.toList).length = xs.length * k := by
      rw [cells_len _ hsz, List.length_map]
    unfold Oper.wp
    have hrun : (execOp A.eval (mkO d (.buildSlice t xs.length (xs.zipIdx.map fun p => (p.2, p.1)).toArray) ty pos af)).run P w = .ok (.value (.slice (some ⟨w.heap.size, 0, none⟩) xs.length xs.length)) (w.alloc (.cells ((xs.map A.eval).flatMap fun v => v.cells.toList).toArray e)) := by
      have hne : ¬ (xs.length * k > 2 ^ 24) := by omega
      have hne0 : ¬ (xs.length * k = 0) := by omega
      have hfill := fill_parts (k := k) (xs.map A.eval) 0 ((Array.range (xs.length * k)).map (zv.cells[· % zv.cells.size]!)) hsz (by simp)
      rw [Nat.zero_mul, setAll_full (by rw [hfl]; simp)] at hfill
      have hp : ((xs.zipIdx.map fun p => (p.2, p.1)).toArray.map fun (p : Nat × Operand) => (p.1, A.eval p.2)).toList = ((xs.map A.eval).zipIdx 0).map fun p => (p.2, p.1) := by
        simp only [List.map_toArray, List.map_map, List.zipIdx_map]
        rfl
      simp only [execOp, Instr.buildSlice, Sem.run_bind, run_underlying (lay_slice ht) w, Result.andThen_ok, lay_size he w, hk, hne, if_false, hne0, h1, Sem.run_pure, hp, hfill, newRow, run_newObj]
      rfl
    rw [hrun]
    have hkept : Kept [] w (w.alloc (.cells ((xs.map A.eval).flatMap fun v => v.cells.toList).toArray e)) := ⟨rfl, rfl, rfl, by simp, fun k hk _ => Below.heap_alloc _ _ _ hk⟩
    have hV : Sub (hide S w) (hide S (w.alloc (.cells ((xs.map A.eval).flatMap fun v => v.cells.toList).toArray e))) := hide_sub hkept fun k _ hn => ⟨by simp, hn⟩
    have hnS : w.heap.size ∉ S := fun h => Nat.lt_irrefl _ (hO.lt _ h)
    refine hK _ β _ hkept (fun _ _ => rfl) (bel0 rfl) ?_ ⟨nofun, nofun, nofun, fun b hb => by have := hO.lt b hb; simp; omega⟩ nofun
    have hk1 : 1 ≤ k := by
      rcases Nat.eq_zero_or_pos k with h | h
      · rw [h] at hb; omega
      · exact h
    have hxl : xs.length ≤ xs.length * k := Nat.le_mul_of_pos_right _ hk1
    refine ⟨_, _, by rw [hlen], by omega, by unfold maxLen; omega, fun j l' hj => ?_⟩
    obtain ⟨v, hv1, hv2⟩ := hc.get hj
    refine ⟨hlk l' (List.mem_of_getElem? hj), _, _, v.cells.toList, rfl, fun i u hi => ?_, hv2.mono hV⟩
    have hh : (hide S (w.alloc (.cells ((xs.map A.eval).flatMap fun v => v.cells.toList).toArray e))).heap[w.heap.size]? = some (.cells ((xs.map A.eval).flatMap fun v => v.cells.toList).toArray e) := by
      rw [hide_at, heap_alloc_new]
      simp [hnS]
    show (hide S _).cell? _ = _
    rw [cell_of_row _ _ _ _ _ _ hh, List.getElem?_toArray, Nat.zero_add]
    exact cells_at hsz hv1 hi⟩
end
end Go.Sv
namespace Go.Proofs.YtelkpflpgpdkdaaGreatDoor
open Go.Sv
set_option maxRecDepth 10000 in
theorem cmpIntC (a b : Int) : ∀ n, Con Tryz.prog 54 [iT a, iT b] [] n (iT (cmpI a b)) [] n := by
  have hn : ∀ a n, Con Tryz.prog 85 [iT a] [] n (bT false) [] n := fun a => by
    refine fnI Tryz.func85 Tryz.ntmps85 (h := fun S w0 β0 X => ?_)
    refine GO ?_
    exact finB (he := by simp)
  refine fnI Tryz.func54 Tryz.ntmps54 (h := fun S w0 β0 X => ?_)
  refine GO ?_
  refine Ch.c (hn a) (r := ?_)
  refine GO ?_
  refine Ch.c (hn b) (r := ?_)
  refine GO ?_
  by_cases h1 : a < b
  · refine GO ?_
    exact finI (he := by rw [cmpI, if_pos h1])
  by_cases h2 : b < a
  · refine GO ?_
    exact finI (he := by rw [cmpI, if_neg h1, if_pos h2])
  refine GO ?_
  exact finI (he := by rw [cmpI, if_neg h1, if_neg h2])
set_option maxRecDepth 10000 in
theorem cmpStrC (a b : Str) : ∀ n, Con Tryz.prog 171 [sT a, sT b] [] n (iT (cmpS a b)) [] n := by
  have hn : ∀ a n, Con Tryz.prog 188 [sT a] [] n (bT false) [] n := fun a => by
    refine fnI Tryz.func188 Tryz.ntmps188 (h := fun S w0 β0 X => ?_)
    refine GO ?_
    exact finB (he := by simp)
  refine fnI Tryz.func171 Tryz.ntmps171 (h := fun S w0 β0 X => ?_)
  refine GO ?_
  refine Ch.c (hn a) (r := ?_)
  refine GO ?_
  refine Ch.c (hn b) (r := ?_)
  refine GO ?_
  refine W.cond rfl (fun h1 => ?_) (fun h1 => ?_)
  · refine GO ?_
    exact finI (he := by rw [cmpS, sLt, if_pos h1])
  refine GO ?_
  refine W.cond rfl (fun h2 => ?_) (fun h2 => ?_)
  · refine GO ?_
    exact finI (he := by grind [cmpS, sLt, sLe])
  refine GO ?_
  exact finI (he := by grind [cmpS, sLt, sLe])
set_option maxRecDepth 10000 in
theorem cmpIntsC (l m : List Int) : ∀ n, Con Tryz.prog 129 [dT (intsD l), dT (intsD m)] [] n (iT (cmpL cmpI l m)) [] n := by
  refine fnI Tryz.func129 Tryz.ntmps129 (h := fun S w0 β0 X => ?_)
  refine GO ?_
  refine W.len 9 (h := fun hl => ?_)
  refine W.len 1 (h := fun hm => ?_)
  refine W.lp (fun k => k ≤ l.length ∧ cmpL cmpI (l.drop k) (m.drop k) = cmpL cmpI l m) (fun k => [(11, iT k)]) [(10, _), (9, _), (0, _), (1, _)] (l.length - ·) 0 ⟨Nat.zero_le _, rfl⟩ (round := fun k hk => ?_)
  by_cases hlt : k < l.length
  · have hx := List.getElem?_eq_getElem hlt
    generalize l[k] = x at hx
    by_cases hm2 : m.length ≤ k
    · refine GO ?_
      exact finI (he := by rw [← hk.2, cmpL_long hlt hm2])
    · have hy := List.getElem?_eq_getElem (show k < m.length by omega)
      generalize m[k]'(by omega) = y at hy
      have hc := cmpL_drop (f := cmpI) hx hy
      refine GO ?_
      refine Ch.c (cmpIntC x y) (r := ?_)
      by_cases hz : cmpI x y = 0
      · refine GO ?_
        exact W.ag (k + 1) ⟨hlt, by rw [← hk.2, hc, if_neg (by omega)]⟩ (by omega)
      · refine GO ?_
        exact finI (he := by rw [← hk.2, hc, if_pos hz])
  · obtain rfl : k = l.length := by omega
    have hc := hk.2
    rw [cmpL_end] at hc
    by_cases h1 : l.length < m.length
    · refine GO ?_
      exact finI (he := by rw [← hc, if_pos h1])
    · refine GO ?_
      exact finI (he := by rw [← hc, if_neg h1])
set_option maxRecDepth 10000 in
theorem cmpStrsC (l m : List Str) : ∀ n, Con Tryz.prog 130 [dT (strsD l), dT (strsD m)] [] n (iT (cmpL cmpS l m)) [] n := by
  refine fnI Tryz.func130 Tryz.ntmps130 (h := fun S w0 β0 X => ?_)
  refine GO ?_
  refine W.len 9 (h := fun hl => ?_)
  refine W.len 1 (h := fun hm => ?_)
  refine W.lp (fun k => k ≤ l.length ∧ cmpL cmpS (l.drop k) (m.drop k) = cmpL cmpS l m) (fun k => [(11, iT k)]) [(10, _), (9, _), (0, _), (1, _)] (l.length - ·) 0 ⟨Nat.zero_le _, rfl⟩ (round := fun k hk => ?_)
  by_cases hlt : k < l.length
  · have hx := List.getElem?_eq_getElem hlt
    generalize l[k] = x at hx
    by_cases hm2 : m.length ≤ k
    · refine GO ?_
      exact finI (he := by rw [← hk.2, cmpL_long hlt hm2])
    · have hy := List.getElem?_eq_getElem (show k < m.length by omega)
      generalize m[k]'(by omega) = y at hy
      have hc := cmpL_drop (f := cmpS) hx hy
      refine GO ?_
      refine Ch.c (cmpStrC x y) (r := ?_)
      by_cases hz : cmpS x y = 0
      · refine GO ?_
        exact W.ag (k + 1) ⟨hlt, by rw [← hk.2, hc, if_neg (by omega)]⟩ (by omega)
      · refine GO ?_
        exact finI (he := by rw [← hk.2, hc, if_pos hz])
  · obtain rfl : k = l.length := by omega
    have hc := hk.2
    rw [cmpL_end] at hc
    by_cases h1 : l.length < m.length
    · refine GO ?_
      exact finI (he := by rw [← hc, if_pos h1])
    · refine GO ?_
      exact finI (he := by rw [← hc, if_neg h1])
set_option maxRecDepth 10000 in
theorem orC (l : List Int) : ∀ n, Con Tryz.prog 53 [dT (intsD l)] [] n (iT (firstNZ l)) [] n := by
  refine fnI Tryz.func53 Tryz.ntmps53 (h := fun S w0 β0 X => ?_)
  refine GO ?_
  refine W.len 6 (h := fun hl => ?_)
  refine W.lp (fun k => k ≤ l.length ∧ firstNZ (l.drop k) = firstNZ l) (fun k => [(8, iT k)]) [(7, _), (6, _), (3, _)] (l.length - ·) 0 ⟨Nat.zero_le _, rfl⟩ (round := fun k hk => ?_)
  by_cases hlt : k < l.length
  · have hx := List.getElem?_eq_getElem hlt
    generalize l[k] = x at hx
    have hc := firstNZ_drop hx
    by_cases hz : x = 0
    · refine GO ?_
      exact W.ag (k + 1) ⟨hlt, by rw [← hk.2, hc, if_neg (by omega)]⟩ (by omega)
    · refine GO ?_
      exact finI (he := by rw [← hk.2, hc, if_pos hz])
  · obtain rfl : k = l.length := by omega
    refine GO ?_
    exact finI (he := by rw [← hk.2, List.drop_length]; rfl)
set_option maxRecDepth 10000 in
theorem lessG (e1 e2 : Int) (s1 s2 : List Int) (t1 t2 : List Str) (a1 a2 a3 a4 a5 b1 b2 b3 b4 b5 : D) : ∀ n, Con Tryz.prog 97 [agD [i64 e1, intsD s1, strsD t1, a1, a2, a3, a4, a5], agD [i64 e2, intsD s2, strsD t2, b1, b2, b3, b4, b5]] [] n (iT (firstNZ [cmpI e1 e2, cmpL cmpI s1 s2, cmpL cmpS t1 t2])) [] n := by
  refine fnI Tryz.func97 Tryz.ntmps97 (h := fun S w0 β0 X => ?_)
  refine GO ?_
  refine Ch.c (cmpIntC e1 e2) (r := ?_)
  refine GO ?_
  refine Ch.c (cmpIntsC s1 s2) (r := ?_)
  refine GO ?_
  refine Ch.c (cmpStrsC t1 t2) (r := ?_)
  refine Ch.p (OpT.sliceN (k := 1) (xs := [_, _, _]) (ss := [_, _, _]) (lls := [cmpI e1 e2, cmpL cmpI s1 s2, cmpL cmpS t1 t2].map fun n => [i64 n]) ⟨.one _, .one _, .one _, trivial⟩ rfl (by simp)) ⟨rfl, rfl, rfl, trivial⟩ ?_
  refine Ch.c (orC [cmpI e1 e2, cmpL cmpI s1 s2, cmpL cmpS t1 t2]) (r := ?_)
  refine GO ?_
  exact fin1
theorem lessC (x y : Res) (n : Nat) : Con Tryz.prog 97 [agD (resF x), agD (resF y)] [] n (iT (resLess x y)) [] n := by
  rw [← resLess_first x y]
  exact lessG x.edge y.edge x.step y.step x.at_ y.at_ _ _ _ _ _ _ _ _ _ _ n
end Go.Proofs.YtelkpflpgpdkdaaGreatDoor
namespace Go.Proofs.YtelkpflpgpdkdaaGreatDoor
open Go.Sv
set_option maxRecDepth 10000 in
theorem resRightC (l : List Res) (hf : ∀ x ∈ l, x.fit) : ∀ n, Con Tryz.prog 140 [dT (sl 8 (l.map resF))] [] n (bT (resRight l)) [] n := by
  refine fnI Tryz.func140 Tryz.ntmps140 (h := fun S w0 β0 X => ?_)
  refine GO ?_
  refine W.len 5 (h := fun hl => ?_)
  refine W.lp (fun k => k ≤ l.length ∧ resTo l k = true) (fun k => [(7, iT k)]) [(6, _), (5, _), (0, _)] (l.length - ·) 0 ⟨Nat.zero_le _, rfl⟩ (round := fun k hk => ?_)
  by_cases hlt : k < l.length
  · have hx := List.getElem?_eq_getElem hlt
    generalize l[k] = x at hx
    have hp : l[k - 1]? = some (l[k - 1]'(by omega)) := List.getElem?_eq_getElem (by omega)
    generalize l[k - 1]'(by omega) = p at hp
    have hs := resTo_succ l k
    refine GO ?_
    refine Ch.c (docRightC x.doc (hf x (List.mem_of_getElem? hx)).2.2) (r := ?_)
    refine GO ?_
    refine Ch.g (h := fun hg => OpT.indexR (j := k - 1) (hij := by grind) (hj := hp)) (r := ?_)
    refine GO ?_
    refine Ch.gc (hc := fun _ => lessC p x) (r := ?_)
    refine GO ?_
    refine W.cond rfl (fun h => ?_) (fun h => ?_)
    · refine GO ?_
      exact finB (he := by
        rw [resTo_false hlt]
        grind [resStep])
    · refine GO ?_
      exact W.ag (k + 1) ⟨hlt, by grind [resStep]⟩ (by omega)
  · obtain rfl : k = l.length := by omega
    refine GO ?_
    exact finB (he := by rw [resRight, hk.2]; grind)
end Go.Proofs.YtelkpflpgpdkdaaGreatDoor
namespace Go.Proofs.YtelkpflpgpdkdaaGreatDoor
open Go.Sv
set_option maxRecDepth 10000 in
theorem indexNamedC {ls : List (List D)} {xs : List Named} [Row ls Named xs namedF] (f : FuncId) (cs : List D) (p : Named → Bool) (hc : ∀ x ∈ xs, ∀ n, Con Tryz.prog f ([agD (namedF x)] ++ cs.map dT) [] n (bT (p x)) [] n) : ∀ n, Con Tryz.prog 104 [dT (sl 7 ls), dT (cloD f cs)] [] n (iT (idxOf p xs)) [] n := by
  refine fnI Tryz.func104 Tryz.ntmps104 (h := fun S w0 β0 X => ?_)
  refine GO ?_
  refine W.len 6 (h := fun hl => ?_)
  refine W.lp (fun k => k ≤ xs.length ∧ ∀ y ∈ xs.take k, p y = false) (fun k => [(8, iT k)]) [(7, _), (0, _), (1, _)] (xs.length - ·) 0 ⟨Nat.zero_le _, nofun⟩ (round := fun k hk => ?_)
  by_cases hlt : k < xs.length
  · have hx := List.getElem?_eq_getElem hlt
    generalize xs[k] = x at hx
    refine GO ?_
    refine Ch.dy (hc x (List.mem_of_getElem? hx)) (r := ?_)
    cases hp : p x
    · refine GO ?_
      exact W.ag (k + 1) ⟨hlt, take_all_succ hx hp hk.2⟩ (by omega)
    · refine GO ?_
      exact fin1 (he := by rw [idxOf_at hx hp hk.2]; rfl)
  · obtain rfl : k = xs.length := by omega
    refine GO ?_
    exact fin1 (he := by rw [idxOf_none fun y hy => hk.2 y (by rwa [List.take_length])]; rfl)
set_option maxRecDepth 10000 in
theorem indexFldC {ls : List (List D)} {xs : List Fld} [Row ls Fld xs fldF] (f : FuncId) (cs : List D) (p : Fld → Bool) (hc : ∀ x ∈ xs, ∀ n, Con Tryz.prog f ([agD (fldF x)] ++ cs.map dT) [] n (bT (p x)) [] n) : ∀ n, Con Tryz.prog 258 [dT (sl 8 ls), dT (cloD f cs)] [] n (iT (idxOf p xs)) [] n := by
  refine fnI Tryz.func258 Tryz.ntmps258 (h := fun S w0 β0 X => ?_)
  refine GO ?_
  refine W.len 6 (h := fun hl => ?_)
  refine W.lp (fun k => k ≤ xs.length ∧ ∀ y ∈ xs.take k, p y = false) (fun k => [(8, iT k)]) [(7, _), (0, _), (1, _)] (xs.length - ·) 0 ⟨Nat.zero_le _, nofun⟩ (round := fun k hk => ?_)
  by_cases hlt : k < xs.length
  · have hx := List.getElem?_eq_getElem hlt
    generalize xs[k] = x at hx
    refine GO ?_
    refine Ch.dy (hc x (List.mem_of_getElem? hx)) (r := ?_)
    cases hp : p x
    · refine GO ?_
      exact W.ag (k + 1) ⟨hlt, take_all_succ hx hp hk.2⟩ (by omega)
    · refine GO ?_
      exact fin1 (he := by rw [idxOf_at hx hp hk.2]; rfl)
  · obtain rfl : k = xs.length := by omega
    refine GO ?_
    exact fin1 (he := by rw [idxOf_none fun y hy => hk.2 y (by rwa [List.take_length])]; rfl)
set_option maxRecDepth 10000 in
theorem indexResC {ls : List (List D)} {xs : List Res} [Row ls Res xs resF] (f : FuncId) (cs : List D) (p : Res → Bool) (hc : ∀ x ∈ xs, ∀ n, Con Tryz.prog f ([agD (resF x)] ++ cs.map dT) [] n (bT (p x)) [] n) : ∀ n, Con Tryz.prog 142 [dT (sl 8 ls), dT (cloD f cs)] [] n (iT (idxOf p xs)) [] n := by
  refine fnI Tryz.func142 Tryz.ntmps142 (h := fun S w0 β0 X => ?_)
  refine GO ?_
  refine W.len 6 (h := fun hl => ?_)
  refine W.lp (fun k => k ≤ xs.length ∧ ∀ y ∈ xs.take k, p y = false) (fun k => [(8, iT k)]) [(7, _), (0, _), (1, _)] (xs.length - ·) 0 ⟨Nat.zero_le _, nofun⟩ (round := fun k hk => ?_)
  by_cases hlt : k < xs.length
  · have hx := List.getElem?_eq_getElem hlt
    generalize xs[k] = x at hx
    refine GO ?_
    refine Ch.dy (hc x (List.mem_of_getElem? hx)) (r := ?_)
    cases hp : p x
    · refine GO ?_
      exact W.ag (k + 1) ⟨hlt, take_all_succ hx hp hk.2⟩ (by omega)
    · refine GO ?_
      exact fin1 (he := by rw [idxOf_at hx hp hk.2]; rfl)
  · obtain rfl : k = xs.length := by omega
    refine GO ?_
    exact fin1 (he := by rw [idxOf_none fun y hy => hk.2 y (by rwa [List.take_length])]; rfl)
end Go.Proofs.YtelkpflpgpdkdaaGreatDoor
namespace Go.Proofs.YtelkpflpgpdkdaaGreatDoor
open Go.Sv
set_option maxRecDepth 10000 in
theorem gfindC (r : Registry) (s : Str) : ∀ n, Con Tryz.prog 71 [agD (regF r), sT s] [] n (iT (schemaIdx r s)) [] n := by
  have h1 : ∀ x ∈ r.schemas, ∀ n, Con Tryz.prog 105 ([agD (namedF x)] ++ [adr [str s]].map dT) [] n (bT (x.name.toList == s.toList)) [] n := fun x _ => by
    refine fnI Tryz.func105 Tryz.ntmps105 (h := fun S w0 β0 X => ?_)
    refine GO ?_
    exact fin1
  refine fnI Tryz.func71 Tryz.ntmps71 (h := fun S w0 β0 X => ?_)
  have st : Stop 1 := ⟨⟩
  refine GO ?_
  clear st
  refine W.frzB 1 [str s] (h := ?_)
  refine GO ?_
  refine Ch.c (indexNamedC (xs := r.schemas) _ [adr [str s]] (fun x => x.name.toList == s.toList) h1) (r := ?_)
  refine GO ?_
  exact fin1
set_option maxRecDepth 10000 in
theorem fieldC (t : Typ) (s : Str) : ∀ n, Con Tryz.prog 232 [agD (typF t), sT s] [] n (iT (fieldIdx t s)) [] n := by
  have h1 : ∀ x ∈ t.fields, ∀ n, Con Tryz.prog 259 ([agD (fldF x)] ++ [adr [str s]].map dT) [] n (bT (x.name.toList == s.toList)) [] n := fun x _ => by
    refine fnI Tryz.func259 Tryz.ntmps259 (h := fun S w0 β0 X => ?_)
    refine GO ?_
    exact fin1
  refine fnI Tryz.func232 Tryz.ntmps232 (h := fun S w0 β0 X => ?_)
  have st : Stop 1 := ⟨⟩
  refine GO ?_
  clear st
  refine W.frzB 1 [str s] (h := ?_)
  by_cases k1 : t.kind = 1
  · refine GO ?_
    refine Ch.c (indexFldC (xs := t.fields) _ [adr [str s]] (fun x => x.name.toList == s.toList) h1) (r := ?_)
    refine GO ?_
    exact finI (he := by rw [fieldIdx, if_pos k1])
  · refine GO ?_
    exact finI (he := by rw [fieldIdx, if_neg k1])
end Go.Proofs.YtelkpflpgpdkdaaGreatDoor
