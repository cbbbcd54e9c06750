/- Part 30 of what TransFills asks: for every input it returns true, and its input reads as it did. No condition. -/
import Derived.Test.YtddddgbboipfeaaGreatDoorPt15
import Derived.Test.YtddddgbboipfeaaGreatDoorPt28
import Derived.Test.YtddddgbboipfeaaGreatDoorPt29
import Derived.Laws.IdiomStrings
namespace Go.Proofs.YtddddgbboipfeaaGreatDoor
open Go.Sv
theorem kids_len {d : Doc} (h : d.size ≤ 1000000) : d.kids.length ≤ 1000000 := by have := Doc.sizes_len d.kids; have := d.size_kids; omega
set_option maxRecDepth 10000 in
theorem rdepthC (d : Doc) (hd : d.size ≤ 1000000) : ∀ n, Con Tryz.prog 179 [agD (docF d)] [] n (iT d.depth) [] n := by
  have hd' := d.depth_kids
  have hs' := d.size_kids
  have hk := kids_len hd
  have hdl := depth_le_size _ d (Nat.le_refl _)
  refine fnI Tryz.func179 Tryz.ntmps179 (h := fun S w0 β0 X => ?_)
  refine GO ?_
  refine W.lp ((· ≤ d.kids.length)) (fun k => [(4, iT k), (3, iT (Doc.depths (d.kids.take k)))]) [(1, _)] (d.kids.length - ·) 0 (Nat.zero_le _) (round := fun k hk => ?_)
  by_cases hlt : k < d.kids.length
  · have hx := List.getElem?_eq_getElem hlt
    generalize d.kids[k] = x at hx
    have hsx := Doc.size_le_sizes (List.mem_of_getElem? hx)
    refine GO ?_
    refine Ch.c (rdepthC x (by omega)) (r := ?_)
    refine GO ?_
    rw [show (if (x.depth : Int) > Doc.depths (d.kids.take k) then (x.depth : Int) else Doc.depths (d.kids.take k)) = Doc.depths (d.kids.take (k + 1)) by rw [depths_take _ _ _ hx]; split <;> omega]
    exact W.ag (k + 1) (hlt) (by omega)
  · obtain rfl : k = d.kids.length := by omega
    rw [List.take_length]
    refine GO ?_
    exact fin1 (he := by rw [hd']; rfl)
termination_by d.size
decreasing_by omega
set_option maxRecDepth 10000 in
theorem rsizeC (d : Doc) (hd : d.size ≤ 1000000) : ∀ n, Con Tryz.prog 180 [agD (docF d)] [] n (iT d.size) [] n := by
  have hs' := d.size_kids
  have hk := kids_len hd
  refine fnI Tryz.func180 Tryz.ntmps180 (h := fun S w0 β0 X => ?_)
  refine GO ?_
  refine W.lp ((· ≤ d.kids.length)) (fun k => [(4, iT k), (3, iT (Doc.sizes (d.kids.take k) + 1 : Nat))]) [(1, _)] (d.kids.length - ·) 0 (Nat.zero_le _) (round := fun k hk => ?_)
  have hle := sizes_take_le d.kids k
  by_cases hlt : k < d.kids.length
  · have hx := List.getElem?_eq_getElem hlt
    generalize d.kids[k] = x at hx
    have hsx := Doc.size_le_sizes (List.mem_of_getElem? hx)
    refine GO ?_
    refine Ch.c (rsizeC x (by omega)) (r := ?_)
    refine GO ?_
    rw [show ((Doc.sizes (d.kids.take k) + 1 : Nat) : Int) + x.size = (Doc.sizes (d.kids.take (k + 1)) + 1 : Nat) by rw [sizes_take _ _ _ hx]; omega]
    exact W.ag (k + 1) (hlt) (by omega)
  · obtain rfl : k = d.kids.length := by omega
    rw [List.take_length]
    refine GO ?_
    exact fin1 (he := by rw [hs']; rfl)
termination_by d.size
decreasing_by omega
set_option maxRecDepth 10000 in
theorem rnameC (s : Str) : ∀ n, Con Tryz.prog 90 [sT s] [] n (bT (nameOk s)) [] n := by
  refine fnI Tryz.func90 Tryz.ntmps90 (h := fun S w0 β0 X => ?_)
  cases hb : (decide ((s.size : Int) < 1) || decide ((16 : Int) < (s.size : Int)))
  · have hz : 1 ≤ s.size ∧ s.size ≤ 16 := by simp at hb; omega
    refine GO ?_
    refine W.lp (fun k => k ≤ s.size ∧ namesFrom 0 (s.data.toList.take k) = true) (fun k => [(3, iT k)]) [(0, _)] (s.size - ·) 0 (⟨Nat.zero_le _, rfl⟩) (round := fun k hk => ?_)
    by_cases hlt : k < s.size
    · have hx : s[k]? = some s[k] := getElem?_pos s k hlt
      generalize s[k] = c at hx
      have hs := namesFrom_succ (byte_get hx)
      rw [hk.2, Bool.true_and] at hs
      refine GO ?_
      refine W.cond rfl (fun h => ?_) (fun h => ?_)
      · refine GO ?_
        exact finB (he := by have := namesFrom_false (l := s.data.toList) (k := k + 1) (by grind [nameAt]); simp [nameOk, this])
      · refine GO ?_
        exact W.ag (k + 1) (⟨hlt, by grind [nameAt]⟩) (by omega)
    · obtain rfl : k = s.size := by omega
      have := hk.2
      rw [List.take_of_length_le (by simp)] at this
      refine GO ?_
      exact finB (he := by grind [nameOk])
  · refine GO ?_
    exact finB (he := by simp at hb; grind [nameOk])
set_option maxRecDepth 10000 in
theorem rpartC (d : Doc) (hd : d.fit) : ∀ n, Con Tryz.prog 181 [agD (docF d)] [] n (bT d.part) [] n := by
  have hp := d.part_kids
  have hpl := plain_bad d
  have hk1 := hd.keys
  have hk2 := hd.kids
  refine fnI Tryz.func181 Tryz.ntmps181 (h := fun S w0 β0 X => ?_)
  refine GO ?_
  refine W.cond rfl (fun h1 => ?_) (fun h1 => ?_)
  · refine GO ?_
    exact finB (he := by grind [bad1])
  refine GO ?_
  refine W.cond rfl (fun h2 => ?_) (fun h2 => ?_)
  · refine GO ?_
    exact finB (he := by grind [bad2])
  refine GO ?_
  refine W.cond rfl (fun h3 => ?_) (fun h3 => ?_)
  · rw [emp] at h3
    refine GO ?_
    exact finB (he := by grind [bad3])
  rw [emp] at h3
  refine GO ?_
  refine W.cond rfl (fun h4 => ?_) (fun h4 => ?_)
  · refine GO ?_
    exact finB (he := by grind [bad4])
  have hpl : plain d = true := by
    rw [hpl, bad1, bad2, bad3, bad4]
    simp only [Bool.or_eq_false_iff, Bool.and_eq_false_iff, decide_eq_false_iff_not, Bool.not_eq_false', Bool.not_eq_true', decide_eq_true_eq, ne_eq, Decidable.not_not] at h1 h2 h3 h4 ⊢
    omega
  refine GO ?_
  refine W.lp (fun k => k ≤ d.keys.length ∧ keysTo (decide (d.kind = 1)) d.keys k = true) (fun k => [(3, iT k)]) [(1, _)] (d.keys.length - ·) 0 (⟨Nat.zero_le _, rfl⟩) (round := fun k hk => ?_)
  by_cases hlt : k < d.keys.length
  · have hx := List.getElem?_eq_getElem hlt
    generalize d.keys[k] = x at hx
    have hxd : d.keys.getD k default = x := by simp [hx]
    have hs := keysTo_succ (decide (d.kind = 1)) d.keys k
    have hkd : d.kind = 1 ∨ d.kind = 2 := by
      simp only [Bool.or_eq_false_iff, Bool.and_eq_false_iff, decide_eq_false_iff_not, Bool.not_eq_false', decide_eq_true_eq] at h1 h4
      omega
    have hno : nameOk x = true → x.size ≤ 256 := fun h => by grind [nameOk]
    have hbad : keyStep (decide (d.kind = 1)) d.keys k = false → d.part = false := fun h => by rw [hp, keysOk, show keysTo (decide (d.kind = 1)) d.keys d.keys.length = false from keysTo_false hlt h]; simp
    refine GO ?_
    refine Ch.g (h := fun hg => OpT.indexR (j := k - 1) (v := d.keys.getD (k - 1) default) (hij := by grind) (hj := getD_at (by omega))) (r := ?_)
    refine GO ?_
    refine W.cond rfl (fun h5 => ?_) (fun h5 => ?_)
    · refine GO ?_
      exact finB (he := by rw [hbad]; grind [keyStep, sLe])
    refine GO ?_
    refine Ch.c (rnameC x) (r := ?_)
    refine GO ?_
    refine W.cond rfl (fun h6 => ?_) (fun h6 => ?_)
    · refine GO ?_
      exact finB (he := by rw [hbad]; grind [keyStep])
    · refine GO ?_
      exact W.ag (k + 1) (⟨hlt, by grind [keyStep, sLe]⟩) (by omega)
  obtain rfl : k = d.keys.length := by omega
  have hk9 : keysOk (decide (d.kind = 1)) d.keys = true := hk.2
  rw [hpl, hk9, Bool.true_and, Bool.true_and] at hp
  refine GO ?_
  refine W.lp (fun k => k ≤ d.kids.length ∧ ∀ x ∈ d.kids.take k, x.part = true) (fun k => [(5, iT k)]) [(1, _)] (d.kids.length - ·) 0 (⟨Nat.zero_le _, nofun⟩) (round := fun k hk => ?_)
  by_cases hlt : k < d.kids.length
  · have hx := List.getElem?_eq_getElem hlt
    generalize d.kids[k] = x at hx
    have hm := List.mem_of_getElem? hx
    have hms := mem_size hm
    refine GO ?_
    refine Ch.c (rpartC x (hd.kid hm)) (r := ?_)
    refine GO ?_
    cases hxp : x.part
    · refine GO ?_
      exact finB (he := by rw [hp]; exact (List.all_eq_false.2 ⟨x, hm, by simp [hxp]⟩).symm)
    · refine GO ?_
      exact W.ag (k + 1) (⟨hlt, fun y hy => by rw [List.take_add_one, hx] at hy; grind⟩) (by omega)
  · obtain rfl : k = d.kids.length := by omega
    refine GO ?_
    exact finB (he := by rw [hp]; exact (List.all_eq_true.2 fun y hy => hk.2 y (by rwa [List.take_length])).symm)
termination_by d.size
set_option maxRecDepth 10000 in
theorem rdocRightC (d : Doc) (hf : d.fit) : ∀ n, Con Tryz.prog 138 [agD (docF d)] [] n (bT d.right) [] n := by
  refine fnI Tryz.func138 Tryz.ntmps138 (h := fun S w0 β0 X => ?_)
  refine GO ?_
  refine Ch.c (rdepthC d hf.1) (r := ?_)
  refine GO ?_
  refine Ch.gc (hc := fun _ => rsizeC d hf.1) (r := ?_)
  refine GO ?_
  refine Ch.gc (hc := fun _ => rpartC d hf) (r := ?_)
  refine GO ?_
  exact finB (he := by rw [Doc.right]; grind)
end Go.Proofs.YtddddgbboipfeaaGreatDoor
namespace Go.Proofs.YtddddgbboipfeaaGreatDoor
open Go.Sv
set_option maxRecDepth 10000 in
theorem rrowsC (l m : List Str) (hl : l.length ≤ 1000000) : ∀ n, Con Tryz.prog 136 [dT (strsD l), dT (strsD m)] [] n (bT (eqL l m)) [] n := by
  refine fnI Tryz.func136 Tryz.ntmps136 (h := fun S w0 β0 X => ?_)
  by_cases h0 : (l.length : Int) = m.length
  · refine GO ?_
    refine W.lp (fun k => k ≤ l.length ∧ eqL (l.drop k) (m.drop k) = eqL l m) (fun k => [(5, iT k)]) [(0, _), (1, _)] (l.length - ·) 0 (⟨Nat.zero_le _, rfl⟩) (round := fun k hk => ?_)
    by_cases hlt : k < l.length
    · have hx := List.getElem?_eq_getElem hlt
      generalize l[k] = x at hx
      have hy := List.getElem?_eq_getElem (show k < m.length by omega)
      generalize m[k]'(by omega) = y at hy
      have he := eqL_drop hx hy
      refine GO ?_
      refine W.cond rfl (fun h1 => ?_) (fun h1 => ?_)
      · refine GO ?_
        exact finB (he := by rw [← hk.2, he]; simp at h1; simp [h1])
      · refine GO ?_
        exact W.ag (k + 1) (⟨hlt, by rw [← hk.2, he]; simp at h1; simp [h1]⟩) (by omega)
    · obtain rfl : k = l.length := by omega
      refine GO ?_
      exact finB (he := by rw [← hk.2, List.drop_length, show l.length = m.length by omega, List.drop_length]; rfl)
  · refine GO ?_
    exact finB (he := by cases h : eqL l m; rfl; exact absurd (eqL_len h) (by omega))
theorem OpT_neB {P : Program} {ops : Array Oper} {n : Nat} {d : Option Tmp} {ty t t' : TypeId} {pos : String} {af : Array Edge} {x y : Operand} {a b : Bool} (ht : P.underlying t = some .bool) : OpT P ops (mkO d (.binOp .neq t x y t') ty pos af) n [(x, bT a), (y, bT b)] [] [] (bT (!(a == b))) [] n := .runD rfl fun β V w A _ h => by
  obtain ⟨h1, h2⟩ := in2 h
  have e1 : A.eval x = .bool a := h1
  have e2 : A.eval y = .bool b := h2
  exact ⟨.bool (!(a == b)), by simp [execOp, e1, e2, eqGuard, binOp, run_equal_bool w t a b ht], rfl⟩
set_option maxRecDepth 10000 in
theorem rfieldC (t : Typ) (s : Str) (hf : t.fields.length ≤ 1000000) : ∀ n, Con Tryz.prog 211 [agD (typF t), sT s] [] n (iT (fieldIdx t s)) [] n := by
  refine fnI Tryz.func211 Tryz.ntmps211 (h := fun S w0 β0 X => ?_)
  refine GO ?_
  refine W.lp (fun k => k ≤ t.fields.length ∧ ∀ y ∈ t.fields.take k, (y.name.toList == s.toList) = false) (fun k => [(5, iT k)]) [(1, _), (2, _)] (t.fields.length - ·) 0 (⟨Nat.zero_le _, nofun⟩) (round := fun k hk => ?_)
  refine GO ?_
  by_cases h1 : t.kind = 1
  · by_cases hlt : k < t.fields.length
    · have hx := List.getElem?_eq_getElem hlt
      generalize t.fields[k] = x at hx
      have hc : (decide ((k : Int) < t.fields.length) && decide (t.kind = 1)) = true := by simp [h1]; omega
      refine GO ?_
      refine W.cond rfl (fun h2 => ?_) (fun h2 => ?_)
      · refine GO ?_
        exact finI (he := by rw [fieldIdx, if_pos h1]; exact (idxOf_at hx (p := fun f : Fld => f.name.toList == s.toList) h2 hk.2).symm)
      · refine GO ?_
        exact W.ag (k + 1) (⟨hlt, take_all_succ (p := fun f : Fld => f.name.toList == s.toList) hx h2 hk.2⟩) (by omega)
    · obtain rfl : k = t.fields.length := by omega
      have hc : (decide ((t.fields.length : Int) < t.fields.length) && decide (t.kind = 1)) = false := by simp
      refine GO ?_
      exact finI (he := by rw [fieldIdx, if_pos h1]; exact (idxOf_none fun y hy => hk.2 y (by rwa [List.take_length])).symm)
  · have hc : (decide ((k : Int) < t.fields.length) && decide (t.kind = 1)) = false := by simp [h1]
    refine GO ?_
    exact finI (he := by rw [fieldIdx, if_neg h1])
set_option maxRecDepth 10000 in
theorem rscalarTC (t : Typ) : ∀ n, Con Tryz.prog 212 [agD (typF t)] [] n (bT (scalarB t)) [] n := by
  refine fnI Tryz.func212 Tryz.ntmps212 (h := fun S w0 β0 X => ?_)
  refine GO ?_
  exact fin1
set_option maxRecDepth 10000 in
theorem rsizeTC (t : Typ) (ht : t.size ≤ 1000000) : ∀ n, Con Tryz.prog 130 [agD (typF t)] [] n (iT t.size) [] n := by
  have hp := t.size_parts
  have h1 := Typ.sizeFs_len t.fields
  have h2 := Typ.sizes_len t.of
  refine fnI Tryz.func130 Tryz.ntmps130 (h := fun S w0 β0 X => ?_)
  refine GO ?_
  refine W.lp ((· ≤ t.fields.length)) (fun k => [(4, iT k), (3, iT (Typ.sizeFs (t.fields.take k) + 1 : Nat))]) [(1, _)] (t.fields.length - ·) 0 (Nat.zero_le _) (round := fun k hk => ?_)
  have hle := Typ.sizeFs_take_le t.fields k
  by_cases hlt : k < t.fields.length
  · have hx := List.getElem?_eq_getElem hlt
    generalize t.fields[k] = x at hx
    have hsx := Typ.sizeFs_mem (List.mem_of_getElem? hx)
    have hmm := List.mem_of_getElem? hx
    refine GO ?_
    refine Ch.c (rsizeTC x.typ (by omega)) (r := ?_)
    refine GO ?_
    rw [show ((Typ.sizeFs (t.fields.take k) + 1 : Nat) : Int) + x.typ.size = (Typ.sizeFs (t.fields.take (k + 1)) + 1 : Nat) by rw [Typ.take_sizeFs hx]; omega]
    exact W.ag (k + 1) (hlt) (by omega)
  obtain rfl : k = t.fields.length := by omega
  rw [List.take_length]
  refine GO ?_
  refine W.lp ((· ≤ t.of.length)) (fun k => [(5, iT k), (3, iT (Typ.sizeFs t.fields + 1 + Typ.sizes (t.of.take k) : Nat))]) [(1, _)] (t.of.length - ·) 0 (Nat.zero_le _) (round := fun k hk => ?_)
  have hle := Typ.sizesT_take_le t.of k
  by_cases hlt : k < t.of.length
  · have hx := List.getElem?_eq_getElem hlt
    generalize t.of[k] = x at hx
    have hsx := Typ.sizes_mem (List.mem_of_getElem? hx)
    have hmm := List.mem_of_getElem? hx
    refine GO ?_
    refine Ch.c (rsizeTC x (by omega)) (r := ?_)
    refine GO ?_
    rw [show ((Typ.sizeFs t.fields + 1 + Typ.sizes (t.of.take k) : Nat) : Int) + x.size = (Typ.sizeFs t.fields + 1 + Typ.sizes (t.of.take (k + 1)) : Nat) by rw [Typ.take_sizes hx]; omega]
    exact W.ag (k + 1) (hlt) (by omega)
  · obtain rfl : k = t.of.length := by omega
    rw [List.take_length]
    refine GO ?_
    exact finI (he := by rw [hp]; omega)
termination_by t.size
set_option maxRecDepth 10000 in
theorem rdepthTC (t : Typ) (ht : t.size ≤ 1000000) : ∀ n, Con Tryz.prog 131 [agD (typF t)] [] n (iT t.depth) [] n := by
  have hp := t.size_parts
  have hdp := t.depth_parts
  have h1 := Typ.sizeFs_len t.fields
  have h2 := Typ.sizes_len t.of
  have h3 := Typ.depth_le_size _ t (Nat.le_refl _)
  refine fnI Tryz.func131 Tryz.ntmps131 (h := fun S w0 β0 X => ?_)
  refine GO ?_
  refine W.lp ((· ≤ t.fields.length)) (fun k => [(4, iT k), (3, iT (Typ.depthFs (t.fields.take k)))]) [(1, _)] (t.fields.length - ·) 0 (Nat.zero_le _) (round := fun k hk => ?_)
  by_cases hlt : k < t.fields.length
  · have hx := List.getElem?_eq_getElem hlt
    generalize t.fields[k] = x at hx
    have hsx := Typ.sizeFs_mem (List.mem_of_getElem? hx)
    have hmm := List.mem_of_getElem? hx
    refine GO ?_
    refine Ch.c (rdepthTC x.typ (by omega)) (r := ?_)
    refine GO ?_
    rw [show (if (x.typ.depth : Int) > Typ.depthFs (t.fields.take k) then (x.typ.depth : Int) else Typ.depthFs (t.fields.take k)) = Typ.depthFs (t.fields.take (k + 1)) by rw [Typ.take_depthFs hx]; split <;> omega]
    exact W.ag (k + 1) (hlt) (by omega)
  obtain rfl : k = t.fields.length := by omega
  rw [List.take_length]
  refine GO ?_
  rw [show iT (Typ.depthFs t.fields : Nat) = iT (max (Typ.depthFs t.fields) (Typ.depths (t.of.take 0)) : Nat) by simp [Typ.depths]]
  refine W.lp ((· ≤ t.of.length)) (fun k => [(5, iT k), (3, iT (max (Typ.depthFs t.fields) (Typ.depths (t.of.take k)) : Nat))]) [(1, _)] (t.of.length - ·) 0 (Nat.zero_le _) (round := fun k hk => ?_)
  by_cases hlt : k < t.of.length
  · have hx := List.getElem?_eq_getElem hlt
    generalize t.of[k] = x at hx
    have hsx := Typ.sizes_mem (List.mem_of_getElem? hx)
    have hmm := List.mem_of_getElem? hx
    refine GO ?_
    refine Ch.c (rdepthTC x (by omega)) (r := ?_)
    refine GO ?_
    rw [show (if (x.depth : Int) > (max (Typ.depthFs t.fields) (Typ.depths (t.of.take k)) : Nat) then (x.depth : Int) else (max (Typ.depthFs t.fields) (Typ.depths (t.of.take k)) : Nat)) = (max (Typ.depthFs t.fields) (Typ.depths (t.of.take (k + 1))) : Nat) by rw [Typ.take_depths hx]; split <;> omega]
    exact W.ag (k + 1) (hlt) (by omega)
  · obtain rfl : k = t.of.length := by omega
    rw [List.take_length]
    refine GO ?_
    exact finI (he := by rw [hdp]; omega)
termination_by t.size
end Go.Proofs.YtddddgbboipfeaaGreatDoor
namespace Go.Proofs.YtddddgbboipfeaaGreatDoor
open Go.Sv
set_option maxRecDepth 10000 in
set_option maxHeartbeats 2000000 in
theorem rpartTC (t : Typ) (hf : t.fit) : ∀ n, Con Tryz.prog 132 [agD (typF t)] [] n (bT t.part) [] n := by
  have hp := t.part_kids
  have hn := hf.names
  have h8 := hf.fields
  have h9 := hf.of
  refine fnI Tryz.func132 Tryz.ntmps132 (h := fun S w0 β0 X => ?_)
  have hbare : bareT t = !((decide (t.kind ≠ 1) && decide (t.fields.length ≠ 0)) || (decide (t.kind ≠ 7) && decide (t.names.length ≠ 0)) || (decide (t.kind ≠ 2 ∧ t.kind ≠ 3) && decide (t.of.length ≠ 0)) || (decide (t.kind ≠ 2 ∧ t.kind ≠ 3 ∧ t.kind ≠ 4 ∧ t.kind ≠ 6) && (decide (t.lo ≠ 0) || decide (t.hi ≠ 0)))) := rfl
  refine GO ?_
  refine W.cond rfl (fun h1 => ?_) (fun h1 => ?_)
  · have h1' : ¬ (1 ≤ t.kind ∧ t.kind ≤ 7) := by simp at h1; omega
    refine GO ?_
    exact finB (he := by rw [hp]; grind)
  refine GO ?_
  refine W.cond rfl (fun h2 => ?_) (fun h2 => ?_)
  · have : bareT t = false := by
      rw [hbare]
      simp only [Bool.or_eq_true, Bool.and_eq_true, Bool.not_eq_true', decide_eq_true_eq, decide_eq_false_iff_not] at h2
      grind
    refine GO ?_
    exact finB (he := by rw [hp, this]; rfl)
  have h1' : 1 ≤ t.kind ∧ t.kind ≤ 7 := by simp at h1; omega
  have q1 : t.kind ≠ 1 → t.fields.length = 0 := by grind
  have q2 : t.kind ≠ 7 → t.names.length = 0 := by grind
  have q3 : t.kind ≠ 2 → t.kind ≠ 3 → t.of.length = 0 := by grind
  have hb2 : bareT t = !(decide (t.kind ≠ 2 ∧ t.kind ≠ 3 ∧ t.kind ≠ 4 ∧ t.kind ≠ 6) && (decide (t.lo ≠ 0) || decide (t.hi ≠ 0))) := by rw [hbare]; grind
  clear h1 h2 hbare
  by_cases k1 : t.kind = 1
  · simp only [k1, if_pos] at hp
    refine GO ?_
    refine W.cond rfl (fun h3 => ?_) (fun h3 => ?_)
    · refine GO ?_
      exact finB (he := by grind)
    have h3' : bareT t = true ∧ t.fields.length ≤ 32 := by grind
    refine GO ?_
    refine W.lp (fun k => k ≤ t.fields.length ∧ fldsTo t.fields k = true ∧ ∀ f ∈ t.fields.take k, f.typ.part = true) (fun k => [(3, iT k)]) [(1, _)] (t.fields.length - ·) 0 (⟨Nat.zero_le _, rfl, nofun⟩) (round := fun k hk => ?_)
    by_cases hlt : k < t.fields.length
    · have hx := List.getElem?_eq_getElem hlt
      generalize t.fields[k] = x at hx
      have hmm := List.mem_of_getElem? hx
      have hpv : t.fields[k - 1]? = some (t.fields[k - 1]'(by omega)) := List.getElem?_eq_getElem (by omega)
      generalize t.fields[k - 1]'(by omega) = p at hpv
      refine GO ?_
      refine Ch.c (rnameC x.name) (r := ?_)
      refine GO ?_
      refine Ch.g (h := fun hg => OpT.indexR (j := k - 1) (hij := by grind) (hj := hpv)) (r := ?_)
      refine GO ?_
      refine Ch.gc (hc := fun _ => rpartTC x.typ (hf.fld hmm)) (r := ?_)
      refine GO ?_
      have hs := fldsTo_succ t.fields k
      have hs1 : fldStep t.fields k = (nameOk x.name && !(decide (0 < k) && sLe x.name p.name)) := by rw [fldStep, hx, hpv]
      refine W.cond rfl (fun h => ?_) (fun h => ?_)
      · have h' : t.part = false := by
          have h' : fldStep t.fields k = false ∨ x.typ.part = false := by grind [sLe]
          rcases h' with h' | h'
          · rw [hp, fldsTo_false hlt h']; simp
          · rw [hp, show (t.fields.all fun f => f.typ.part) = false from List.all_eq_false.2 ⟨x, hmm, by simp [h']⟩]; simp
        refine GO ?_
        exact finB (he := by rw [h'])
      · have h' : fldStep t.fields k = true ∧ x.typ.part = true := by grind [sLe]
        refine GO ?_
        exact W.ag (k + 1) (⟨hlt, by rw [hs, hk.2.1, h'.1]; rfl, fun f hf => by rw [List.take_add_one, hx] at hf; grind⟩) (by omega)
    · obtain rfl : k = t.fields.length := by omega
      have ha : (t.fields.all fun f => f.typ.part) = true := List.all_eq_true.2 fun f hf => hk.2.2 f (by rwa [List.take_length])
      refine GO ?_
      exact finB (he := by rw [hp, hk.2.1, ha]; grind)
  by_cases k2 : t.kind = 2 ∨ t.kind = 3
  · rw [if_neg k1, if_pos k2] at hp
    have hb3 : bareT t = true := by grind
    have h0 : (decide ((t.of.length : Int) = 1) && decide (0 ≤ t.lo) && decide (t.lo ≤ t.hi)) = true → t.of = [t.of0] := fun h => by
      simp only [Bool.and_eq_true, decide_eq_true_eq] at h
      match e : t.of, h with
      | [x], _ => simp [Typ.of0, e]
    have he : t.part = (decide ((t.of.length : Int) = 1) && decide (0 ≤ t.lo) && decide (t.lo ≤ t.hi) && t.of0.part) := by
      have hd : decide (t.of.length = 1) = decide ((t.of.length : Int) = 1) := decide_eq_decide.2 (by omega)
      rw [hp, hb3, Bool.true_and, hd]
      cases hc : (decide ((t.of.length : Int) = 1) && decide (0 ≤ t.lo) && decide (t.lo ≤ t.hi))
      · rw [Bool.false_and, Bool.false_and]
      · rw [show t.of.all Typ.part = t.of0.part by rw [h0 hc]; simp [Typ.of0]]
    rcases k2 with k2 | k2 <;> refine GO ?_
    all_goals refine Ch.g (h := fun hg => OpT.indexR (xs := t.of) (j := 0) (v := t.of0) (hj := by rw [h0 hg]; rfl)) (r := ?_)
    all_goals refine GO ?_
    all_goals refine Ch.gc (hc := fun hg => have hmm : t.of0 ∈ t.of := by { rw [h0 hg]; exact List.mem_singleton.2 rfl }; rpartTC t.of0 (hf.kid hmm)) (r := ?_)
    all_goals refine GO ?_
    all_goals exact finB (he := by rw [he])
  by_cases k4 : t.kind = 4
  · refine GO ?_
    exact finB (he := by grind)
  by_cases k5 : t.kind = 5
  · refine GO ?_
    exact finB (he := by grind)
  by_cases k6 : t.kind = 6
  · refine GO ?_
    exact finB (he := by grind)
  have k7 : t.kind = 7 := by omega
  rw [if_neg k1, if_neg k2, if_neg k4, if_neg k5, if_neg k6, if_pos k7] at hp
  refine GO ?_
  refine W.cond rfl (fun h3 => ?_) (fun h3 => ?_)
  · refine GO ?_
    exact finB (he := by rw [hp, namesOk]; grind)
  have h3' : bareT t = true ∧ 0 < t.names.length ∧ t.names.length ≤ 32 := by grind
  refine GO ?_
  refine W.lp (fun k => k ≤ t.names.length ∧ keysTo false t.names k = true) (fun k => [(5, iT k)]) [(1, _)] (t.names.length - ·) 0 (⟨Nat.zero_le _, rfl⟩) (round := fun k hk => ?_)
  by_cases hlt : k < t.names.length
  · have hx := List.getElem?_eq_getElem hlt
    generalize t.names[k] = x at hx
    have hxd : t.names.getD k default = x := by simp [hx]
    have hs := keysTo_succ false t.names k
    refine GO ?_
    refine Ch.g (h := fun hg => OpT.indexR (j := k - 1) (v := t.names.getD (k - 1) default) (hij := by grind) (hj := getD_at (by omega))) (r := ?_)
    refine GO ?_
    refine W.cond rfl (fun h => ?_) (fun h => ?_)
    · refine GO ?_
      exact finB (he := by rw [hp, namesOk, keysOk, show keysTo false t.names t.names.length = false from keysTo_false hlt (by grind [keyStep, sLe])]; simp)
    · refine GO ?_
      exact W.ag (k + 1) (⟨hlt, by grind [keyStep, sLe]⟩) (by omega)
  · obtain rfl : k = t.names.length := by omega
    refine GO ?_
    exact finB (he := by rw [hp, namesOk, keysOk, hk.2]; grind)
termination_by t.size
decreasing_by
  all_goals first | exact fld_size (by assumption) | exact of_size (by assumption)
set_option maxRecDepth 10000 in
theorem rrightTC (t : Typ) (hf : t.fit) : ∀ n, Con Tryz.prog 91 [agD (typF t)] [] n (bT t.right) [] n := by
  refine fnI Tryz.func91 Tryz.ntmps91 (h := fun S w0 β0 X => ?_)
  refine GO ?_
  refine Ch.c (rsizeTC t hf.1) (r := ?_)
  refine GO ?_
  refine Ch.gc (hc := fun _ => rdepthTC t hf.1) (r := ?_)
  refine GO ?_
  refine Ch.gc (hc := fun _ => rpartTC t hf) (r := ?_)
  refine GO ?_
  exact finB (he := by rw [Typ.right]; grind)
end Go.Proofs.YtddddgbboipfeaaGreatDoor
namespace Go.Proofs.YtddddgbboipfeaaGreatDoor
open Go.Sv
open Go.RowKit Go.Lib
theorem heap_alloc_size (w : World) (o : Obj) : (w.alloc o).heap.size = w.heap.size + 1 := by simp
theorem enters_of {P : Program} {f : FuncId} {fn : Go.Func} {c : Code} (hf : P.funcs[f]? = some fn) (hnm : (fn.name == "runtime.NumGoroutine") = false) (hb : fn.body = some c) : Enters P f := fun args w => by simp only [callFunc, Sem.run_bind, run_program, Result.andThen_ok, hf, hb, hnm, Option.isNone, Bool.false_eq_true, if_false, Sem.run_pure]
theorem kept_alloc {w w' : World} (h : Kept [] w w') (o : Obj) : Kept [] w (w'.alloc o) := h.trans (Y := []) ⟨rfl, rfl, rfl, by simp, fun k hk _ => Below.heap_alloc _ _ _ hk⟩ (fun _ h => h) (fun _ h => by cases h)
theorem digit_conv (W : World) (y : Int) : (convert 253 9 (.slice (some ⟨W.heap.size, 0, none⟩) 1 1)).run Tryz.prog (W.alloc (.cells #[.int .u8 (48 + y % 10)] 5)) = .ok (.string ⟨#[UInt8.ofNat (48 + y % 10).toNat]⟩) (W.alloc (.cells #[.int .u8 (48 + y % 10)] 5)) := by
  refine run_convert_bytes_back _ _ _ 5 ⟨W.heap.size, 0, none⟩ 1 [UInt8.ofNat (48 + y % 10).toNat] Tryz.underlying253 Tryz.underlying5 Tryz.underlying9 fun j hj => ?_
  obtain rfl : j = 0 := by simpa using hj
  have h : ((UInt8.ofNat (48 + y % 10).toNat).toNat : Int) = 48 + y % 10 := by
    rw [UInt8.toNat_ofNat']
    omega
  rw [show (⟨W.heap.size, 0, none⟩ : Addr).add 0 = ⟨W.heap.size, 0, none⟩ by simp [Addr.add], cell_of_row _ _ _ _ _ _ (heap_alloc_new _ _)]
  simpa using h.symm
set_option maxHeartbeats 1000000 in
set_option maxRecDepth 100000 in
theorem decimals_any (n : Nat) (w : World) (hn : n ≤ 1000000) : Calls Tryz.prog 221 #[.int .i64 n] w (fun e w' => ∃ s, e = .returned (.string s) ∧ Kept [] w w') := by
  have q := digit_conv
  have q1 : ∀ (o : Obj) (y : Int), (convert 253 9 (.slice (some ⟨w.heap.size + 1, 0, none⟩) 1 1)).run Tryz.prog ((w.alloc o).alloc (.cells #[.int .u8 (48 + y % 10)] 5)) = .ok (.string ⟨#[UInt8.ofNat (48 + y % 10).toNat]⟩) ((w.alloc o).alloc (.cells #[.int .u8 (48 + y % 10)] 5)) := fun o y => by
    have := digit_conv (w.alloc o) y
    rwa [heap_alloc_size] at this
  have q2 : ∀ (o1 o2 : Obj) (y : Int), (convert 253 9 (.slice (some ⟨w.heap.size + 2, 0, none⟩) 1 1)).run Tryz.prog (((w.alloc o1).alloc o2).alloc (.cells #[.int .u8 (48 + y % 10)] 5)) = .ok (.string ⟨#[UInt8.ofNat (48 + y % 10).toNat]⟩) (((w.alloc o1).alloc o2).alloc (.cells #[.int .u8 (48 + y % 10)] 5)) := fun o1 o2 y => by
    have := digit_conv ((w.alloc o1).alloc o2) y
    rwa [heap_alloc_size, heap_alloc_size] at this
  have b1 : ∀ x : UInt8, (⟨#[x]⟩ : ByteArray).size = 1 := fun _ => rfl
  have q3 : ∀ (x y : UInt8) (W : World), (Op.stringOp .add ⟨#[x]⟩ ⟨#[y]⟩).run Tryz.prog W = .ok (.string (⟨#[x]⟩ ++ ⟨#[y]⟩)) W := fun x y W => run_string_add_sum W _ _ (by rw [b1, b1]; decide)
  have q4 : ∀ (x y z : UInt8) (W : World), (Op.stringOp .add ⟨#[x]⟩ (⟨#[y]⟩ ++ ⟨#[z]⟩)).run Tryz.prog W = .ok (.string (⟨#[x]⟩ ++ (⟨#[y]⟩ ++ ⟨#[z]⟩))) W := fun x y z W => run_string_add_sum W _ _ (by rw [ByteArray.size_append, b1, b1, b1]; decide)
  have k1 : ∀ o, Kept [] w (w.alloc o) := kept_alloc (Kept.refl [] w)
  go_enter Tryz.func221, Tryz.ntmps221
  by_cases h10 : 10 ≤ n
  · by_cases h100 : 100 ≤ n
    · go_wp2_with fail
      go_ret
      exact ⟨_, rfl, kept_alloc (kept_alloc (k1 _) _) _⟩
    · go_wp2_with fail
      go_ret
      exact ⟨_, rfl, kept_alloc (k1 _) _⟩
  · go_wp2_with fail
    go_ret
    exact ⟨_, rfl, k1 _⟩
theorem decimalsC (n : Nat) (hn : n ≤ 1000000) : ∀ m, Con Tryz.prog 221 [iT n] [] m (dT strA) [] m := Con.raw (enters_of Tryz.func221 (by kernel_rfl) rfl) fun β S w vs hv _ => by
  obtain ⟨vs⟩ := vs
  match vs, hv with
  | [v], h =>
    have e : v = .int .i64 n := h.1
    subst e
    exact (decimals_any n w hn).mono fun e w' ⟨s, h1, h2⟩ => ⟨_, h1, h2, s, rfl⟩
end Go.Proofs.YtddddgbboipfeaaGreatDoor
namespace Go.Proofs.YtddddgbboipfeaaGreatDoor
open Go.Sv
set_option maxRecDepth 10000 in
theorem rkindC (k : Int) : ∀ n, Con Tryz.prog 251 [iT k] [] n (iT (if k = 7 then 6 else k)) [] n := by
  refine fnI Tryz.func251 Tryz.ntmps251 (h := fun S w0 β0 X => ?_)
  by_cases h : k = 7
  · refine GO ?_
    exact finI (he := by rw [if_pos h])
  · refine GO ?_
    exact finI (he := by rw [if_neg h])
set_option maxRecDepth 10000 in
theorem rkeyC (d : Doc) (s : Str) (hl : d.keys.length ≤ 1000000) : ∀ n, Con Tryz.prog 219 [agD (docF d), sT s] [] n (iT (keyIdx d.keys s)) [] n := by
  refine fnI Tryz.func219 Tryz.ntmps219 (h := fun S w0 β0 X => ?_)
  refine GO ?_
  refine W.lp (fun k => k ≤ d.keys.length ∧ ∀ y ∈ d.keys.take k, (y.toList == s.toList) = false) (fun k => [(5, iT k)]) [(1, _), (2, _)] (d.keys.length - ·) 0 (⟨Nat.zero_le _, nofun⟩) (round := fun k hk => ?_)
  by_cases hlt : k < d.keys.length
  · have hx := List.getElem?_eq_getElem hlt
    generalize d.keys[k] = x at hx
    refine GO ?_
    refine W.cond rfl (fun h2 => ?_) (fun h2 => ?_)
    · refine GO ?_
      exact finI (he := by exact (idxOf_at hx (p := fun x : Str => x.toList == s.toList) h2 hk.2).symm)
    · refine GO ?_
      exact W.ag (k + 1) (⟨hlt, take_all_succ (p := fun x : Str => x.toList == s.toList) hx h2 hk.2⟩) (by omega)
  · obtain rfl : k = d.keys.length := by omega
    refine GO ?_
    exact finI (he := by exact (idxOf_none fun y hy => hk.2 y (by rwa [List.take_length])).symm)
set_option maxRecDepth 10000 in
theorem rbothC (t : Typ) (d : Doc) (ht : t.fit) (hd : d.fit) : ∀ n, Con Tryz.prog 177 [agD (typF t), agD (docF d)] [] n (bT (bothRight t d)) [] n := by
  refine fnI Tryz.func177 Tryz.ntmps177 (h := fun S w0 β0 X => ?_)
  refine GO ?_
  refine Ch.c (rrightTC t ht) (r := ?_)
  refine GO ?_
  refine Ch.c (rdocRightC d hd) (r := ?_)
  refine GO ?_
  exact fin1
set_option maxRecDepth 10000 in
theorem rbelowC (m M : Nat) (x : D) (hm : m + 1 ≤ M) (hM : M ≤ 1000000) : ∀ n, Con Tryz.prog 220 [dT (strsU m), dT x] [] n (dT (strsU M)) [] n := by
  refine fnI Tryz.func220 Tryz.ntmps220 (h := fun S w0 β0 X => ?_)
  refine W.opn 0 rfl (fun l hl => ?_)
  refine GO ?_
  refine Ch.apA (hb := by simp; omega) (r := ?_)
  refine GO ?_
  refine Ch.apA (hb := by simp; omega) (r := ?_)
  refine GO ?_
  refine W.frz 2 (h := ?_)
  refine W.less 4 (strsU M) rfl (fun w v hv => ⟨l ++ [x], by rw [List.length_append, List.length_singleton]; omega, by rw [List.map_append]; exact hv⟩) ?_
  exact fin1
set_option maxRecDepth 10000 in
theorem rfitsC (t : Typ) (d : Doc) (ht : t.names.length ≤ 1000000) (hk : 1 ≤ t.kind ∧ t.kind ≤ 7) : ∀ n, Con Tryz.prog 218 [agD (typF t), agD (docF d)] [] n (iT (fitsE t d)) [] n := by
  refine fnI Tryz.func218 Tryz.ntmps218 (h := fun S w0 β0 X => ?_)
  refine GO ?_
  refine Ch.c (rkindC t.kind) (r := ?_)
  refine GO ?_
  by_cases h0 : (if t.kind = 7 then 6 else t.kind) = d.kind
  case neg =>
    refine GO ?_
    exact finI (he := by rw [fitsE, if_pos]; rw [kindsOk]; grind)
  have h0' : kindsOk t d = true := by rw [kindsOk]; grind
  have he : fitsE t d = if t.kind = 2 ∨ t.kind = 3 then withinE d.kids.length t else if t.kind = 4 then withinE d.num t else if t.kind = 6 then withinE d.str.size t else if t.kind = 7 then (if (t.names.any fun s => s.toList == d.str.toList) = true then 0 else 8) else 0 := by rw [fitsE, h0']; rfl
  by_cases k2 : t.kind = 2 ∨ t.kind = 3
  · rw [if_pos k2, withinE] at he
    rcases k2 with k2 | k2 <;> refine GO ?_
    all_goals refine W.cond rfl (fun h => ?_) (fun h => ?_)
    all_goals refine GO ?_
    all_goals exact finI (he := by rw [he]; simp [k2] at h ⊢; omega)
  rw [if_neg k2] at he
  by_cases k4 : t.kind = 4
  · rw [if_pos k4, withinE] at he
    refine GO ?_
    refine W.cond rfl (fun h => ?_) (fun h => ?_)
    all_goals refine GO ?_
    all_goals exact finI (he := by rw [he]; simp [k4] at h ⊢; omega)
  rw [if_neg k4] at he
  by_cases k6 : t.kind = 6
  · rw [if_pos k6, withinE] at he
    refine GO ?_
    refine W.cond rfl (fun h => ?_) (fun h => ?_)
    all_goals refine GO ?_
    all_goals exact finI (he := by rw [he]; simp [k6] at h ⊢; omega)
  rw [if_neg k6] at he
  by_cases k7 : t.kind = 7
  · rw [if_pos k7] at he
    refine GO ?_
    refine W.lp (fun k => k ≤ t.names.length ∧ ∀ y ∈ t.names.take k, (y.toList == d.str.toList) = false) (fun k => [(6, iT k)]) [(2, _), (3, _)] (t.names.length - ·) 0 (⟨Nat.zero_le _, nofun⟩) (round := fun k hk => ?_)
    by_cases hlt : k < t.names.length
    · have hx := List.getElem?_eq_getElem hlt
      generalize t.names[k] = x at hx
      refine GO ?_
      refine W.cond rfl (fun h2 => ?_) (fun h2 => ?_)
      · refine GO ?_
        exact finI (he := by rw [he, if_pos]; exact List.any_eq_true.2 ⟨x, List.mem_of_getElem? hx, h2⟩)
      · refine GO ?_
        exact W.ag (k + 1) (⟨hlt, take_all_succ (p := fun x : Str => x.toList == d.str.toList) hx h2 hk.2⟩) (by omega)
    · obtain rfl : k = t.names.length := by omega
      refine GO ?_
      exact finI (he := by rw [he, if_neg]; intro h; obtain ⟨y, hy, h⟩ := List.any_eq_true.1 h; rw [hk.2 y (by rwa [List.take_length])] at h; cases h)
  rw [if_neg k7] at he
  refine GO ?_
  refine W.cond rfl (fun h => ?_) (fun h => ?_)
  · exfalso; simp at h; omega
  · refine GO ?_
    exact finI (he := by rw [he])
end Go.Proofs.YtddddgbboipfeaaGreatDoor
