/- Part 31 of what TransFills asks: for every input it returns true, and its input reads as it did. No condition. -/
import Derived.Test.YtddddgbboipfeaaGreatDoorPt15
import Derived.Test.YtddddgbboipfeaaGreatDoorPt30
namespace Go.Proofs.YtddddgbboipfeaaGreatDoor
open Go.Sv
abbrev fltD (e : Int) : List D := [strsU 1000, i64 e]
abbrev fltsD (l : List Int) : D := sl 2 (l.map fltD)
theorem strsU_any {m : Nat} (h : m ≤ 1000) (w : World) (v : Value) : (strsU m).is w v → (strsU 1000).is w v := strsU_up h
/-- Right, and not too great. -/
structure Rt (d : Doc) : Prop where
  part : d.part = true
  size : d.size ≤ 512
theorem Rt.kid {d x : Doc} (h : Rt d) (hx : x ∈ d.kids) : Rt x := by
  have h1 := h.part
  rw [d.part_kids] at h1
  simp only [Bool.and_eq_true, List.all_eq_true] at h1
  exact ⟨h1.2 x hx, by have := mem_size hx; have := h.size; omega⟩
theorem Rt.keys {d : Doc} (h : Rt d) : d.keys.length ≤ d.kids.length ∧ d.kids.length ≤ 512 := by
  have h1 := h.part
  rw [d.part_kids, plain_bad] at h1
  have h3 : bad4 d = false := by grind
  have h2 := Doc.sizes_len d.kids
  have h4 := d.size_kids
  have h5 := h.size
  rw [bad4] at h3
  simp only [Bool.or_eq_false_iff, Bool.and_eq_false_iff, decide_eq_false_iff_not] at h3
  omega
theorem errs_len2 : ∀ (n : Nat) (t : Typ) (d : Doc), Rt d → (errs n t d).length ≤ t.size * (d.size * 514)
  | 0, _, _, _ => by simp [errs]
  | n + 1, t, d, hf => by
    have hts := Typ.size_parts t
    have hds := d.size_kids
    have hk := hf.keys
    have h1 : (if fitsE t d = 0 then ([] : List Int) else [fitsE t d]).length ≤ 1 := by split <;> simp
    have h2 : (if fitsE t d = 7 then ([] : List Int) else errsIn (errs n) t d).length ≤ (Typ.sizeFs t.fields + Typ.sizes t.of) * (d.size * 514) + 512 := by
      split
      · simp
      · unfold errsIn
        rw [Nat.add_mul]
        split
        · have h3 := flatMap_len (l := t.fields) (f := errsF (errs n) d) (g := fun f => f.typ.size * (d.size * 514)) fun f _ => by
            unfold errsF
            split
            · split
              · rename_i x hx
                have hm := List.mem_of_getElem? hx
                have h5 := Doc.size_le_sizes hm
                exact Nat.le_trans (errs_len2 n _ _ (hf.kid hm)) (Nat.mul_le_mul_left _ (Nat.mul_le_mul_right _ (by omega)))
              · simp
            · have := Typ.size_pos f.typ
              have h5 : 1 * 1 ≤ f.typ.size * (d.size * 514) := Nat.mul_le_mul this (by omega)
              split
              · simp
              · simp only [List.length_cons, List.length_nil]; omega
          have h4 := keys_flat d.keys t
          have h5 : (t.fields.map fun f => f.typ.size * (d.size * 514)).sum = Typ.sizeFs t.fields * (d.size * 514) := by rw [← sizeFs_sum, ← sum_mul, List.map_map]; rfl
          rw [List.length_append]
          omega
        · split
          · cases ho : t.of with
            | nil =>
              have : d.kids.flatMap (errsO (errs n) t) = [] := by
                rw [List.flatMap_eq_nil_iff]
                intro x _
                simp [errsO, ho]
              rw [this]; simp
            | cons o os =>
              have h3 := flatMap_len (l := d.kids) (f := errsO (errs n) t) (g := fun x => (o.size * 514) * x.size) fun x hx => by
                have h4 := errs_len2 n o x (hf.kid hx)
                rw [Nat.mul_comm x.size, ← Nat.mul_assoc] at h4
                simpa only [errsO, ho] using h4
              have h5 : (d.kids.map fun x => (o.size * 514) * x.size).sum = (o.size * 514) * Doc.sizes d.kids := by rw [← dsizes_sum, ← mul_sum, List.map_map]; rfl
              have h6 : (o.size * 514) * Doc.sizes d.kids ≤ Typ.sizes (o :: os) * (d.size * 514) := by
                rw [Nat.mul_assoc, Nat.mul_comm 514]
                exact Nat.mul_le_mul (by simp only [Typ.sizes]; omega) (Nat.mul_le_mul_right _ (by omega))
              omega
          · simp
    simp only [errs, List.length_append]
    rw [hts, Nat.add_mul, Nat.one_mul]
    omega
/-- Right, and not too deep. -/
structure RtT (n : Nat) (t : Typ) : Prop where
  right : t.right = true
  depth : t.depth ≤ n
theorem RtT.fld {n : Nat} {t : Typ} {f : Fld} (h : RtT (n + 1) t) (hf : f ∈ t.fields) : RtT n f.typ := ⟨(or_parts (.inl h.1)).1 f hf, by have := fld_depth hf; have := h.2; omega⟩
theorem RtT.kid {n : Nat} {t x : Typ} (h : RtT (n + 1) t) (hf : x ∈ t.of) : RtT n x := ⟨(or_parts (.inl h.1)).2 x hf, by have := of_depth hf; have := h.2; omega⟩
theorem RtT.facts {n : Nat} {t : Typ} (h : RtT n t) : t.size ≤ 128 ∧ t.part = true := by
  have := h.1
  simp only [Typ.right, Bool.and_eq_true, decide_eq_true_eq] at this
  exact ⟨this.1.1, this.2⟩
theorem errs_len3 {n : Nat} {t : Typ} {d : Doc} (ht : t.size ≤ 128) (hd : Rt d) : (errs n t d).length ≤ 40000000 := by
  have h1 := errs_len2 n t d hd
  have h2 : t.size * (d.size * 514) ≤ 128 * (512 * 514) := Nat.mul_le_mul ht (Nat.mul_le_mul_right _ hd.size)
  omega
theorem flat_le {α β : Type} (l : List α) (f : α → List β) (k : Nat) : ((l.take k).flatMap f).length ≤ (l.flatMap f).length := flat_take_le l f k
theorem Rt.keys2 {d : Doc} (h : Rt d) (hk : d.kind ≤ 2) : d.keys.length = d.kids.length := by
  have h1 := h.part
  rw [d.part_kids, plain_bad] at h1
  have h3 : bad4 d = false := by grind
  rw [bad4] at h3
  simp only [Bool.or_eq_false_iff, Bool.and_eq_false_iff, decide_eq_false_iff_not] at h3
  omega
set_option maxRecDepth 10000 in
set_option maxHeartbeats 4000000 in
theorem rallC (q : Nat) (t : Typ) (d : Doc) (m : Nat) (ht : RtT q t) (hd : Rt d) (hm : m + q ≤ 1000) : ∀ n, Con Tryz.prog 178 [agD (typF t), agD (docF d), dT (strsU m)] [] n (dT (fltsD (errs q t d))) [] n := by
  obtain ⟨hs, hp⟩ := ht.facts
  have hn := (Typ.right_fit ht.1).names
  have hnf := (Typ.right_fit ht.1).fields
  have hkl := hd.keys
  have hpk := part_kind hp
  have hlen := errs_len3 (n := q) hs hd
  refine fnI Tryz.func178 Tryz.ntmps178 (h := fun S w0 β0 X => ?_)
  cases q with
  | zero => exact absurd ht.2 (by rw [t.depth_parts]; omega)
  | succ q =>
  have s3 : Stop 3 := ⟨⟩
  refine GO ?_
  refine Ch.c (rfitsC t d hn hpk) (r := ?_)
  refine GO ?_
  clear s3
  refine W.nilT 7 151 2 (h := ?_)
  refine GO ?_
  refine W.mid (3) [(7, .one (.key 2))] [(2, _), (3, _), (4, _), (8, _)] [(2, .row 151 2 ((if fitsE t d = 0 then [] else [fitsE t d]).map fltD))] [(0, _), (1, _)] (h1 := ?_) (h2 := ?_)
  · by_cases h0 : fitsE t d = 0
    · rw [if_pos h0]
      refine GO ?_
      exact W.meet
    · rw [if_neg h0]
      have s4 : Stop 4 := ⟨⟩
      refine GO ?_
      refine W.reg (by rfl) ?_
      refine Ch.p OpT.move ⟨rfl, trivial⟩ ?_
      refine Ch.p (OpT.moveW (strsU_any (by omega))) ⟨rfl, trivial⟩ ?_
      clear s4
      refine GO ?_
      refine Ch.p (OpT.slice1' (hs := asAg (l := fltD (fitsE t d)) rfl)) ⟨rfl, trivial⟩ ?_
      refine GO ?_
      refine W.swap 2 3 (h := ?_)
      exact W.meet
  by_cases h7 : fitsE t d = 7
  · refine GO ?_
    refine W.frz 2 (h := ?_)
    exact fin1 (he := by rw [errs_seven h7, h7]; rfl)
  have hsp := errs_split q hp h7
  have hk2 : t.kind ≤ 3 → t.kind = d.kind := fits_kind h7
  generalize (if fitsE t d = 0 then [] else [fitsE t d]) = E0 at hsp ⊢
  rw [hsp, List.length_append, List.length_append, List.length_append] at hlen
  rw [hsp]
  clear hsp
  refine GO ?_
  have hl1 := flat_le t.fields (errsF (errs q) d)
  rw [show E0.map fltD = (E0 ++ (t.fields.take 0).flatMap (errsF (errs q) d)).map fltD by simp]
  refine W.lpG ((· ≤ t.fields.length)) (fun k => [(9, iT k)]) [(2, _), (3, _), (4, _), (7, _)] (fun k => [(2, .row 151 2 ((E0 ++ (t.fields.take k).flatMap (errsF (errs q) d)).map fltD))]) [(0, _), (1, _)] (t.fields.length - ·) 0 (Nat.zero_le _) (round := fun k hk => ?_)
  have hl2 : (E0 ++ (t.fields.take k).flatMap (errsF (errs q) d)).length ≤ 40000000 := by have := hl1 k; rw [List.length_append]; omega
  by_cases hlt : k < t.fields.length
  · have hx := List.getElem?_eq_getElem hlt
    generalize t.fields[k] = x at hx
    have hmm := List.mem_of_getElem? hx
    have hft := flat_take (f := errsF (errs q) d) hx
    refine GO ?_
    refine Ch.c (rkeyC d x.name (by omega)) (r := ?_)
    refine GO ?_
    rcases keyIdx_cases d.keys x.name with hi | ⟨j, hj, hi⟩
    · rw [errsF_miss hi] at hft
      rw [hi]
      refine GO ?_
      refine W.cond rfl (fun ho => ?_) (fun ho => ?_)
      · have ho : x.opt = false := by simpa using ho
        rw [ho, if_neg Bool.false_ne_true] at hft
        refine GO ?_
        refine Ch.c (rbelowC m 1000 (str x.name) (by omega) (by omega)) (r := ?_)
        refine GO ?_
        refine Ch.p (OpT.slice1' (hs := asAg (l := fltD 9) rfl)) ⟨rfl, trivial⟩ ?_
        refine GO ?_
        rw [show (E0 ++ (t.fields.take k).flatMap (errsF (errs q) d)).map fltD ++ [fltD 9] = (E0 ++ (t.fields.take (k + 1)).flatMap (errsF (errs q) d)).map fltD by rw [hft]; simp]
        refine W.swap 2 4 (h := ?_)
        exact W.ag (k + 1) (hlt) (by omega)
      · have ho : x.opt = true := by simpa using ho
        rw [ho, if_pos rfl, List.append_nil] at hft
        refine GO ?_
        rw [← hft]
        exact W.ag (k + 1) (hlt) (by omega)
    · have hy := List.getElem?_eq_getElem (show j < d.kids.length by omega)
      generalize d.kids[j]'(by omega) = y at hy
      have hym := List.mem_of_getElem? hy
      rw [errsF_at hi hy] at hft
      have hle := errs_len3 (n := q) (ht.fld hmm).facts.1 (hd.kid hym)
      rw [hi]
      refine GO ?_
      refine Ch.c (rbelowC m (m + 1) (str x.name) (by omega) (by omega)) (r := ?_)
      refine GO ?_
      refine Ch.c (rallC q x.typ y (m + 1) (ht.fld hmm) (hd.kid hym) (by omega)) (r := ?_)
      refine GO ?_
      refine Ch.apA (hb := by simp only [List.length_map]; omega) (r := ?_)
      refine GO ?_
      rw [show (E0 ++ (t.fields.take k).flatMap (errsF (errs q) d)).map fltD ++ (errs q x.typ y).map fltD = (E0 ++ (t.fields.take (k + 1)).flatMap (errsF (errs q) d)).map fltD by rw [hft]; simp]
      refine W.swap 2 4 (h := ?_)
      exact W.ag (k + 1) (hlt) (by omega)
  obtain rfl : k = t.fields.length := by omega
  rw [List.take_length] at hl2 ⊢
  clear hl1
  have hK : ∀ k, ((d.keys.take k).flatMap (errsK t)).length ≤ 512 := fun k => by have := keys_flat (d.keys.take k) t; rw [List.length_take] at this; omega
  rw [List.append_assoc, List.append_assoc, ← List.append_assoc]
  rw [← List.length_append] at hlen
  generalize E0 ++ t.fields.flatMap (errsF (errs q) d) = E1 at *
  refine GO ?_
  rw [show E1.map fltD = (E1 ++ (d.keys.take 0).flatMap (errsK t)).map fltD by simp]
  refine W.lpG (fun k => k ≤ d.keys.length ∧ (t.kind ≠ 1 → k = 0)) (fun k => [(12, iT k)]) [(2, _), (3, _), (4, _), (7, _)] (fun k => [(2, .row 151 2 ((E1 ++ (d.keys.take k).flatMap (errsK t)).map fltD))]) [(0, _), (1, _)] (d.keys.length - ·) 0 (⟨Nat.zero_le _, fun _ => rfl⟩) (round := fun k hk => ?_)
  have hl3 : (E1 ++ (d.keys.take k).flatMap (errsK t)).length ≤ 50000000 := by have := hK k; rw [List.length_append]; omega
  by_cases hlt : k < d.keys.length ∧ t.kind = 1
  · have hx := List.getElem?_eq_getElem hlt.1
    generalize d.keys[k]'(hlt.1) = x at hx
    have hft := flat_take (f := errsK t) hx
    have hc : (decide ((k : Int) < d.keys.length) && decide (t.kind = 1)) = true := by simp [hlt.2]; omega
    refine GO ?_
    refine Ch.c (rfieldC t x hnf) (r := ?_)
    by_cases hi : fieldIdx t x < 0
    · rw [errsK, if_pos hi] at hft
      refine GO ?_
      refine Ch.c (rbelowC m 1000 (str x) (by omega) (by omega)) (r := ?_)
      refine GO ?_
      refine Ch.p (OpT.slice1' (hs := asAg (l := fltD 10) rfl)) ⟨rfl, trivial⟩ ?_
      refine GO ?_
      rw [show (E1 ++ (d.keys.take k).flatMap (errsK t)).map fltD ++ [fltD 10] = (E1 ++ (d.keys.take (k + 1)).flatMap (errsK t)).map fltD by rw [hft]; simp]
      refine W.swap 2 3 (h := ?_)
      exact W.ag (k + 1) (⟨hlt.1, fun h => absurd hlt.2 h⟩) (by omega)
    · rw [errsK, if_neg hi, List.append_nil] at hft
      refine GO ?_
      rw [← hft]
      exact W.ag (k + 1) (⟨hlt.1, fun h => absurd hlt.2 h⟩) (by omega)
  have he : (d.keys.take k).flatMap (errsK t) = if t.kind = 1 then d.keys.flatMap (errsK t) else [] := by
    by_cases k1 : t.kind = 1
    · rw [if_pos k1, List.take_of_length_le (by omega)]
    · rw [if_neg k1, hk.2 k1]; simp
  have hc : (decide ((k : Int) < d.keys.length) && decide (t.kind = 1)) = false := by
    by_cases k1 : t.kind = 1
    · rw [decide_eq_false (by omega)]; rfl
    · rw [decide_eq_false k1, Bool.and_false]
  refine GO ?_
  rw [he] at hl3 ⊢
  clear hc hlt he hk hK hl2 hnf
  rw [← List.append_assoc]
  generalize E1 ++ (if t.kind = 1 then d.keys.flatMap (errsK t) else []) = E2 at *
  have hO : ∀ k, (t.kind = 2 ∨ t.kind = 3) → ((d.kids.take k).flatMap (errsO (errs q) t)).length ≤ 40000000 := fun k h => by
    rw [if_pos h] at hlen
    have := flat_le d.kids (errsO (errs q) t) k
    omega
  rw [show E2.map fltD = (E2 ++ (d.kids.take 0).flatMap (errsO (errs q) t)).map fltD by simp]
  refine W.lpG (fun k => k ≤ d.kids.length ∧ (¬ (t.kind = 2 ∨ t.kind = 3) → k = 0)) (fun k => [(13, iT k)]) [(2, _), (3, _), (4, _), (7, _)] (fun k => [(2, .row 151 2 ((E2 ++ (d.kids.take k).flatMap (errsO (errs q) t)).map fltD))]) [(0, _), (1, _)] (d.kids.length - ·) 0 (⟨Nat.zero_le _, fun _ => rfl⟩) (round := fun k hk => ?_)
  by_cases hlt : k < d.kids.length ∧ (t.kind = 2 ∨ t.kind = 3)
  · have hl4 : (E2 ++ (d.kids.take k).flatMap (errsO (errs q) t)).length ≤ 90000000 := by have := hO k hlt.2; rw [List.length_append]; omega
    have hx := List.getElem?_eq_getElem hlt.1
    generalize d.kids[k]'(hlt.1) = x at hx
    have hxm := List.mem_of_getElem? hx
    have hft := flat_take (f := errsO (errs q) t) hx
    obtain ⟨o, ho, _⟩ := part_of hp hlt.2
    have hom : o ∈ t.of := by rw [ho]; exact List.mem_singleton.2 rfl
    have ho0 : t.of[0]? = some o := by rw [ho]; rfl
    rw [errsO, ho] at hft
    have hle := errs_len3 (n := q) (ht.kid hom).facts.1 (hd.kid hxm)
    have hc : (decide ((k : Int) < d.kids.length) && (decide (t.kind = 2) || decide (t.kind = 3))) = true := by
      rw [decide_eq_true (by omega), Bool.true_and]; simpa using hlt.2
    refine GO ?_
    refine Ch.c (decimalsC k (by omega)) (r := ?_)
    refine GO ?_
    refine W.mid (3) [(14, dT strA)] [(2, _), (3, _), (4, _), (7, _), (13, _)] [] [(0, _), (1, _), (2, _)] (h1 := ?_) (h2 := ?_)
    · by_cases k2 : t.kind = 2
      · have hkk := hd.keys2 (by have := hk2 (by omega); omega)
        have hy := List.getElem?_eq_getElem (show k < d.keys.length by omega)
        generalize d.keys[k]'(by omega) = s at hy
        refine GO ?_
        refine W.less 14 strA rfl (fun w v hv => ⟨_, hv⟩) ?_
        exact W.meet
      · refine GO ?_
        exact W.meet
    refine GO ?_
    refine Ch.c (rbelowC m (m + 1) strA (by omega) (by omega)) (r := ?_)
    refine GO ?_
    refine Ch.c (rallC q o x (m + 1) (ht.kid hom) (hd.kid hxm) (by omega)) (r := ?_)
    refine GO ?_
    refine Ch.apA (hb := by simp only [List.length_map]; omega) (r := ?_)
    refine GO ?_
    rw [show (E2 ++ (d.kids.take k).flatMap (errsO (errs q) t)).map fltD ++ (errs q o x).map fltD = (E2 ++ (d.kids.take (k + 1)).flatMap (errsO (errs q) t)).map fltD by rw [hft]; simp]
    refine W.swap 2 3 (h := ?_)
    exact W.ag (k + 1) (⟨hlt.1, fun h => absurd hlt.2 h⟩) (by omega)
  have he : (d.kids.take k).flatMap (errsO (errs q) t) = if t.kind = 2 ∨ t.kind = 3 then d.kids.flatMap (errsO (errs q) t) else [] := by
    by_cases k1 : t.kind = 2 ∨ t.kind = 3
    · rw [if_pos k1, List.take_of_length_le (by omega)]
    · rw [if_neg k1, hk.2 k1]; simp
  have hc : (decide ((k : Int) < d.kids.length) && (decide (t.kind = 2) || decide (t.kind = 3))) = false := by
    by_cases k1 : t.kind = 2 ∨ t.kind = 3
    · rw [decide_eq_false (by omega)]; rfl
    · rw [show (decide (t.kind = 2) || decide (t.kind = 3)) = false by simpa using k1, Bool.and_false]
  refine GO ?_
  rw [he]
  refine W.frz 2 (h := ?_)
  exact fin1 (he := by rfl)
set_option maxRecDepth 10000 in
theorem rallTC (t : Typ) (d : Doc) (ht : t.fit) (hd : d.fit) : ∀ n, Con Tryz.prog 137 [agD (typF t), agD (docF d)] [] n (dT (fltsD (allE t d))) [] n := by
  refine fnI Tryz.func137 Tryz.ntmps137 (h := fun S w0 β0 X => ?_)
  refine GO ?_
  refine Ch.c (rbothC t d ht hd) (r := ?_)
  refine GO ?_
  cases hb : bothRight t d
  · refine GO ?_
    refine Ch.p (OpT.slice1' (hs := asAg (l := [lit (.slice none 0 0), i64 1]) rfl)) ⟨rfl, trivial⟩ ?_
    refine GO ?_
    refine W.less 4 (fltsD [1]) rfl (sl_less1 rfl fun w us h => ?_) ?_
    · match us, h with
      | [a, b], h => exact ⟨strsU_up (Nat.zero_le _) (nil_strsU w a h.1), h.2⟩
    exact fin1 (he := by rw [allE, hb]; rfl)
  · have h1 := right_parts hb
    simp only [bothRight, Bool.and_eq_true] at hb
    refine GO ?_
    refine Ch.c (fun n => (rallC 12 t d 0 ⟨hb.1, h1.2.1⟩ ⟨h1.2.2.2.2, h1.2.2.2.1⟩ (by omega) n).arg (.same (.same (.less nil_strsU .nil)))) (r := ?_)
    refine GO ?_
    exact fin1 (he := by rw [allE, if_pos (by simp [bothRight, hb])]; rfl)
set_option maxRecDepth 10000 in
theorem risC (t : Typ) (d : Doc) (ht : t.fit) (hd : d.fit) : ∀ n, Con Tryz.prog 96 [agD (typF t), agD (docF d)] [] n (bT (isOf t d)) [] n := by
  refine fnI Tryz.func96 Tryz.ntmps96 (h := fun S w0 β0 X => ?_)
  refine GO ?_
  refine Ch.c (rallTC t d ht hd) (r := ?_)
  refine GO ?_
  exact finB (he := by rw [isOf_all]; cases allE t d <;> simp; omega)
end Go.Proofs.YtddddgbboipfeaaGreatDoor
namespace Go.Proofs.YtddddgbboipfeaaGreatDoor
open Go.Sv
abbrev belD : D := adr [cloD 231 []]
abbrev chAt : C := .clo 235 [.key 2, .key 4, .key 3, .one belD]
abbrev chFd : C := .clo 232 [.key 3, .one belD, .key 2]
abbrev fltR (l : List Int) : Own := .row 151 2 (l.map fltD)
/-- What the closures of check share: what is told; who tells; at; fields. -/
abbrev chH (r : Nat) (l : List Int) : HL := [(0, .box 162 [.key r]), (r, fltR l), (2, .box 215 [.clo 197 [.key 0]]), (3, .box 247 [chAt]), (4, .box 247 [chFd])]
set_option maxRecDepth 10000 in
theorem fitsC (t : Typ) (d : Doc) : ∀ n, Con Tryz.prog 236 [agD (typF t), agD (docF d)] [] n (iT (fitsE t d)) [] n := by
  refine fnI Tryz.func236 Tryz.ntmps236 (h := fun S w0 β0 X => ?_)
  refine GO ?_
  refine Ch.c (kindsC t d) (r := ?_)
  refine GO ?_
  cases h0 : kindsOk t d
  · refine GO ?_
    exact finI (he := by rw [fitsE, if_pos h0])
  have he : fitsE t d = if t.kind = 2 ∨ t.kind = 3 then withinE d.kids.length t else if t.kind = 4 then withinE d.num t else if t.kind = 6 then withinE d.str.size t else if t.kind = 7 then (if (t.names.any fun s => s.toList == d.str.toList) = true then 0 else 8) else 0 := by rw [fitsE, h0]; rfl
  by_cases k2 : t.kind = 2 ∨ t.kind = 3
  · rw [if_pos k2] at he
    rcases k2 with k2 | k2 <;> refine GO ?_
    all_goals refine Ch.c (withinC d.kids.length t) (r := ?_)
    all_goals refine GO ?_
    all_goals exact finI (he := by rw [he])
  rw [if_neg k2] at he
  by_cases k4 : t.kind = 4
  · rw [if_pos k4] at he
    refine GO ?_
    refine Ch.c (withinC d.num t) (r := ?_)
    refine GO ?_
    exact finI (he := by rw [he])
  rw [if_neg k4] at he
  by_cases k6 : t.kind = 6
  · rw [if_pos k6] at he
    refine GO ?_
    refine Ch.c (withinC d.str.size t) (r := ?_)
    refine GO ?_
    exact finI (he := by rw [he])
  rw [if_neg k6] at he
  by_cases k7 : t.kind = 7
  · rw [if_pos k7, show (fun s : Str => s.toList == d.str.toList) = fun s => d.str.toList == s.toList from funext fun s => Bool.beq_comm] at he
    refine GO ?_
    refine Ch.c (containsStrC t.names d.str) (r := ?_)
    refine GO ?_
    refine W.cond rfl (fun h => ?_) (fun h => ?_)
    · refine GO ?_
      exact finI (he := by rw [he, if_neg]; intro h2; rw [h2] at h; cases h)
    · refine GO ?_
      exact finI (he := by rw [he, if_pos]; simpa using h)
  rw [if_neg k7] at he
  refine GO ?_
  exact finI (he := by rw [he])
set_option maxRecDepth 10000 in
theorem belC (m M : Nat) (x : D) (hm : m + 1 ≤ M) (hM : M ≤ 1000000) : ∀ n, Con Tryz.prog 231 [dT (strsU m), dT x] [] n (dT (strsU M)) [] n := by
  refine fnI Tryz.func231 Tryz.ntmps231 (h := fun S w0 β0 X => ?_)
  refine W.opn 0 rfl (fun l hl => ?_)
  refine GO ?_
  refine Ch.ch [] (cloneStrC (l.map fun x => [x]) (by rw [List.length_map]; omega)) (r := ?_)
  refine GO ?_
  refine W.frz 1 (h := ?_)
  refine W.less 4 (strsU M) rfl (fun w v hv => ⟨l ++ [x], by rw [List.length_append, List.length_singleton]; omega, by rw [List.map_append]; exact hv⟩) ?_
  exact fin1
set_option maxRecDepth 10000 in
theorem tellC (l : List Int) (e : Int) (hl : l.length ≤ 300000000) : Con Tryz.prog 197 [dT (strsU 1000), iT e, .one (.key 0)] [(0, .box 162 [.key 1]), (1, .row 151 2 (l.map fltD))] 2 (.tup []) [(0, .box 162 [.key 2]), (2, .row 151 2 ((l ++ [e]).map fltD))] 3 := by
  refine fnH Tryz.func197 Tryz.ntmps197 (h := fun S w0 β0 X => ?_)
  refine GO ?_
  refine Ch.p (OpT.slice1' (hs := asAg (l := fltD e) rfl)) ⟨rfl, trivial⟩ ?_
  refine GO ?_
  rw [show l.map fltD ++ [fltD e] = (l ++ [e]).map fltD by rw [List.map_append]; rfl]
  exact finH0n
end Go.Proofs.YtddddgbboipfeaaGreatDoor
namespace Go.Proofs.YtddddgbboipfeaaGreatDoor
open Go.Sv
abbrev AtC (q : Nat) (t : Typ) (d : Doc) (m : Nat) (l : List Int) : Prop := Con Tryz.prog 235 ([agD (typF t), agD (docF d), dT (strsU m)] ++ [.key 2, .key 4, .key 3, .one belD].map capU) (chH 1 l) 5 (.tup []) (chH 5 (l ++ errs q t d)) 6
theorem keyIdx_sym (l : List Str) (s : Str) : idxOf (fun x : Str => s.toList == x.toList) l = keyIdx l s := by
  unfold keyIdx
  congr 1
  funext x
  exact Bool.beq_comm
set_option maxRecDepth 10000 in
set_option maxHeartbeats 4000000 in
theorem chFieldsC (q : Nat) (t : Typ) (d : Doc) (m : Nat) (l : List Int) (hr : ∀ f ∈ t.fields, RtT q f.typ) (hf : t.fields.length ≤ 1000000) (hd : Rt d) (hm : m + q + 1 ≤ 1000) (hl : l.length + (t.fields.flatMap (errsF (errs q) d)).length + 512 ≤ 300000000) (ih : ∀ t d m l, RtT q t → Rt d → m + q ≤ 1000 → l.length + (errs q t d).length + 512 ≤ 300000000 → AtC q t d m l) : Con Tryz.prog 232 [agD (typF t), agD (docF d), dT (strsU m), .one (.key 3), dT belD, .one (.key 2)] (chH 1 l) 5 (.tup []) (chH 5 (l ++ (t.fields.flatMap (errsF (errs q) d) ++ d.keys.flatMap (errsK t)))) 6 := by
  have hkl := hd.keys
  refine fnH Tryz.func232 Tryz.ntmps232 (h := fun S w0 β0 X => ?_)
  refine W.dup 1 (h := ?_)
  refine GO ?_
  have hl1 := flat_le t.fields (errsF (errs q) d)
  refine W.lpG ((· ≤ t.fields.length)) (fun k => [(17, iT k)]) [(2, _), (3, _), (4, _), (5, _), (6, _), (7, _), (15, _), (16, _)] (fun k => [(5, fltR (l ++ (t.fields.take k).flatMap (errsF (errs q) d)))]) [(0, _), (2, _), (3, _), (4, _), (6, _), (7, _)] (t.fields.length - ·) 0 (Nat.zero_le _) (hH := by simp only [List.take_zero, List.flatMap_nil, List.append_nil]; (repeat (first | exact SubH.nil | refine SubH.cons rfl ?_))) (round := fun k hk => ?_)
  have hl2 : (l ++ (t.fields.take k).flatMap (errsF (errs q) d)).length + 512 ≤ 300000000 := by have := hl1 k; rw [List.length_append]; omega
  by_cases hlt : k < t.fields.length
  · have hx := List.getElem?_eq_getElem hlt
    generalize t.fields[k] = x at hx
    have hmm := List.mem_of_getElem? hx
    have hft := flat_take (f := errsF (errs q) d) hx
    refine GO ?_
    refine Ch.c (indexStrC d.keys x.name) (r := ?_)
    refine GO ?_
    rw [keyIdx_sym]
    rcases keyIdx_cases d.keys x.name with hi | ⟨j, hj, hi⟩
    · rw [errsF_miss hi] at hft
      rw [hi]
      refine GO ?_
      refine W.cond rfl (fun ho => ?_) (fun ho => ?_)
      · have ho : x.opt = false := by simpa using ho
        rw [ho, if_neg Bool.false_ne_true] at hft
        refine GO ?_
        refine Ch.dy (ts := [_, _]) (cs := []) (belC m 1000 (str x.name) (by omega) (by omega)) (r := ?_)
        refine GO ?_
        refine Ch.dyn [0, 5] (ts := [_, _]) (cs := [.key 0]) (tellC (l ++ (t.fields.take k).flatMap (errsF (errs q) d)) 9 (by omega)) (r := ?_)
        refine GO ?_
        rw [show (l ++ (t.fields.take k).flatMap (errsF (errs q) d)) ++ [9] = l ++ (t.fields.take (k + 1)).flatMap (errsF (errs q) d) by rw [hft]; simp]
        refine W.swap 5 9 (h := ?_)
        exact W.ag (k + 1) (hlt) (by omega)
      · have ho : x.opt = true := by simpa using ho
        rw [ho, if_pos rfl, List.append_nil] at hft
        refine GO ?_
        rw [← hft]
        exact W.ag (k + 1) (hlt) (by omega)
    · have hy := List.getElem?_eq_getElem (show j < d.kids.length by omega)
      generalize d.kids[j]'(by omega) = y at hy
      have hym := List.mem_of_getElem? hy
      rw [errsF_at hi hy] at hft
      have hl3 : (l ++ (t.fields.take k).flatMap (errsF (errs q) d)).length + (errs q x.typ y).length + 512 ≤ 300000000 := by have := hl1 (k + 1); rw [hft] at this; rw [List.length_append] at this ⊢; omega
      rw [hi]
      refine GO ?_
      refine Ch.dy (ts := [_, _]) (cs := []) (belC m (m + 1) (str x.name) (by omega) (by omega)) (r := ?_)
      refine Ch.dyn [0, 5, 2, 3, 4] (ih x.typ y (m + 1) (l ++ (t.fields.take k).flatMap (errsF (errs q) d)) (hr x hmm) (hd.kid hym) (by omega) hl3) (r := ?_)
      refine GO ?_
      rw [show (l ++ (t.fields.take k).flatMap (errsF (errs q) d)) ++ errs q x.typ y = l ++ (t.fields.take (k + 1)).flatMap (errsF (errs q) d) by rw [hft]; simp]
      refine W.swap 5 9 (h := ?_)
      exact W.ag (k + 1) (hlt) (by omega)
  obtain rfl : k = t.fields.length := by omega
  rw [List.take_length] at hl2 ⊢
  clear hl1
  have hK : ∀ k, ((d.keys.take k).flatMap (errsK t)).length ≤ 512 := fun k => by have := keys_flat (d.keys.take k) t; rw [List.length_take] at this; omega
  rw [← List.append_assoc]
  generalize l ++ t.fields.flatMap (errsF (errs q) d) = E1 at *
  refine GO ?_
  refine W.lpG ((· ≤ d.keys.length)) (fun k => [(58, iT k)]) [(2, _), (4, _), (5, _), (6, _), (56, _), (57, _)] (fun k => [(5, fltR (E1 ++ (d.keys.take k).flatMap (errsK t)))]) [(0, _), (2, _), (3, _), (4, _), (6, _)] (d.keys.length - ·) 0 (Nat.zero_le _) (hH := by simp only [List.take_zero, List.flatMap_nil, List.append_nil]; (repeat (first | exact SubH.nil | refine SubH.cons rfl ?_))) (round := fun k hk => ?_)
  have hl3 : (E1 ++ (d.keys.take k).flatMap (errsK t)).length ≤ 300000000 := by have := hK k; rw [List.length_append]; omega
  by_cases hlt : k < d.keys.length
  · have hx := List.getElem?_eq_getElem hlt
    generalize d.keys[k] = x at hx
    have hft := flat_take (f := errsK t) hx
    refine GO ?_
    refine Ch.c (fieldC t x) (r := ?_)
    refine GO ?_
    by_cases hi : fieldIdx t x < 0
    · rw [errsK, if_pos hi] at hft
      refine GO ?_
      refine Ch.dy (ts := [_, _]) (cs := []) (belC m 1000 (str x) (by omega) (by omega)) (r := ?_)
      refine GO ?_
      refine Ch.dyn [0, 5] (ts := [_, _]) (cs := [.key 0]) (tellC (E1 ++ (d.keys.take k).flatMap (errsK t)) 10 (by omega)) (r := ?_)
      refine GO ?_
      rw [show (E1 ++ (d.keys.take k).flatMap (errsK t)) ++ [10] = E1 ++ (d.keys.take (k + 1)).flatMap (errsK t) by rw [hft]; simp]
      refine W.swap 5 8 (h := ?_)
      exact W.ag (k + 1) (hlt) (by omega)
    · rw [errsK, if_neg hi, List.append_nil] at hft
      refine GO ?_
      rw [← hft]
      exact W.ag (k + 1) (hlt) (by omega)
  obtain rfl : k = d.keys.length := by omega
  rw [List.take_length]
  refine GO ?_
  exact finH0n
end Go.Proofs.YtddddgbboipfeaaGreatDoor
