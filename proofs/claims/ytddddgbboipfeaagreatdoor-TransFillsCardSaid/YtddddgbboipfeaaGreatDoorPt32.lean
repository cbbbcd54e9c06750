/- Part 32 of what TransFills asks: for every input it returns true, and its input reads as it did. No condition. -/
import Derived.Test.YtddddgbboipfeaaGreatDoorPt15
import Derived.Test.YtddddgbboipfeaaGreatDoorPt26
import Derived.Test.YtddddgbboipfeaaGreatDoorPt27
import Derived.Test.YtddddgbboipfeaaGreatDoorPt28
import Derived.Test.YtddddgbboipfeaaGreatDoorPt29
import Derived.Test.YtddddgbboipfeaaGreatDoorPt31
namespace Go.Proofs.YtddddgbboipfeaaGreatDoor
open Go.Sv
/-- Itoa: a text. -/
def ItoaH : Prop := ∀ n : Nat, n ≤ 1000000 → ∀ m, Con Tryz.prog 237 [iT n] [] m (dT strA) [] m
abbrev atH (l : List Int) (b1 b2 : Own) : HL := [(7, b2), (6, b1), (0, .box 162 [.key 5]), (5, fltR l), (2, .box 215 [.clo 197 [.key 0]]), (3, .box 247 [chAt]), (4, .box 247 [chFd])]
set_option maxRecDepth 10000 in
set_option maxHeartbeats 4000000 in
theorem chAtC (hI : ItoaH) : ∀ (q : Nat) (t : Typ) (d : Doc) (m : Nat) (l : List Int), RtT q t → Rt d → m + q ≤ 1000 → l.length + (errs q t d).length + 512 ≤ 300000000 → AtC q t d m l
  | 0, t, d, m, l, ht, _, _, _ => absurd ht.2 (by rw [t.depth_parts]; omega)
  | q + 1, t, d, m, l, ht, hd, hm, hlen => by
    obtain ⟨hs, hp⟩ := ht.facts
    have hn := (Typ.right_fit ht.1).names
    have hnf := (Typ.right_fit ht.1).fields
    have hkl := hd.keys
    have hpk := part_kind hp
    refine fnH Tryz.func235 Tryz.ntmps235 (h := fun S w0 β0 X => ?_)
    refine W.dup 1 (h := ?_)
    refine GO ?_
    refine Ch.c (fitsC t d) (r := ?_)
    refine GO ?_
    refine W.mid (8) [] [(2, _), (3, _), (4, _), (5, _), (6, _), (7, _), (8, _), (10, _)] [(5, fltR (l ++ (if fitsE t d = 0 then [] else [fitsE t d])))] [(0, _), (2, _), (3, _), (4, _), (6, _), (7, _)] (h1 := ?_) (h2 := ?_)
    · by_cases h0 : fitsE t d = 0
      · rw [if_pos h0, List.append_nil]
        refine GO ?_
        exact W.meet
      · rw [if_neg h0]
        have s3 : Stop 3 := ⟨⟩
        refine GO ?_
        refine W.reg (by rfl) ?_
        refine Ch.loadO1 (hF := ⟨rfl, trivial⟩) (r := ?_)
        refine Ch.p (OpT.moveW (strsU_any (by omega))) ⟨rfl, trivial⟩ ?_
        clear s3
        refine GO ?_
        refine Ch.dyn [0, 5] (ts := [_, _]) (cs := [.key 0]) (tellC l (fitsE t d) (by omega)) (r := ?_)
        refine GO ?_
        refine W.swap 5 8 (h := ?_)
        exact W.meet
    by_cases h7 : fitsE t d = 7
    · refine GO ?_
      rw [errs_seven h7, h7]
      exact finH0n
    have hsp := errs_split q hp h7
    have hk2 : t.kind ≤ 3 → t.kind = d.kind := fits_kind h7
    generalize (if fitsE t d = 0 then [] else [fitsE t d]) = E0 at hsp ⊢
    rw [hsp] at hlen ⊢
    clear hsp
    rw [List.append_assoc, List.append_assoc, ← List.append_assoc l]
    rw [List.append_assoc, List.append_assoc, ← List.length_append, ← List.append_assoc l] at hlen
    by_cases k1 : t.kind = 1
    · rw [if_pos k1, if_neg (by omega), List.append_nil] at hlen ⊢
      generalize l ++ E0 = E1 at *
      rw [List.length_append, List.length_append] at hlen
      have hK := keys_flat d.keys t
      refine GO ?_
      refine Ch.dyn [0, 5, 2, 3, 4] (ts := [_, _, _]) (cs := [.key 3, .one belD, .key 2]) (chFieldsC q t d m E1 (fun f hf => ht.fld hf) hnf hd (by omega) (by omega) fun t d m l h1 h2 h3 h4 => chAtC hI q t d m l h1 h2 h3 h4) (r := ?_)
      refine GO ?_
      refine W.swap 5 8 (h := ?_)
      exact finH0n
    have hnof := part_nofields hp k1
    rw [if_neg k1, hnof, List.flatMap_nil, List.nil_append, List.nil_append] at hlen ⊢
    generalize l ++ E0 = E1 at *
    have hO := flat_le d.kids (errsO (errs q) t)
    by_cases k2 : t.kind = 2
    · have hkk := hd.keys2 (by have := hk2 (by omega); omega)
      obtain ⟨o, ho, _⟩ := part_of hp (.inl k2)
      have hom : o ∈ t.of := by rw [ho]; exact List.mem_singleton.2 rfl
      have ho0 : t.of[0]? = some o := by rw [ho]; rfl
      rw [if_pos (.inl k2)] at hlen ⊢
      rw [List.length_append] at hlen
      refine GO ?_
      refine W.lpG ((· ≤ d.kids.length)) (fun k => [(43, iT k)]) [(2, _), (5, _), (6, _), (7, _), (8, _), (41, _), (42, _)] (fun k => [(5, fltR (E1 ++ (d.kids.take k).flatMap (errsO (errs q) t)))]) [(0, _), (2, _), (3, _), (4, _), (6, _), (7, _)] (d.kids.length - ·) 0 (Nat.zero_le _) (hH := by simp only [List.take_zero, List.flatMap_nil, List.append_nil]; (repeat (first | exact SubH.nil | refine SubH.cons rfl ?_))) (round := fun k hk => ?_)
      by_cases hlt : k < d.kids.length
      · have hx := List.getElem?_eq_getElem hlt
        generalize d.kids[k] = x at hx
        have hxm := List.mem_of_getElem? hx
        have hy := List.getElem?_eq_getElem (show k < d.keys.length by omega)
        generalize d.keys[k]'(by omega) = s at hy
        have hft := flat_take (f := errsO (errs q) t) hx
        rw [show errsO (errs q) t x = errs q o x by rw [errsO, ho]] at hft
        have hl3 : (E1 ++ (d.kids.take k).flatMap (errsO (errs q) t)).length + (errs q o x).length + 512 ≤ 300000000 := by have := hO (k + 1); rw [hft] at this; rw [List.length_append] at this ⊢; omega
        refine GO ?_
        refine Ch.dy (ts := [_, _]) (cs := []) (belC m (m + 1) (str s) (by omega) (by omega)) (r := ?_)
        refine Ch.dyn [0, 5, 2, 3, 4] (chAtC hI q o x (m + 1) (E1 ++ (d.kids.take k).flatMap (errsO (errs q) t)) (ht.kid hom) (hd.kid hxm) (by omega) hl3) (r := ?_)
        refine GO ?_
        rw [show (E1 ++ (d.kids.take k).flatMap (errsO (errs q) t)) ++ errs q o x = E1 ++ (d.kids.take (k + 1)).flatMap (errsO (errs q) t) by rw [hft]; simp]
        refine W.swap 5 9 (h := ?_)
        exact W.ag (k + 1) (hlt) (by omega)
      · obtain rfl : k = d.kids.length := by omega
        rw [List.take_length]
        refine GO ?_
        exact finH0n
    by_cases k3 : t.kind = 3
    · obtain ⟨o, ho, _⟩ := part_of hp (.inr k3)
      have hom : o ∈ t.of := by rw [ho]; exact List.mem_singleton.2 rfl
      have ho0 : t.of[0]? = some o := by rw [ho]; rfl
      rw [if_pos (.inr k3)] at hlen ⊢
      rw [List.length_append] at hlen
      refine GO ?_
      refine W.lpG ((· ≤ d.kids.length)) (fun k => [(71, iT k)]) [(2, _), (5, _), (6, _), (7, _), (69, _), (70, _)] (fun k => [(5, fltR (E1 ++ (d.kids.take k).flatMap (errsO (errs q) t)))]) [(0, _), (2, _), (3, _), (4, _), (6, _), (7, _)] (d.kids.length - ·) 0 (Nat.zero_le _) (hH := by simp only [List.take_zero, List.flatMap_nil, List.append_nil]; (repeat (first | exact SubH.nil | refine SubH.cons rfl ?_))) (round := fun k hk => ?_)
      by_cases hlt : k < d.kids.length
      · have hx := List.getElem?_eq_getElem hlt
        generalize d.kids[k] = x at hx
        have hxm := List.mem_of_getElem? hx
        have hft := flat_take (f := errsO (errs q) t) hx
        rw [show errsO (errs q) t x = errs q o x by rw [errsO, ho]] at hft
        have hl3 : (E1 ++ (d.kids.take k).flatMap (errsO (errs q) t)).length + (errs q o x).length + 512 ≤ 300000000 := by have := hO (k + 1); rw [hft] at this; rw [List.length_append] at this ⊢; omega
        refine GO ?_
        refine Ch.c (hI k (by omega)) (r := ?_)
        refine GO ?_
        refine Ch.dy (ts := [_, _]) (cs := []) (belC m (m + 1) strA (by omega) (by omega)) (r := ?_)
        refine Ch.dyn [0, 5, 2, 3, 4] (chAtC hI q o x (m + 1) (E1 ++ (d.kids.take k).flatMap (errsO (errs q) t)) (ht.kid hom) (hd.kid hxm) (by omega) hl3) (r := ?_)
        refine GO ?_
        rw [show (E1 ++ (d.kids.take k).flatMap (errsO (errs q) t)) ++ errs q o x = E1 ++ (d.kids.take (k + 1)).flatMap (errsO (errs q) t) by rw [hft]; simp]
        refine W.swap 5 9 (h := ?_)
        exact W.ag (k + 1) (hlt) (by omega)
      · obtain rfl : k = d.kids.length := by omega
        rw [List.take_length]
        refine GO ?_
        exact finH0n
    have e : E1 ++ ([] ++ if t.kind = 2 ∨ t.kind = 3 then d.kids.flatMap (errsO (errs q) t) else []) = E1 := by rw [if_neg (by omega), List.append_nil, List.append_nil]
    rw [e]
    refine GO ?_
    exact finH0n
set_option maxRecDepth 10000 in
theorem checkC (t : Typ) (d : Doc) (hI : ItoaH) (ht : RtT 12 t) (hd : Rt d) : Con Tryz.prog 196 [agD (typF t), agD (docF d), .one (.clo 197 [.key 0])] [(0, .box 162 [.key 1]), (1, fltR [])] 2 (.tup []) [(0, .box 162 [.key 2]), (2, fltR (errs 12 t d))] 3 := by
  refine fnH Tryz.func196 Tryz.ntmps196 (h := fun S w0 β0 X => ?_)
  have hle := errs_len3 (n := 12) ht.facts.1 hd
  have s3 : Stop 3 := ⟨⟩
  refine GO ?_
  clear s3
  refine W.frzB 6 [cloD 231 []] (h := ?_)
  refine GO ?_
  refine Ch.p (OpT.clo' (cs := [.key 5, .one belD, .key 4])) ⟨rfl, rfl, rfl, trivial⟩ ?_
  refine GO ?_
  refine Ch.p (OpT.clo' (cs := [.key 4, .key 7, .key 5, .one belD])) ⟨rfl, rfl, rfl, rfl, trivial⟩ ?_
  refine GO ?_
  refine Ch.dyn [0, 1, 4, 5, 7] (ts := [_, _, _]) (cs := [.key 2, .key 4, .key 3, .one belD]) ((chAtC hI 12 t d 0 [] ht hd (by omega) (by simp; omega)).arg (.same (.same (.less nil_strsU (.same (.same (.same (.same .nil)))))))) (r := ?_)
  refine GO ?_
  refine W.swap 2 8 (h := ?_)
  exact finH0n
set_option maxRecDepth 10000 in
theorem allC (t : Typ) (d : Doc) (hI : ItoaH) (ht : t.fit) (hd : d.fit) : ∀ n, Con Tryz.prog 167 [agD (typF t), agD (docF d)] [] n (dT (fltsD (allE t d))) [] n := by
  refine fnI Tryz.func167 Tryz.ntmps167 (h := fun S w0 β0 X => ?_)
  refine GO ?_
  refine Ch.c (vrightC t d ht hd) (r := ?_)
  refine GO ?_
  cases hb : bothRight t d
  · refine GO ?_
    refine Ch.p (OpT.slice1' (hs := asAg (l := [lit (.slice none 0 0), i64 1]) rfl)) ⟨rfl, trivial⟩ ?_
    refine GO ?_
    refine W.less 4 (fltsD [1]) rfl (sl_less1 rfl fun w us h => ?_) ?_
    · match us, h with
      | [a, b], h => exact ⟨strsU_up (Nat.zero_le _) (nil_strsU w a h.1), h.2⟩
    exact fin1 (he := by rw [allE, hb]; rfl)
  · have h1 := right_parts hb
    have hb2 := hb
    simp only [bothRight, Bool.and_eq_true] at hb
    have s4 : Stop 4 := ⟨⟩
    refine GO ?_
    refine W.nilB 2 0 151 2 (h := ?_)
    clear s4
    refine GO ?_
    refine Ch.p (OpT.clo' (cs := [.key 2])) ⟨rfl, trivial⟩ ?_
    refine Ch.ch [2, 3] (checkC t d hI ⟨hb.1, h1.2.1⟩ ⟨h1.2.2.2.2, h1.2.2.2.1⟩) (r := ?_)
    refine GO ?_
    refine W.frz 4 (h := ?_)
    exact fin1 (he := by rw [allE, hb2]; rfl)
def fltH : List Int → List D
  | [] => [lit (.slice none 0 0), i64 0]
  | e :: _ => fltD e
set_option maxRecDepth 10000 in
theorem vCheckC (t : Typ) (d : Doc) (hI : ItoaH) (ht : t.fit) (hd : d.fit) : ∀ n, Con Tryz.prog 120 [agD (typF t), agD (docF d)] [] n (agD (fltH (allE t d))) [] n := by
  refine fnI Tryz.func120 Tryz.ntmps120 (hko := agD_keys) (h := fun S w0 β0 X => ?_)
  refine GO ?_
  refine Ch.c (allC t d hI ht hd) (r := ?_)
  refine GO ?_
  cases hl : allE t d with
  | nil =>
    refine GO ?_
    exact fin1
  | cons e l =>
    have h0 : (e :: l)[0]? = some e := rfl
    refine GO ?_
    exact fin1
set_option maxRecDepth 10000 in
theorem isC (t : Typ) (d : Doc) (hI : ItoaH) (ht : t.fit) (hd : d.fit) : ∀ n, Con Tryz.prog 79 [agD (typF t), agD (docF d)] [] n (bT (isOf t d)) [] n := by
  refine fnI Tryz.func79 Tryz.ntmps79 (h := fun S w0 β0 X => ?_)
  refine GO ?_
  refine Ch.c (vCheckC t d hI ht hd) (r := ?_)
  refine GO ?_
  rw [isOf_head]
  cases hl : allE t d with
  | nil =>
    refine GO ?_
    exact finB (he := by rfl)
  | cons e l =>
    refine GO ?_
    exact finB (he := by rfl)
end Go.Proofs.YtddddgbboipfeaaGreatDoor
namespace Go.Proofs.YtddddgbboipfeaaGreatDoor
open Go.Sv
open Go.RowKit Go.Lib Go.Shelf Go.Sort
theorem itoaC : ItoaH := fun n hn => Con.raw (enters_of Tryz.func237 (by kernel_rfl) rfl) fun β S w vs hv hG => by
  obtain ⟨vs⟩ := vs
  match vs, hv with
  | [v], h =>
    have e : v = .int .i64 n := h.1
    subst e
    refine (Any.strconv_Itoa Tryz.laysM171 n (by omega) (by omega) w (hG.mono hide_shown)).mono ?_
    rintro e w' ⟨rfl, k, os, rfl⟩
    exact ⟨_, rfl, kept_grow _ _ _, _, rfl⟩
end Go.Proofs.YtddddgbboipfeaaGreatDoor
namespace Go.Proofs.YtddddgbboipfeaaGreatDoor
open Go.Sv
theorem findNC {t : Typ} {s : Str} (h : t.find s = none) : ∀ n, Con Tryz.prog 229 [agD (typF t), sT s] [] n (.tup [.ag (fldZ.map C.d), .one (.d (bl false))]) [] n := fun n => by
  have := lfindC t s n; rw [h] at this; exact this
theorem findSC {t : Typ} {s : Str} {f : Fld} (h : t.find s = some f) : ∀ n, Con Tryz.prog 229 [agD (typF t), sT s] [] n (.tup [.ag ((fldF f).map C.d), .one (.d (bl true))]) [] n := fun n => by
  have := lfindC t s n; rw [h] at this; exact this
theorem Typ.right_len {t : Typ} (h : t.right = true) : t.fields.length ≤ 1000000 := by
  have := (Typ.right_fit h).fields
  omega
theorem Typ.find_no {t : Typ} (hk : t.kind = 1) {s : Str} (h : t.find s = none) : ∀ g ∈ t.fields, g.name ≠ s := fun g hg he => by
  rw [Typ.find, if_pos hk] at h
  have := List.find?_eq_none.1 h g hg
  rw [he] at this
  simp at this
theorem typ_nils {k lo hi : Int} (t : Typ) (w : World) (us : List Value) (h : Cells w [i64 k, i64 lo, i64 hi, nilD, nilD, sl 6 [typF t]] us) : Cells w (typF (.mk k lo hi [] [] [t])) us := by
  show Cells w [i64 k, i64 lo, i64 hi, sl 1 [], sl 8 [], sl 6 (typsC [t])] us
  rw [(rowTyps [t]).eq]
  match us, h with
  | [_, _, _, _, _, _], h => exact ⟨h.1, h.2.1, h.2.2.1, nil_sl _ _ _ h.2.2.2.1, nil_sl _ _ _ h.2.2.2.2.1, h.2.2.2.2.2⟩
theorem recU_e {t u : Typ} {e f : Int} (h : u = t) (h2 : f = e) : recU u f = recU t e := by rw [h, h2]
theorem recU_keys (t : Typ) (e : Int) : (recU t e).keys = [] := rfl
set_option maxRecDepth 10000 in
theorem lscalarC (t : Typ) (d : Doc) (ht : t.fit) (hd : d.fit) : ∀ n, Con Tryz.prog 255 [agD (typF t), agD (docF d)] [] n (iT (scalarE t d)) [] n := by
  refine fnI Tryz.func255 Tryz.ntmps255 (h := fun S w0 β0 X => ?_)
  refine GO ?_
  refine Ch.c (rightTC t ht) (r := ?_)
  refine GO ?_
  refine Ch.gc (hc := fun _ => scalarC t) (r := ?_)
  refine GO ?_
  refine W.cond rfl (fun h => ?_) (fun h => ?_)
  · refine GO ?_
    exact finI (he := by grind [scalarE])
  refine GO ?_
  refine Ch.c (isC t d itoaC ht hd) (r := ?_)
  refine GO ?_
  refine W.cond rfl (fun h2 => ?_) (fun h2 => ?_)
  · refine GO ?_
    exact finI (he := by grind [scalarE])
  refine GO ?_
  exact finI (he := by grind [scalarE])
def addT (t : Typ) (a : Str) (ty : Typ) : Typ := if nameOk a = false then t else if (t.find a).isSome then t else t.with_ (.mk a false ty)
theorem lensF_ag (s : Lens) : ∃ us, lensF s = us := ⟨_, rfl⟩
set_option maxRecDepth 10000 in
theorem laddC (t : Typ) (s : Lens) (ht : t.right = true) (hk : t.kind = 1) (hs : s.typ.fit) (hd : s.doc.fit) : ∀ n, Con Tryz.prog 227 [agD (typF t), agD (lensF s)] [] n (recU (addT t s.a s.typ) (addE t s.a s.typ s.doc)) [] n := by
  refine fnI Tryz.func227 Tryz.ntmps227 (h := fun S w0 β0 X => ?_)
  cases hf : t.find s.a with
  | some f =>
    refine GO ?_
    refine Ch.c (findSC hf) (r := ?_)
    refine GO ?_
    refine Ch.c (nameC s.a) (r := ?_)
    refine GO ?_
    refine W.cond rfl (fun h => ?_) (fun h => ?_)
    · rw [recU_e (t := t) (e := 1) (by grind [addT]) (by grind [addE])]
      refine GO ?_
      exact fin2
    rw [recU_e (t := t) (e := 5) (by grind [addT]) (by grind [addE])]
    refine GO ?_
    exact fin2
  | none =>
    refine GO ?_
    refine Ch.c (findNC hf) (r := ?_)
    refine GO ?_
    refine Ch.c (nameC s.a) (r := ?_)
    refine GO ?_
    refine W.cond rfl (fun h => ?_) (fun h => ?_)
    · rw [recU_e (t := t) (e := 1) (by grind [addT]) (by grind [addE])]
      refine GO ?_
      exact fin2
    rw [recU_e (t := t.with_ (.mk s.a false s.typ)) (e := scalarE s.typ s.doc) (by grind [addT]) (by grind [addE])]
    refine GO ?_
    refine Ch.c (withC t (.mk s.a false s.typ) (right_srt ht) (Typ.find_no hk hf) (Typ.right_len ht)) (r := ?_)
    refine GO ?_
    refine Ch.c (lscalarC s.typ s.doc hs hd) (r := ?_)
    refine GO ?_
    exact fin2
def renT (t : Typ) (f : Fld) (a b : Str) : Typ := if nameOk b = false then t else if (t.find b).isSome then t else (t.without a).with_ (.mk b f.opt f.typ)
theorem Typ.find_some_mem {t : Typ} {s : Str} {f : Fld} (h : t.find s = some f) : f.typ.right = true ∨ t.right = false := by
  cases hr : t.right with
  | false => exact .inr rfl
  | true => exact .inl (Typ.right_fld hr (Typ.find_mem h))
theorem wo_len (t : Typ) (s : Str) (ht : t.fields.length ≤ 1000000) : (t.without s).fields.length ≤ 1000000 := Nat.le_trans (List.length_filter_le ..) ht
theorem without_no {t : Typ} {b : Str} (a : Str) (h : ∀ g ∈ t.fields, g.name ≠ b) : ∀ g ∈ (t.without a).fields, g.name ≠ b := fun g hg => h g ((List.mem_filter.1 hg).1)
set_option maxRecDepth 10000 in
theorem lrenameC (t : Typ) (f : Fld) (s : Lens) (hD : DelH) (ht : t.right = true) (hk : t.kind = 1) : ∀ n, Con Tryz.prog 256 [agD (typF t), agD (fldF f), agD (lensF s)] [] n (recU (renT t f s.a s.b) (renameE t s.b)) [] n := by
  refine fnI Tryz.func256 Tryz.ntmps256 (h := fun S w0 β0 X => ?_)
  cases hf : t.find s.b with
  | some g =>
    refine GO ?_
    refine Ch.c (findSC hf) (r := ?_)
    refine GO ?_
    refine Ch.c (nameC s.b) (r := ?_)
    refine GO ?_
    refine W.cond rfl (fun h => ?_) (fun h => ?_)
    · rw [recU_e (t := t) (e := 1) (by grind [renT]) (by grind [renameE])]
      refine GO ?_
      exact fin2
    rw [recU_e (t := t) (e := 5) (by grind [renT]) (by grind [renameE])]
    refine GO ?_
    exact fin2
  | none =>
    refine GO ?_
    refine Ch.c (findNC hf) (r := ?_)
    refine GO ?_
    refine Ch.c (nameC s.b) (r := ?_)
    refine GO ?_
    refine W.cond rfl (fun h => ?_) (fun h => ?_)
    · rw [recU_e (t := t) (e := 1) (by grind [renT]) (by grind [renameE])]
      refine GO ?_
      exact fin2
    rw [recU_e (t := (t.without s.a).with_ (.mk s.b f.opt f.typ)) (e := 0) (by grind [renT]) (by grind [renameE])]
    refine GO ?_
    refine Ch.c (withoutC t s.a hD (Typ.right_len ht)) (r := ?_)
    refine GO ?_
    refine Ch.c (withC (t.without s.a) (.mk s.b f.opt f.typ) (Typ.without_srt s.a (right_srt ht)) (without_no s.a (Typ.find_no hk hf)) (wo_len t s.a (Typ.right_len ht))) (r := ?_)
    refine GO ?_
    exact fin2
def remT (t : Typ) (f : Fld) (a : Str) (ty : Typ) : Typ := if Typ.same f.typ ty = false then t else t.without a
set_option maxRecDepth 10000 in
theorem lremoveC (t : Typ) (f : Fld) (s : Lens) (hD : DelH) (ht : t.right = true) (hs : s.typ.fit) (hd : s.doc.fit) : ∀ n, Con Tryz.prog 257 [agD (typF t), agD (fldF f), agD (lensF s)] [] n (recU (remT t f s.a s.typ) (removeE f s.typ s.doc)) [] n := by
  refine fnI Tryz.func257 Tryz.ntmps257 (h := fun S w0 β0 X => ?_)
  refine GO ?_
  refine Ch.c (sameTC f.typ s.typ) (r := ?_)
  refine GO ?_
  refine W.cond rfl (fun h => ?_) (fun h => ?_)
  · rw [recU_e (t := t) (e := 7) (by grind [remT]) (by grind [removeE])]
    refine GO ?_
    exact fin2
  rw [recU_e (t := t.without s.a) (e := scalarE s.typ s.doc) (by grind [remT]) (by grind [removeE])]
  refine GO ?_
  refine Ch.c (withoutC t s.a hD (Typ.right_len ht)) (r := ?_)
  refine GO ?_
  refine Ch.c (lscalarC s.typ s.doc hs hd) (r := ?_)
  refine GO ?_
  exact fin2
def wrapT (t : Typ) (f : Fld) (a : Str) : Typ := if scalarB f.typ = false then t else t.set a (.mk 3 1 1 [] [] [f.typ])
set_option maxRecDepth 10000 in
theorem lwrapC (t : Typ) (f : Fld) (s : Lens) (hD : DelH) (ht : t.right = true) : ∀ n, Con Tryz.prog 260 [agD (typF t), agD (fldF f), agD (lensF s)] [] n (recU (wrapT t f s.a) (if scalarB f.typ then 0 else 7)) [] n := by
  refine fnI Tryz.func260 Tryz.ntmps260 (h := fun S w0 β0 X => ?_)
  refine GO ?_
  refine Ch.c (scalarC f.typ) (r := ?_)
  refine GO ?_
  refine W.cond rfl (fun h => ?_) (fun h => ?_)
  · rw [recU_e (t := t) (e := 7) (by grind [wrapT]) (by grind)]
    refine GO ?_
    exact fin2
  rw [recU_e (t := t.set s.a (.mk 3 1 1 [] [] [f.typ])) (e := 0) (by grind [wrapT]) (by grind)]
  refine GO ?_
  refine Ch.p (OpT.slice1' (hs := asAg (l := typF f.typ) rfl)) ⟨rfl, trivial⟩ ?_
  refine GO ?_
  refine Ch.c (fun n => (setC t s.a (.mk 3 1 1 [] [] [f.typ]) hD (right_srt ht) (Typ.right_len ht) n).argL (args := [agD (typF t), sT s.a, agD [i64 3, i64 1, i64 1, nilD, nilD, sl 6 [typF f.typ]]]) ⟨.refl _, .refl _, .ag (typ_nils f.typ), trivial⟩) (r := ?_)
  refine GO ?_
  exact fin2
end Go.Proofs.YtddddgbboipfeaaGreatDoor
namespace Go.Proofs.YtddddgbboipfeaaGreatDoor
open Go.Sv
theorem Typ.find_typ {t : Typ} {s : Str} {f : Fld} (ht : t.right = true) (h : t.find s = some f) : f.typ.right = true := Typ.right_fld ht (Typ.find_mem h)
theorem Typ.find_kind {t : Typ} {s : Str} {f : Fld} (h : t.find s = some f) : t.kind = 1 ∧ f.name = s := by
  rcases find_cases t s with ⟨_, h2⟩ | ⟨j, x, _, _, h3, h4⟩
  · rw [h2] at h; cases h
  · rw [h3] at h; cases h
    refine ⟨?_, h4⟩
    rw [Typ.find] at h3
    split at h3
    · assumption
    · cases h3
theorem set_no {t : Typ} {a b : Str} {x : Typ} (h : ∀ g ∈ t.fields, g.name ≠ b) (hab : a ≠ b) : ∀ g ∈ (t.set a x).fields, g.name ≠ b := fun g hg => by
  rcases Typ.mem_ins hg with rfl | hg
  · exact hab
  · exact h g (List.mem_filter.1 hg).1
def hoiT (t : Typ) (f : Fld) (a b : Str) : Typ := if hoistE t f b = 0 then hoistT t f a b else t
set_option maxRecDepth 10000 in
theorem lhoistC (t : Typ) (f : Fld) (s : Lens) (hD : DelH) (ht : t.right = true) (hf : t.find s.a = some f) : ∀ n, Con Tryz.prog 258 [agD (typF t), agD (fldF f), agD (lensF s)] [] n (recU (hoiT t f s.a s.b) (hoistE t f s.b)) [] n := by
  refine fnI Tryz.func258 Tryz.ntmps258 (h := fun S w0 β0 X => ?_)
  have hr := Typ.find_typ ht hf
  obtain ⟨hk, hn⟩ := Typ.find_kind hf
  refine GO ?_
  refine W.cond rfl (fun h => ?_) (fun h => ?_)
  · have h : f.typ.kind ≠ 1 := by grind
    rw [recU_e (t := t) (e := 7) (by grind [hoiT, hoistE]) (by grind [hoistE])]
    refine GO ?_
    exact fin2
  have h : f.typ.kind = 1 := by grind
  cases hb : f.typ.find s.b with
  | none =>
    rw [recU_e (t := t) (e := 9) (by grind [hoiT, hoistE]) (by grind [hoistE])]
    cases hg : t.find s.b with
    | none =>
      refine GO ?_
      refine Ch.c (findNC hb) (r := ?_)
      refine GO ?_
      refine Ch.c (findNC hg) (r := ?_)
      refine GO ?_
      exact fin2
    | some g =>
      refine GO ?_
      refine Ch.c (findNC hb) (r := ?_)
      refine GO ?_
      refine Ch.c (findSC hg) (r := ?_)
      refine GO ?_
      exact fin2
  | some o =>
    cases hg : t.find s.b with
    | some g =>
      refine GO ?_
      refine Ch.c (findSC hb) (r := ?_)
      refine GO ?_
      refine Ch.c (findSC hg) (r := ?_)
      refine GO ?_
      refine W.cond rfl (fun h2 => ?_) (fun h2 => ?_)
      · rw [recU_e (t := t) (e := 7) (by grind [hoiT, hoistE]) (by grind [hoistE])]
        refine GO ?_
        exact fin2
      rw [recU_e (t := t) (e := 5) (by grind [hoiT, hoistE]) (by grind [hoistE])]
      refine GO ?_
      exact fin2
    | none =>
      refine GO ?_
      refine Ch.c (findSC hb) (r := ?_)
      refine GO ?_
      refine Ch.c (findNC hg) (r := ?_)
      refine GO ?_
      refine W.cond rfl (fun h2 => ?_) (fun h2 => ?_)
      · rw [recU_e (t := t) (e := 7) (by grind [hoiT, hoistE]) (by grind [hoistE])]
        refine GO ?_
        exact fin2
      have h0 : hoistE t f s.b = 0 := by grind [hoistE]
      rw [recU_e (t := (t.set s.a (f.typ.without s.b)).with_ o) (e := 0) (by rw [hoiT, if_pos h0, hoistT, hb]) h0]
      refine GO ?_
      refine Ch.c (withoutC f.typ s.b hD (Typ.right_len hr)) (r := ?_)
      refine GO ?_
      refine Ch.p OpT.fieldG ⟨rfl, trivial⟩ ?_
      refine GO ?_
      refine Ch.c (setC t s.a (f.typ.without s.b) hD (right_srt ht) (Typ.right_len ht)) (r := ?_)
      refine GO ?_
      refine Ch.c (withC (t.set s.a (f.typ.without s.b)) o (set_srt s.a (right_srt ht)) (fun g hg2 => by rw [(Typ.find_kind hb).2]; exact set_no (Typ.find_no hk hg) (fun e => by rw [e, hg] at hf; cases hf) g hg2) (Nat.le_trans (set_len ..) (by have := right_len ht; omega))) (r := ?_)
      refine GO ?_
      exact fin2
theorem toList_beq (a b : Str) : (a.toList == b.toList) = decide (a = b) := by
  rw [Bool.eq_iff_iff, beq_iff_eq, decide_eq_true_eq]
  exact ⟨fun h => str_ext h, fun h => h ▸ rfl⟩
def pluT (t : Typ) (f : Fld) (a b : Str) : Typ := if plungeE t f a b = 0 then plungeT t f a b else t
set_option maxRecDepth 10000 in
theorem lplungeC (t : Typ) (f : Fld) (s : Lens) (hD : DelH) (ht : t.right = true) (hf : t.find s.a = some f) : ∀ n, Con Tryz.prog 259 [agD (typF t), agD (fldF f), agD (lensF s)] [] n (recU (pluT t f s.a s.b) (plungeE t f s.a s.b)) [] n := by
  refine fnI Tryz.func259 Tryz.ntmps259 (h := fun S w0 β0 X => ?_)
  have hr := Typ.find_typ ht hf
  obtain ⟨hk, hn⟩ := Typ.find_kind hf
  cases hb : t.find s.b with
  | none =>
    rw [recU_e (t := t) (e := 9) (by grind [pluT, plungeE]) (by grind [plungeE])]
    refine GO ?_
    refine Ch.c (findNC hb) (r := ?_)
    refine GO ?_
    exact fin2
  | some o =>
    refine GO ?_
    refine Ch.c (findSC hb) (r := ?_)
    refine GO ?_
    refine W.cond rfl (fun h => ?_) (fun h => ?_) <;> simp only [toList_beq] at h
    · rw [recU_e (t := t) (e := 7) (by grind [pluT, plungeE]) (by grind [plungeE])]
      refine GO ?_
      exact fin2
    cases hg : f.typ.find s.b with
    | some g =>
      refine GO ?_
      refine Ch.c (findSC hg) (r := ?_)
      refine GO ?_
      rw [recU_e (t := t) (e := 5) (by grind [pluT, plungeE]) (by grind [plungeE])]
      exact fin2
    | none =>
      refine GO ?_
      refine Ch.c (findNC hg) (r := ?_)
      refine GO ?_
      have h1 : f.typ.kind = 1 := by grind
      have h0 : plungeE t f s.a s.b = 0 := by grind [plungeE]
      rw [recU_e (t := (t.set s.a (f.typ.with_ o)).without s.b) (e := 0) (by rw [pluT, if_pos h0, plungeT, hb]) h0]
      refine Ch.c (withC f.typ o (right_srt hr) (by rw [(Typ.find_kind hb).2]; exact Typ.find_no h1 hg) (Typ.right_len hr)) (r := ?_)
      refine GO ?_
      refine Ch.p OpT.fieldG ⟨rfl, trivial⟩ ?_
      refine GO ?_
      refine Ch.c (setC t s.a (f.typ.with_ o) hD (right_srt ht) (Typ.right_len ht)) (r := ?_)
      refine GO ?_
      refine Ch.c (withoutC (t.set s.a (f.typ.with_ o)) s.b hD (Nat.le_trans (set_len ..) (by have := right_len ht; omega))) (r := ?_)
      refine GO ?_
      exact fin2
def heaT (t : Typ) (f : Fld) (a : Str) : Typ := if headE f = 0 then t.set a f.typ.of0 else t
set_option maxRecDepth 10000 in
theorem lheadC (t : Typ) (f : Fld) (s : Lens) (hD : DelH) (ht : t.right = true) (hf : t.find s.a = some f) : ∀ n, Con Tryz.prog 261 [agD (typF t), agD (fldF f), agD (lensF s)] [] n (recU (heaT t f s.a) (headE f)) [] n := by
  refine fnI Tryz.func261 Tryz.ntmps261 (h := fun S w0 β0 X => ?_)
  have hr := Typ.find_typ ht hf
  cases ho : f.typ.of with
  | cons o l =>
    have ho0 : f.typ.of[0]? = some o := by rw [ho]; rfl
    have ho1 : f.typ.of0 = o := by rw [Typ.of0, ho]; rfl
    refine GO ?_
    refine Ch.gc (hc := fun _ => scalarC o) (r := ?_)
    refine GO ?_
    refine W.cond rfl (fun h => ?_) (fun h => ?_)
    · rw [recU_e (t := t) (e := 7) (by grind [heaT, headE]) (by grind [headE])]
      refine GO ?_
      exact fin2
    have h0 : headE f = 0 := by grind [headE]
    rw [recU_e (t := t.set s.a o) (e := 0) (by rw [heaT, if_pos h0, ho1]) h0]
    refine GO ?_
    refine Ch.c (setC t s.a o hD (right_srt ht) (Typ.right_len ht)) (r := ?_)
    refine GO ?_
    exact fin2
  | nil =>
    have k3 : f.typ.kind ≠ 3 := fun k3 => by
      obtain ⟨o, h, _⟩ := part_of (Typ.right_parts hr).2.2 (.inr k3)
      rw [ho] at h; cases h
    refine GO ?_
    refine Ch.g (out := dT (adr (typF (.mk 0 0 0 [] [] [])))) (h := fun hc => absurd hc (by simp [k3])) (r := ?_)
    refine GO ?_
    refine Ch.gc (hc := fun _ => scalarC (.mk 0 0 0 [] [] [])) (r := ?_)
    refine GO ?_
    rw [recU_e (t := t) (e := 7) (by grind [heaT, headE]) (by grind [headE])]
    refine W.cond rfl (fun h => ?_) (fun h => ?_)
    · refine GO ?_
      exact fin2
    · exact absurd h (by simp [k3])
end Go.Proofs.YtddddgbboipfeaaGreatDoor
namespace Go.Proofs.YtddddgbboipfeaaGreatDoor
open Go.Sv
def SwapsH : Prop := ∀ (l : List (Int × Int)) (t : Typ), l.length ≤ 1000000 → (∀ n ∈ swapNums l, I64 n) → ∀ n, Con Tryz.prog 285 [dT (sl 2 (l.map swapF)), agD (typF t)] [] n (iT (swapsE l t)) [] n
structure RawH : Prop where
  del : DelH
  swaps : SwapsH
def stepsU (p : Typ × Int) : T := .tup [.ag ((typF p.1).map C.d), .one (.d intA), .one (.d (i64 p.2))]
def StepsC (l : List Lens) : Prop := ∀ t : Typ, t.right = true → t.kind = 1 → ∀ n, Con Tryz.prog 151 [agD (typF t), dT (sl 16 (lensesC l))] [] n (stepsU (Lens.steps l t)) [] n
set_option maxRecDepth 10000 in
theorem lconvertC (t : Typ) (f : Fld) (s : Lens) (hR : RawH) (hl : s.swaps.length ≤ 1000000) (hn : ∀ n ∈ swapNums s.swaps, I64 n) : ∀ n, Con Tryz.prog 262 [agD (typF t), agD (fldF f), agD (lensF s)] [] n (recU t (if f.typ.kind ≠ 4 then 7 else swapsE s.swaps f.typ)) [] n := by
  refine fnI Tryz.func262 Tryz.ntmps262 (h := fun S w0 β0 X => ?_)
  refine GO ?_
  refine W.cond rfl (fun h => ?_) (fun h => ?_)
  · rw [recU_e (t := t) (e := 7) rfl (by grind)]
    refine GO ?_
    exact fin2
  rw [recU_e (t := t) (e := swapsE s.swaps f.typ) rfl (by grind)]
  refine GO ?_
  refine Ch.c (hR.swaps s.swaps f.typ hl hn) (r := ?_)
  refine GO ?_
  exact fin2
set_option maxRecDepth 10000 in
theorem linsideC (t : Typ) (f : Fld) (s : Lens) (hR : RawH) (ht : t.right = true) (hf : t.find s.a = some f) (hS : StepsC s.subs) : ∀ n, Con Tryz.prog 263 [agD (typF t), agD (fldF f), agD (lensF s)] [] n (recU (if f.typ.kind ≠ 1 then t else t.set s.a (Lens.steps s.subs f.typ).1) (if f.typ.kind ≠ 1 then 7 else (Lens.steps s.subs f.typ).2)) [] n := by
  refine fnI Tryz.func263 Tryz.ntmps263 (h := fun S w0 β0 X => ?_)
  have hr := Typ.find_typ ht hf
  refine GO ?_
  refine W.cond rfl (fun h => ?_) (fun h => ?_)
  · rw [recU_e (t := t) (e := 7) (by grind) (by grind)]
    refine GO ?_
    exact fin2
  have hk : f.typ.kind = 1 := by grind
  rw [recU_e (t := t.set s.a (Lens.steps s.subs f.typ).1) (e := (Lens.steps s.subs f.typ).2) (by grind) (by grind)]
  refine GO ?_
  refine Ch.c (hS f.typ hr hk) (r := ?_)
  refine GO ?_
  refine Ch.c (setC t s.a (Lens.steps s.subs f.typ).1 hR.del (right_srt ht) (Typ.right_len ht)) (r := ?_)
  refine GO ?_
  exact fin2
theorem typ_one {u : Typ} (k2 : u.kind = 2) (hn : u.names = []) (hf : u.fields = []) (x : Typ) (w : World) (us : List Value) (h : Cells w [i64 u.kind, i64 u.lo, i64 u.hi, strsD u.names, sl 8 (fldsC u.fields), sl 6 [typF x]] us) : Cells w (typF (.mk 2 u.lo u.hi [] [] [x])) us := by
  show Cells w [i64 2, i64 u.lo, i64 u.hi, strsD [], sl 8 (fldsC []), sl 6 (typsC [x])] us
  rw [(rowTyps [x]).eq]
  rwa [k2, hn, hf] at h
set_option maxRecDepth 10000 in
theorem leachC (t : Typ) (f : Fld) (s : Lens) (hR : RawH) (ht : t.right = true) (hf : t.find s.a = some f) (hS : StepsC s.subs) : ∀ n, Con Tryz.prog 264 [agD (typF t), agD (fldF f), agD (lensF s)] [] n (recU (if f.typ.kind ≠ 2 ∨ f.typ.of0.kind ≠ 1 then t else t.set s.a (.mk 2 f.typ.lo f.typ.hi [] [] [(Lens.steps s.subs f.typ.of0).1])) (if f.typ.kind ≠ 2 ∨ f.typ.of0.kind ≠ 1 then 7 else (Lens.steps s.subs f.typ.of0).2)) [] n := by
  refine fnI Tryz.func264 Tryz.ntmps264 (h := fun S w0 β0 X => ?_)
  have hr := Typ.find_typ ht hf
  by_cases k2 : f.typ.kind = 2
  · obtain ⟨o, ho, hop⟩ := part_of (Typ.right_parts hr).2.2 (.inl k2)
    have ho0 : f.typ.of[0]? = some o := by rw [ho]; rfl
    have ho1 : f.typ.of0 = o := by rw [Typ.of0, ho]; rfl
    obtain ⟨hn, hfs⟩ := right_bare hr (.inl k2)
    refine GO ?_
    refine W.cond rfl (fun h => ?_) (fun h => ?_)
    · rw [recU_e (t := t) (e := 7) (by grind) (by grind)]
      refine GO ?_
      exact fin2
    have hk : o.kind = 1 := by grind
    have hor : o.right = true := ho1 ▸ (Typ.right_one hr (.inl k2)).2
    rw [recU_e (t := t.set s.a (.mk 2 f.typ.lo f.typ.hi [] [] [(Lens.steps s.subs o).1])) (e := (Lens.steps s.subs o).2) (by grind) (by grind)]
    refine GO ?_
    refine Ch.c (hS o hor hk) (r := ?_)
    refine GO ?_
    refine Ch.p (OpT.slice1' (hs := asAg (l := typF (Lens.steps s.subs o).1) rfl)) ⟨rfl, trivial⟩ ?_
    refine GO ?_
    refine Ch.c (fun n => (setC t s.a (.mk 2 f.typ.lo f.typ.hi [] [] [(Lens.steps s.subs o).1]) hR.del (right_srt ht) (Typ.right_len ht) n).argL (args := [agD (typF t), sT s.a, agD [i64 f.typ.kind, i64 f.typ.lo, i64 f.typ.hi, strsD f.typ.names, sl 8 (fldsC f.typ.fields), sl 6 [typF (Lens.steps s.subs o).1]]]) ⟨.refl _, .refl _, .ag (typ_one k2 hn hfs _), trivial⟩) (r := ?_)
    refine GO ?_
    exact fin2
  · have hz : (if f.typ.kind ≠ 2 ∨ f.typ.of0.kind ≠ 1 then t else t.set s.a (.mk 2 f.typ.lo f.typ.hi [] [] [(Lens.steps s.subs f.typ.of0).1])) = t := if_pos (.inl k2)
    rw [recU_e (t := t) (e := 7) hz (if_pos (.inl k2))]
    cases ho : f.typ.of with
    | cons o l =>
      have ho0 : f.typ.of[0]? = some o := by rw [ho]; rfl
      refine GO ?_
      refine W.cond rfl (fun h => ?_) (fun h => ?_)
      · refine GO ?_
        exact fin2
      · exact absurd h (by simp [k2])
    | nil =>
      refine GO ?_
      refine Ch.g (out := dT (adr (typF (.mk 0 0 0 [] [] [])))) (h := fun hc => absurd hc (by simp [k2])) (r := ?_)
      refine GO ?_
      refine W.cond rfl (fun h => ?_) (fun h => ?_)
      · refine GO ?_
        exact fin2
      · exact absurd h (by simp [k2])
end Go.Proofs.YtddddgbboipfeaaGreatDoor
