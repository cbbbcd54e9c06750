/- Part 28 of what StageOrder and StagePlans ask: for every input each returns true, and its input reads as it did. No condition. -/
import Derived.Test.YtelkpflpgpdkdaaGreatDoorPt26
import Derived.Test.YtelkpflpgpdkdaaGreatDoorPt27
namespace Go.Proofs.YtelkpflpgpdkdaaGreatDoor
open Go.Sv
/-- Itoa: a text. -/
def ItoaH : Prop := ∀ n : Nat, n ≤ 1000000 → ∀ m, Con Tryz.prog 239 [iT n] [] m (dT strA) [] m
set_option maxRecDepth 10000 in
set_option maxHeartbeats 4000000 in
theorem chAtC (hI : ItoaH) : ∀ (q : Nat) (t : Typ) (d : Doc) (m : Nat) (l : List Int), RtT q t → Rt d → m + q ≤ 1000 → l.length + (errs q t d).length + 512 ≤ 300000000 → AtC q t d m l
  | 0, t, d, m, l, ht, _, _, _ => absurd ht.2 (by rw [t.depth_parts]; omega)
  | q + 1, t, d, m, l, ht, hd, hm, hlen => by
    obtain ⟨hs, hp⟩ := ht.facts
    have hn := (Typ.right_fit ht.1).names
    have hnf := (Typ.right_fit ht.1).fields
    have hkl := hd.keys
    have hpk := part_kind hp
    refine fnH Tryz.func237 Tryz.ntmps237 (h := fun S w0 β0 X => ?_)
    refine W.dup 1 (h := ?_)
    refine GO ?_
    refine Ch.c (fitsC t d) (r := ?_)
    refine GO ?_
    refine W.mid (8) [] [(2, _), (3, _), (4, _), (5, _), (6, _), (7, _), (8, _), (10, _)] [(5, fltR (l ++ (if fitsE t d = 0 then [] else [fitsE t d])))] [(0, _), (2, _), (3, _), (4, _), (6, _), (7, _)] (h1 := ?_) (h2 := ?_)
    · by_cases h0 : fitsE t d = 0
      · rw [if_pos h0, List.append_nil]
        refine GO ?_
        exact W.meet
      · rw [if_neg h0]
        have s3 : Stop 3 := ⟨⟩
        refine GO ?_
        refine W.reg (by rfl) ?_
        refine Ch.loadO1 (hF := ⟨rfl, trivial⟩) (r := ?_)
        refine Ch.p (OpT.moveW (strsU_any (by omega))) ⟨rfl, trivial⟩ ?_
        clear s3
        refine GO ?_
        refine Ch.dyn [0, 5] (ts := [_, _]) (cs := [.key 0]) (tellC l (fitsE t d) (by omega)) (r := ?_)
        refine GO ?_
        refine W.swap 5 8 (h := ?_)
        exact W.meet
    by_cases h7 : fitsE t d = 7
    · refine GO ?_
      rw [errs_seven h7, h7]
      exact finH0n
    have hsp := errs_split q hp h7
    have hk2 : t.kind ≤ 3 → t.kind = d.kind := fits_kind h7
    generalize (if fitsE t d = 0 then [] else [fitsE t d]) = E0 at hsp ⊢
    rw [hsp] at hlen ⊢
    clear hsp
    rw [List.append_assoc, List.append_assoc, ← List.append_assoc l]
    rw [List.append_assoc, List.append_assoc, ← List.length_append, ← List.append_assoc l] at hlen
    by_cases k1 : t.kind = 1
    · rw [if_pos k1, if_neg (by omega), List.append_nil] at hlen ⊢
      generalize l ++ E0 = E1 at *
      rw [List.length_append, List.length_append] at hlen
      have hK := keys_flat d.keys t
      refine GO ?_
      refine Ch.dyn [0, 5, 2, 3, 4] (ts := [_, _, _]) (cs := [.key 3, .one belD, .key 2]) (chFieldsC q t d m E1 (fun f hf => ht.fld hf) hnf hd (by omega) (by omega) fun t d m l h1 h2 h3 h4 => chAtC hI q t d m l h1 h2 h3 h4) (r := ?_)
      refine GO ?_
      refine W.swap 5 8 (h := ?_)
      exact finH0n
    have hnof := part_nofields hp k1
    rw [if_neg k1, hnof, List.flatMap_nil, List.nil_append, List.nil_append] at hlen ⊢
    generalize l ++ E0 = E1 at *
    have hO := flat_le d.kids (errsO (errs q) t)
    by_cases k2 : t.kind = 2
    · have hkk := hd.keys2 (by have := hk2 (by omega); omega)
      obtain ⟨o, ho, _⟩ := part_of hp (.inl k2)
      have hom : o ∈ t.of := by rw [ho]; exact List.mem_singleton.2 rfl
      have ho0 : t.of[0]? = some o := by rw [ho]; rfl
      rw [if_pos (.inl k2)] at hlen ⊢
      rw [List.length_append] at hlen
      refine GO ?_
      refine W.lpG ((· ≤ d.kids.length)) (fun k => [(43, iT k)]) [(2, _), (5, _), (6, _), (7, _), (8, _), (41, _), (42, _)] (fun k => [(5, fltR (E1 ++ (d.kids.take k).flatMap (errsO (errs q) t)))]) [(0, _), (2, _), (3, _), (4, _), (6, _), (7, _)] (d.kids.length - ·) 0 (Nat.zero_le _) (hH := by simp only [List.take_zero, List.flatMap_nil, List.append_nil]; (repeat (first | exact SubH.nil | refine SubH.cons rfl ?_))) (round := fun k hk => ?_)
      by_cases hlt : k < d.kids.length
      · have hx := List.getElem?_eq_getElem hlt
        generalize d.kids[k] = x at hx
        have hxm := List.mem_of_getElem? hx
        have hy := List.getElem?_eq_getElem (show k < d.keys.length by omega)
        generalize d.keys[k]'(by omega) = s at hy
        have hft := flat_take (f := errsO (errs q) t) hx
        rw [show errsO (errs q) t x = errs q o x by rw [errsO, ho]] at hft
        have hl3 : (E1 ++ (d.kids.take k).flatMap (errsO (errs q) t)).length + (errs q o x).length + 512 ≤ 300000000 := by have := hO (k + 1); rw [hft] at this; rw [List.length_append] at this ⊢; omega
        refine GO ?_
        refine Ch.dy (ts := [_, _]) (cs := []) (belC m (m + 1) (str s) (by omega) (by omega)) (r := ?_)
        refine Ch.dyn [0, 5, 2, 3, 4] (chAtC hI q o x (m + 1) (E1 ++ (d.kids.take k).flatMap (errsO (errs q) t)) (ht.kid hom) (hd.kid hxm) (by omega) hl3) (r := ?_)
        refine GO ?_
        rw [show (E1 ++ (d.kids.take k).flatMap (errsO (errs q) t)) ++ errs q o x = E1 ++ (d.kids.take (k + 1)).flatMap (errsO (errs q) t) by rw [hft]; simp]
        refine W.swap 5 9 (h := ?_)
        exact W.ag (k + 1) (hlt) (by omega)
      · obtain rfl : k = d.kids.length := by omega
        rw [List.take_length]
        refine GO ?_
        exact finH0n
    by_cases k3 : t.kind = 3
    · obtain ⟨o, ho, _⟩ := part_of hp (.inr k3)
      have hom : o ∈ t.of := by rw [ho]; exact List.mem_singleton.2 rfl
      have ho0 : t.of[0]? = some o := by rw [ho]; rfl
      rw [if_pos (.inr k3)] at hlen ⊢
      rw [List.length_append] at hlen
      refine GO ?_
      refine W.lpG ((· ≤ d.kids.length)) (fun k => [(71, iT k)]) [(2, _), (5, _), (6, _), (7, _), (69, _), (70, _)] (fun k => [(5, fltR (E1 ++ (d.kids.take k).flatMap (errsO (errs q) t)))]) [(0, _), (2, _), (3, _), (4, _), (6, _), (7, _)] (d.kids.length - ·) 0 (Nat.zero_le _) (hH := by simp only [List.take_zero, List.flatMap_nil, List.append_nil]; (repeat (first | exact SubH.nil | refine SubH.cons rfl ?_))) (round := fun k hk => ?_)
      by_cases hlt : k < d.kids.length
      · have hx := List.getElem?_eq_getElem hlt
        generalize d.kids[k] = x at hx
        have hxm := List.mem_of_getElem? hx
        have hft := flat_take (f := errsO (errs q) t) hx
        rw [show errsO (errs q) t x = errs q o x by rw [errsO, ho]] at hft
        have hl3 : (E1 ++ (d.kids.take k).flatMap (errsO (errs q) t)).length + (errs q o x).length + 512 ≤ 300000000 := by have := hO (k + 1); rw [hft] at this; rw [List.length_append] at this ⊢; omega
        refine GO ?_
        refine Ch.c (hI k (by omega)) (r := ?_)
        refine GO ?_
        refine Ch.dy (ts := [_, _]) (cs := []) (belC m (m + 1) strA (by omega) (by omega)) (r := ?_)
        refine Ch.dyn [0, 5, 2, 3, 4] (chAtC hI q o x (m + 1) (E1 ++ (d.kids.take k).flatMap (errsO (errs q) t)) (ht.kid hom) (hd.kid hxm) (by omega) hl3) (r := ?_)
        refine GO ?_
        rw [show (E1 ++ (d.kids.take k).flatMap (errsO (errs q) t)) ++ errs q o x = E1 ++ (d.kids.take (k + 1)).flatMap (errsO (errs q) t) by rw [hft]; simp]
        refine W.swap 5 9 (h := ?_)
        exact W.ag (k + 1) (hlt) (by omega)
      · obtain rfl : k = d.kids.length := by omega
        rw [List.take_length]
        refine GO ?_
        exact finH0n
    have e : E1 ++ ([] ++ if t.kind = 2 ∨ t.kind = 3 then d.kids.flatMap (errsO (errs q) t) else []) = E1 := by rw [if_neg (by omega), List.append_nil, List.append_nil]
    rw [e]
    refine GO ?_
    exact finH0n
set_option maxRecDepth 10000 in
theorem checkC (t : Typ) (d : Doc) (hI : ItoaH) (ht : RtT 12 t) (hd : Rt d) : Con Tryz.prog 208 [agD (typF t), agD (docF d), .one (.clo 209 [.key 0])] [(0, .box 263 [.key 1]), (1, fltR [])] 2 (.tup []) [(0, .box 263 [.key 2]), (2, fltR (errs 12 t d))] 3 := by
  refine fnH Tryz.func208 Tryz.ntmps208 (h := fun S w0 β0 X => ?_)
  have hle := errs_len3 (n := 12) ht.facts.1 hd
  have s3 : Stop 3 := ⟨⟩
  refine GO ?_
  clear s3
  refine W.frzB 6 [cloD 234 []] (h := ?_)
  refine GO ?_
  refine Ch.p (OpT.clo' (cs := [.key 5, .one belD, .key 4])) ⟨rfl, rfl, rfl, trivial⟩ ?_
  refine GO ?_
  refine Ch.p (OpT.clo' (cs := [.key 4, .key 7, .key 5, .one belD])) ⟨rfl, rfl, rfl, rfl, trivial⟩ ?_
  refine GO ?_
  refine Ch.dyn [0, 1, 4, 5, 7] (ts := [_, _, _]) (cs := [.key 2, .key 4, .key 3, .one belD]) ((chAtC hI 12 t d 0 [] ht hd (by omega) (by simp; omega)).arg (.same (.same (.less nil_strsU (.same (.same (.same (.same .nil)))))))) (r := ?_)
  refine GO ?_
  refine W.swap 2 8 (h := ?_)
  exact finH0n
set_option maxRecDepth 10000 in
theorem allC (t : Typ) (d : Doc) (hI : ItoaH) (ht : t.fit) (hd : d.fit) : ∀ n, Con Tryz.prog 195 [agD (typF t), agD (docF d)] [] n (dT (fltsD (allE t d))) [] n := by
  refine fnI Tryz.func195 Tryz.ntmps195 (h := fun S w0 β0 X => ?_)
  refine GO ?_
  refine Ch.c (vrightC t d ht hd) (r := ?_)
  refine GO ?_
  cases hb : bothRight t d
  · refine GO ?_
    refine Ch.p (OpT.slice1' (hs := asAg (l := [lit (.slice none 0 0), i64 1]) rfl)) ⟨rfl, trivial⟩ ?_
    refine GO ?_
    refine W.less 4 (fltsD [1]) rfl (sl_less1 rfl fun w us h => ?_) ?_
    · match us, h with
      | [a, b], h => exact ⟨strsU_up (Nat.zero_le _) (nil_strsU w a h.1), h.2⟩
    exact fin1 (he := by rw [allE, hb]; rfl)
  · have h1 := right_parts hb
    have hb2 := hb
    simp only [bothRight, Bool.and_eq_true] at hb
    have s4 : Stop 4 := ⟨⟩
    refine GO ?_
    refine W.nilB 2 0 244 2 (h := ?_)
    clear s4
    refine GO ?_
    refine Ch.p (OpT.clo' (cs := [.key 2])) ⟨rfl, trivial⟩ ?_
    refine Ch.ch [2, 3] (checkC t d hI ⟨hb.1, h1.2.1⟩ ⟨h1.2.2.2.2, h1.2.2.2.1⟩) (r := ?_)
    refine GO ?_
    refine W.frz 4 (h := ?_)
    exact fin1 (he := by rw [allE, hb2]; rfl)
def fltH : List Int → List D
  | [] => [lit (.slice none 0 0), i64 0]
  | e :: _ => fltD e
set_option maxRecDepth 10000 in
theorem vCheckC (t : Typ) (d : Doc) (hI : ItoaH) (ht : t.fit) (hd : d.fit) : ∀ n, Con Tryz.prog 178 [agD (typF t), agD (docF d)] [] n (agD (fltH (allE t d))) [] n := by
  refine fnI Tryz.func178 Tryz.ntmps178 (hko := agD_keys) (h := fun S w0 β0 X => ?_)
  refine GO ?_
  refine Ch.c (allC t d hI ht hd) (r := ?_)
  refine GO ?_
  cases hl : allE t d with
  | nil =>
    refine GO ?_
    exact fin1
  | cons e l =>
    have h0 : (e :: l)[0]? = some e := rfl
    refine GO ?_
    exact fin1
set_option maxRecDepth 10000 in
theorem isC (t : Typ) (d : Doc) (hI : ItoaH) (ht : t.fit) (hd : d.fit) : ∀ n, Con Tryz.prog 139 [agD (typF t), agD (docF d)] [] n (bT (isOf t d)) [] n := by
  refine fnI Tryz.func139 Tryz.ntmps139 (h := fun S w0 β0 X => ?_)
  refine GO ?_
  refine Ch.c (vCheckC t d hI ht hd) (r := ?_)
  refine GO ?_
  rw [isOf_head]
  cases hl : allE t d with
  | nil =>
    refine GO ?_
    exact finB (he := by rfl)
  | cons e l =>
    refine GO ?_
    exact finB (he := by rfl)
end Go.Proofs.YtelkpflpgpdkdaaGreatDoor
namespace Go.Sv
open Go
theorem all2_less {α β : Type} {R S : α → β → Prop} : ∀ {l m : List α}, All2 (fun a b => ∀ v, R a v → S b v) l m → ∀ {vs : List β}, All2 R l vs → All2 S m vs
  | [], [], _, [], _ => trivial
  | _ :: _, _ :: _, h, _ :: _, h2 => ⟨h.1 _ h2.1, all2_less h.2 h2.2⟩
def T.Less (s t : T) : Prop := ∀ β w v, T.is β w s v → T.is β w t v
theorem T.Less.refl (t : T) : T.Less t t := fun _ _ _ h => h
theorem T.Less.ag {cs ds : List D} (hw : ∀ w us, Cells w cs us → Cells w ds us) : T.Less (agD cs) (agD ds) := fun _ _ _ ⟨us, h1, h2⟩ => ⟨us, h1, all2_map.2 (hw _ _ (all2_map.1 h2))⟩
theorem Con.argL {P : Program} {f : FuncId} {args args' : List T} {H0 H1 : HL} {n0 n1 : Nat} {out : T} (h : Con P f args' H0 n0 out H1 n1) (ha : All2 T.Less args args') : Con P f args H0 n0 out H1 n1 :=
  ⟨h.1, h.2.1, fun β S w vs hv hO => h.2.2 β S w vs (all2_less (ha.mono fun _ _ h v => h _ _ v) hv) hO⟩
abbrev nilD : D := lit (.slice none 0 0) rfl
theorem nil_sl (k : Nat) (w : World) (v : Value) (h : nilD.is w v) : (sl k []).is w v := ⟨none, 0, h, Nat.le_refl _, by unfold maxLen; decide, fun j l h => by simp at h⟩
section
variable {P : Program} [Lays P] {ops : Array Oper} {n : Nat} {d : Option Tmp} {ty : TypeId} {pos : String} {af : Array Edge} {x : Operand}
theorem OpT.fieldG {t k f off ft : Nat} {fl : List (Nat × Nat)} {z : List ZK} {lf : Lay} {cs : List C} (ht : lay P t = some ⟨.struct, k, fl, z⟩ := by rfl) (hf : fl[f]? = some (off, ft) := by rfl) (hl : lay P ft = some lf := by rfl) (ha : lf.kind.agg = true := by rfl) :
    OpT P ops (mkO d (.field t x f) ty pos af) n [(x, .ag cs)] [] [] (.ag ((cs.drop off).take lf.size)) [] n := .runs rfl (fun h κ hκ => h _ (List.mem_singleton.2 rfl) κ (mem_drop_take hκ)) fun β V w A _ h => by
  obtain ⟨us, e1, h3⟩ := in1 h
  refine ⟨.agg ((us.drop off).take lf.size).toArray, ?_, _, rfl, All2.take _ (All2.drop off h3)⟩
  obtain ⟨fs, h6, h7⟩ := lay_struct ht
  rw [← h7] at hf
  simp only [List.getElem?_map, Option.map_eq_some_iff, Array.getElem?_toList] at hf
  obtain ⟨g, h8, h9⟩ := hf
  have h10 : g.offset = off := congrArg (·.1) h9
  have h11 : g.type = ft := congrArg (·.2) h9
  have hag : (isAgg ft).run P w = .ok true w := by
    obtain ⟨d', i, z', hd, hi, ⟨h1, _⟩, h2, _⟩ := lay_all hl
    obtain ⟨kk, nn, ff, zz⟩ := lf
    cases kk <;> cases d' <;> simp_all [isAgg, Sem.run_bind, run_underlying hd w, LK.agg, lkB]
  simp [execOp, e1, Instr.field, Sem.run_bind, run_underlying h6 w, h8, asAgg, part, h11, h10, hag, lay_size hl w, List.take_drop, Nat.add_comm]
end
section
variable {P : Program} {ops : Array Oper} {n : Nat} {d : Option Tmp} {ty : TypeId} {pos : String} {af : Array Edge} {x : Operand}
theorem OpT.mth {f : FuncId} {xs : List Operand} {cs : List Cap} (hl : xs.length = cs.length := by rfl) : OpT P ops (mkO d (.makeFunc (.func f) xs.toArray #[]) ty pos af) n (xs.zip (cs.map capU)) [] [] (.one (.mth f cs)) [] n := .runs rfl (fun h κ hκ => by
    obtain ⟨c, hc, hκ⟩ := List.mem_flatMap.1 hκ
    obtain ⟨i, hi, rfl⟩ := List.mem_iff_getElem.1 hc
    refine h (xs[i]'(by omega), capU cs[i]) (List.mem_iff_getElem.2 ⟨i, by simp; omega, by simp⟩) κ ?_
    cases hcc : cs[i] with
    | key κ' => rw [hcc] at hκ; exact hκ
    | one x => rw [hcc] at hκ; cases hκ
    | ag xs => rw [hcc] at hκ; cases hκ) fun β V w A _ h =>
  ⟨.func (.func f) (xs.map A.eval).toArray #[], by simp [execOp, Instr.makeFunc], _, rfl, zip_all (fun c v => cap_is) hl h⟩
/-- A method value's call. -/
theorem OpT.dynM {f : FuncId} {xs : List Operand} {ts : List T} {cs : List Cap} {H0 H1 : HL} {out : T} {n0 n1 : Nat} {tys : Array TypeId} (ks : List Nat) (hc : Con P f (cs.map capU ++ ts) H0 n0 out H1 n1) (hl : xs.length = ts.length) (hks : ks.length = n0) (hkn : ∀ k ∈ ks, k < n) (hnd : ks.Nodup) (hB : belH n0 H0) (hcs : ∀ c ∈ cs, ∀ κ, c = .key κ → κ ∈ keys H0) :
    OpT P ops (mkO d (.call ⟨.value x, xs.toArray, tys⟩) ty pos af) n ((x, .one (.mth f (cs.map (Cap.ren (sig n0 n ks))))) :: xs.zip (ts.map (T.ren (sig n0 n ks)))) [] (renH (sig n0 n ks) H0) (out.ren (sig n0 n ks)) (renH (sig n0 n ks) H1) (n + (n1 - n0)) :=
  ⟨Nat.le_add_right _ _, fun β S w A K htin hb hO hK => by
    rw [if_pos (by simp [Region.wanted])]
    have hargs := zip_is (by simpa using hl) fun e he => htin e (List.mem_cons_of_mem _ he)
    obtain ⟨us, e1, h2⟩ := htin _ (List.mem_cons_self ..)
    have hcaps := caps_all h2 fun c hc κ hκ => by
      obtain ⟨c', hc', rfl⟩ := List.mem_map.1 hc
      cases c' with
      | key κ' =>
        cases hκ
        obtain ⟨e, he, rfl⟩ := mem_keys.1 (hcs _ hc' κ' rfl)
        exact own_one (hO.is (sig n0 n ks e.1, e.2.ren (sig n0 n ks)) (List.mem_map.2 ⟨e, he, rfl⟩)).2.2
      | one x => cases hκ
      | ag xs => cases hκ
    have hcm : (cs.map (Cap.ren (sig n0 n ks))).map capU = (cs.map capU).map (T.ren (sig n0 n ks)) := by
      rw [List.map_map, List.map_map]
      refine List.map_congr_left fun c _ => ?_
      cases c with
      | key κ => rfl
      | one x => rfl
      | ag xs => simp [capU, Cap.ren, T.ren, agD, C.ren, Function.comp_def]
    rw [hcm] at hcaps
    have hall := hcaps.append hargs
    have hcall := hc.at hks hkn hnd hB (β := β) (S := S) (w := w) (vs := us.toArray ++ xs.toArray.map A.eval) (by rw [List.map_append]; simpa using hall) hO
    unfold Oper.wp
    have he : (execOp A.eval (mkO d (.call ⟨.value x, xs.toArray, tys⟩) ty pos af)).run P w = .ok (.enter f (us.toArray ++ xs.toArray.map A.eval)) w := by
      simp only [execOp, resolve, e1, Deferred.ofValue, invoke, Sem.run_bind, Sem.run_pure, Result.andThen_ok, Array.append_empty, hc.1 _ w]
    rw [he]
    refine hcall.mono ?_
    rintro e w' ⟨v, β', rfl, k1, k2, k3, k4, k5, k6⟩
    exact hK v β' w' k1 k2 k3 k4 k5 k6⟩
theorem equal_func {w : World} {t : TypeId} {ps rs : Array TypeId} {v : Bool} (h : P.underlying t = some (.func ps rs v)) (d : Nat) (f : Fn) (us vs : Array Value) : (Op.equalIn (d + 1) t (.func f us vs) .nilFunc).run P w = .ok false w := by simp [Op.equalIn, run_underlying h]
theorem equal_func0 {w : World} {t : TypeId} {ps rs : Array TypeId} {v : Bool} (h : P.underlying t = some (.func ps rs v)) (d : Nat) : (Op.equalIn (d + 1) t .nilFunc .nilFunc).run P w = .ok true w := by simp [Op.equalIn, run_underlying h]
theorem OpT.eqNilM {f : FuncId} {cs : List Cap} {t t' : TypeId} {y : Operand} {h1 : Value.oneCell' .nilFunc = true} {ps rs : Array TypeId} {v : Bool} (ht : P.underlying t = some (.func ps rs v)) : OpT P ops (mkO d (.binOp .eql t x y t') ty pos af) n [(x, .one (.mth f cs)), (y, dT (lit .nilFunc h1))] [] [] (bT false) [] n := .runs rfl (fun _ => bel0 rfl) fun β V w A _ h => by
  obtain ⟨⟨us, e1, _⟩, h4⟩ := in2 h
  have hu : (Op.equal t (.func (.func f) us.toArray #[]) .nilFunc).run P w = .ok false w := equal_func ht 9999 _ _ _
  have e2 : A.eval y = .nilFunc := h4
  exact ⟨.bool false, by simp [execOp, e1, e2, eqGuard, binOp, hu], rfl⟩
theorem OpT.eqNilN {t t' : TypeId} {y : Operand} {h1 h2 : Value.oneCell' .nilFunc = true} {ps rs : Array TypeId} {v : Bool} (ht : P.underlying t = some (.func ps rs v)) : OpT P ops (mkO d (.binOp .eql t x y t') ty pos af) n [(x, dT (lit .nilFunc h1)), (y, dT (lit .nilFunc h2))] [] [] (bT true) [] n := .runs rfl (fun _ => bel0 rfl) fun β V w A _ h => by
  obtain ⟨h3, h4⟩ := in2 h
  have hu : (Op.equal t .nilFunc .nilFunc).run P w = .ok true w := equal_func0 ht 9999
  have e1 : A.eval x = .nilFunc := h3
  have e2 : A.eval y = .nilFunc := h4
  exact ⟨.bool true, by simp [execOp, e1, e2, eqGuard, binOp, hu], rfl⟩
end
section
variable {P : Program} {ops : Array Oper} {n : Nat} {d : Tmp} {ty : TypeId} {pos : String} {af : Array Edge} {x : Operand} {F : FL} {H H2 : HL} {acc : List Acc} {l : List Oper} {out : T} {Fin : Nat → FL → HL → List Acc → Prop}
theorem Ch.dynM {f : FuncId} {xs : List Operand} {ts : List T} {cs : List Cap} {H0 H1 : HL} {n0 n1 : Nat} {tys : Array TypeId} (ks : List Nat) (hc : Con P f (cs.map capU ++ ts) H0 n0 out H1 n1) (hl : xs.length = ts.length := by rfl) (hks : ks.length = n0 := by rfl) (hkn : ∀ k ∈ ks, k < n := by decide) (hnd : ks.Nodup := by decide) (hB : belH n0 H0 := by (repeat (first | exact belH_nil | refine belH_cons (blt_of (by rfl)) (by first | exact bel0 rfl | exact bel0 agD_keys | exact belR (by rfl)) ?_)))
    (hcs : ∀ c ∈ cs, ∀ κ, c = .key κ → κ ∈ keys H0 := by simp [keys])
    (hF : Tin F ((x, .one (.mth f (cs.map (Cap.ren (sig n0 n ks))))) :: xs.zip (ts.map (T.ren (sig n0 n ks)))) := by first | exact ⟨rfl, trivial⟩ | exact ⟨rfl, rfl, trivial⟩ | exact ⟨rfl, rfl, rfl, trivial⟩ | exact ⟨rfl, rfl, rfl, rfl, trivial⟩) (hO : OutL (renH (sig n0 n ks) H0) H H2 := by (repeat (first | exact OutL.nil | apply OutL.cons | exact Out.here (by rfl) | (apply Out.there; rfl))))
    (r : Ch P ops Fin l (n + (n1 - n0)) ((d, out.ren (sig n0 n ks)) :: F) (renH (sig n0 n ks) H1 ++ H2) (acc ++ [Rec.acc ⟨(x, .one (.mth f (cs.map (Cap.ren (sig n0 n ks))))) :: xs.zip (ts.map (T.ren (sig n0 n ks))), [], renH (sig n0 n ks) H0, out.ren (sig n0 n ks), renH (sig n0 n ks) H1, n, n + (n1 - n0)⟩ (some d)])) : Ch P ops Fin (mkO (some d) (.call ⟨.value x, xs.toArray, tys⟩) ty pos af :: l) n F H acc :=
  .step _ [] _ _ _ _ (.dynM ks hc hl hks hkn hnd hB hcs) hF.all (fun e he => hO.mem.1 e he) _ hO.upd r
end
/-- Whatever number. -/
def intA : D := ⟨fun _ v => ∃ n, v = .int .i64 n, fun _ h => h, fun ⟨_, h⟩ => h ▸ rfl⟩
theorem int_intA {n : Int} (w : World) (v : Value) (h : (i64 n).is w v) : intA.is w v := ⟨n, h⟩
end Go.Sv
namespace Go.Sv
open Go
open Go.RowKit
theorem lie_at {w : World} {b o j : Nat} {us : List Value} {u : Value} (h : Lie w b o us) (hu : us[j]? = some u) : Lie w b (o + j) [u] := fun i v hi => by
  cases i with
  | zero => cases hi; exact h j u hu
  | succ i => simp at hi
section
variable {P : Program} [Lays P] {ops : Array Oper} {n : Nat} {d : Option Tmp} {ty : TypeId} {pos : String} {af : Array Edge} {x y : Operand}
theorem OpT.idxArr {t e len : Nat} {lk : LK} {fl : List (Nat × Nat)} {z : List ZK} {l : List D} {i : Int} {ki : IntKind} {c : D} (j : Nat) (hij : i = (j : Int)) (hj : j < len) (hc : l[j]? = some c) (ht : P.underlying t = some (.array len e)) (hl : lay P e = some ⟨lk, 1, fl, z⟩ := by rfl) :
    OpT P ops (mkO d (.indexAddr t x y) ty pos af) n [(x, dT (adr l)), (y, dT (lit (.int ki i)))] [] [] (dT (adr [c])) [] n := .runD rfl fun β V w A _ h => by
  obtain ⟨⟨b, o, us, e1, h2, h3⟩, h4⟩ := in2 h
  have e2 : A.eval y = .int ki i := h4
  subst hij
  obtain ⟨u, h5, h6⟩ := All2.get h3 hc
  refine ⟨.pointer (some ⟨b, o + j, none⟩), ?_, b, o + j, [u], rfl, lie_at h2 h5, h6, trivial⟩
  have hadd : (⟨b, o, none⟩ : Addr).add j = ⟨b, o + j, none⟩ := Addr.add_mid b o j
  simp [execOp, e1, e2, Instr.indexAt, asIntOf, Instr.sureAddr, Sem.run_bind, run_underlying ht w, lay_size hl w, hj, hadd]
theorem OpT.sliceArr {t e len : Nat} {lk : LK} {fl : List (Nat × Nat)} {z : List ZK} {l : List D} (hlen : l.length = len) (hm : len ≤ 1000) (ht : P.underlying t = some (.array len e)) (hl : lay P e = some ⟨lk, 1, fl, z⟩ := by rfl) :
    OpT P ops (mkO d (.slice t x none none none) ty pos af) n [(x, dT (adr l))] [] [] (dT (sl 1 (l.map fun d => [d]))) [] n := .runD rfl fun β V w A _ h => by
  obtain ⟨b, o, us, e1, h2, h3⟩ := in1 h
  refine ⟨.slice (some ⟨b, o, none⟩) len len, ?_, some ⟨b, o, none⟩, len, by rw [List.length_map, hlen], by rw [List.length_map, hlen]; exact Nat.le_refl _, by unfold maxLen; omega, fun j d hd => ?_⟩
  · have hadd : (⟨b, o, none⟩ : Addr).add 0 = ⟨b, o, none⟩ := Addr.add_mid b o 0
    simp [execOp, e1, hadd, Instr.sliceAt, Instr.sureAddr, Instr.sliceBounds, Sem.run_bind, run_underlying ht w, lay_size hl w]
  · obtain ⟨x, hx, rfl⟩ := List.getElem?_map .. ▸ hd |> Option.map_eq_some_iff.1
    obtain ⟨u, h4, h5⟩ := All2.get h3 hx
    exact ⟨rfl, b, o, [u], rfl, by rw [Nat.mul_one]; exact lie_at h2 h4, h5, trivial⟩
end
section
variable {P : Program} {ops : Array Oper} {n : Nat} {d : Option Tmp} {ty : TypeId} {pos : String} {af : Array Edge} {x : Operand}
end
end Go.Sv
namespace Go.Sv
open Go
open Go.RowKit
inductive Lend : List T → HL → List T → Prop
  | nil : Lend [] [] []
  | same {t : T} {l m : List T} {H : HL} (hk : t.keys = []) (h : Lend l H m) : Lend (t :: l) H (t :: m)
  | row {κ e k : Nat} {ls : List (List D)} {l m : List T} {H : HL} (h : Lend l H m) : Lend (.one (.key κ) :: l) ((κ, .row e k ls) :: H) (dT (sl k ls) :: m)
theorem Lend.is {β : Env} {H : HL} {S : List Nat} {w : World} {n : Nat} (hO : Owns β n S H w) {l m : List T} {H' : HL} (h : Lend l H' m) : (∀ e ∈ H', e ∈ H) → ∀ {vs : List Value}, All2 (fun t v => T.is β (View β H S w) t v) l vs → All2 (fun t v => T.is β (View β [] S w) t v) m vs := by
  have hV : Sub (View β H S w) (View β [] S w) := hide_sub (Kept.refl [] w) fun q _ hq => ⟨by simp, fun hm => hq (List.mem_append_right _ hm)⟩
  induction h with
  | nil => intro _ vs h; cases vs with
    | nil => trivial
    | cons => exact h.elim
  | same hk _ ih => intro hH vs; cases vs with
    | nil => exact fun h => h
    | cons v vs => exact fun h => ⟨T.keep (fun κ hκ => by simp [hk] at hκ) hV h.1, ih hH h.2⟩
  | row _ ih => intro hH vs; cases vs with
    | nil => exact fun h => h
    | cons v vs =>
      intro h
      refine ⟨?_, ih (fun e he => hH e (List.mem_cons_of_mem _ he)) h.2⟩
      have hm := hH _ (List.mem_cons_self ..)
      obtain ⟨_, _, h3⟩ := hO.is _ hm
      rw [show v = β _ from h.1.1]
      refine row_sl hV h3 fun g hg => ?_
      have hn := hO.out g (mem_blks.2 ⟨_, hm, hg⟩)
      show (hide ([] ++ S) w).heap[g]? = _
      rw [hide_at, List.nil_append]
      cases w.heap[g]? with
      | none => rfl
      | some x => simp [hn]
end Go.Sv

