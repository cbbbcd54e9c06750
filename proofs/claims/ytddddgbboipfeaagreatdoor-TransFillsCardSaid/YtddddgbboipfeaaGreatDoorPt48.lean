/- Part 48 of what TransFills asks: for every input it returns true, and its input reads as it did. No condition. -/
import Derived.Test.YtddddgbboipfeaaGreatDoorPt33
import Derived.Test.YtddddgbboipfeaaGreatDoorPt36
import Derived.Test.YtddddgbboipfeaaGreatDoorPt40
import Derived.Test.YtddddgbboipfeaaGreatDoorPt42
import Derived.Test.YtddddgbboipfeaaGreatDoorPt43
import Derived.Test.YtddddgbboipfeaaGreatDoorPt45
import Derived.Test.YtddddgbboipfeaaGreatDoorPt46
import Derived.Test.YtddddgbboipfeaaGreatDoorPt47
namespace Go.Proofs.YtddddgbboipfeaaGreatDoor
open Go.Sv
set_option maxRecDepth 10000 in
set_option maxHeartbeats 4000000 in
theorem rfillC (r : Registry) (hG : RegG r) (hfor : Forest r.joins) (hin : InR r.schemas.length r.joins) (hlen : r.schemas.length ≤ 12 ∧ r.joins.length ≤ 12) : ∀ (N k : Nat) (come : Int) (s : State), k < r.schemas.length → connN r.schemas.length r.joins come k ≤ N → (∀ (c : Nat) l, (c : Int) = come → r.joins[c]? = some l → ∃ o, l.between o k) → StS s →
    ∀ n, Con Tryz.prog 25 [agD (regF r), iT (k : Int), agD (stateF s), iT come] [] n (stU (fillN cvR r N k come s)) [] n
  | 0, k, come, s, hk, hc, _, _ => by
    have := connN_pos (n := r.schemas.length) (js := r.joins) (x := come) (a := (k : Int)) (by omega)
    omega
  | N + 1, k, come, s, hk, hc, hcome, hs => by
    have ih := rfillC r hG hfor hin hlen N
    have hx := List.getElem?_eq_getElem hk
    generalize r.schemas[k] = x at hx
    have hxt := hG.ok.typs x (List.mem_of_getElem? hx)
    have hfi := r11fineC r k s k x rfl hx hxt hs.fit
    have har := rhopsC r k (by omega)
    have hty := r11typC r k k x rfl hx
    have hLG : arnd (hopsR (k : Int)) 0 r.joins = hopsAt r k := arnd_congr fun m j hj => by
      obtain ⟨i, hi⟩ := List.mem_iff_getElem?.1 hj
      exact (hops_same (hfor.apart hi)).2
    have hp : fillN cvR r (N + 1) k come s = if fineE x.typ s = 0 then overHops (thereS cvR r (fillN cvR r N) k) come (hopsAt r k) s else (zeroS, fineE x.typ s) := by
      rw [fillN, typAt_eq hx]
      by_cases h0 : fineE x.typ s = 0
      · rw [if_neg (fun h => h h0), if_pos h0]
      · rw [if_pos h0, if_neg h0]
    have hL : ∀ h ∈ hopsAt r k, ∃ m j, h.join = (m : Nat) ∧ r.joins[m]? = some j ∧ j.between k (hopTo r.joins h) := fun h hh => hopsG_mem hh
    have hLn : (hopsAt r k).length ≤ 12 := Nat.le_trans (arnd_len (k : Int) r.joins 0) hlen.2
    rw [hLG] at har
    generalize hopsAt r k = L at *
    generalize fineE x.typ s = fe at *
    refine fnI Tryz.func25 Tryz.ntmps25 (h := fun S w0 β0 X => ?_)
    rw [stU_e hp]
    refine GO ?_
    refine Ch.c (hfi) (r := ?_)
    refine GO ?_
    refine W.cond rfl (fun hfe => ?_) (fun hfe => ?_)
    · rw [stU_e (if_neg (by simpa using hfe))]
      refine GO ?_
      refine W.boxL 2 zS (stateF zeroS) nil_state (h := ?_)
      exact fin2
    rw [stU_e (if_pos (by simpa using hfe))]
    clear hp hfi hfe
    obtain ⟨p, hp⟩ : ∃ p, p = overHops (thereS cvR r (fillN cvR r N) k) come L s := ⟨_, rfl⟩
    rw [← hp]
    refine GO ?_
    refine Ch.c (har) (r := ?_)
    refine GO ?_
    refine W.lpG (fun a : Nat × State => a.1 ≤ L.length ∧ StS a.2 ∧ p = overHops (thereS cvR r (fillN cvR r N) k) come (L.drop a.1) a.2) (fun a => [(12, iT a.1)]) [(1, _), (3, _), (4, _), (6, _), (8, _), (11, _)] (fun a => [(1, .box 32 ((stateF a.2).map C.d))]) [(0, _), (2, _)] (fun a => L.length - a.1) (0, s) (⟨Nat.zero_le _, hs, hp⟩) (round := fun a hI => ?_)
    obtain ⟨i, s1⟩ := a
    obtain ⟨hi, hs1, hq⟩ := hI
    replace hs1 : StS s1 := hs1
    simp only at hi hq ⊢
    clear hp
    by_cases hlt : i < L.length
    · have hh := List.getElem?_eq_getElem hlt
      generalize L[i] = h at hh
      have hd := drop_at hh
      obtain ⟨m, j, hm, hjm, hbt⟩ := hL h (List.mem_of_getElem? hh)
      obtain ⟨hj, bk⟩ := h
      simp only at hm
      subst hm
      rw [hd, over_next'] at hq
      refine GO ?_
      refine W.cond rfl (fun hcm => ?_) (fun hcm => ?_)
      · have hcm : (m : Int) = come := by simpa using hcm
        rw [if_pos hcm] at hq
        refine GO ?_
        exact W.ag (i + 1, s1) ⟨hlt, hs1, hq⟩ (by simp only; omega)
      have hcm : ¬ (m : Int) = come := by simpa using hcm
      rw [if_neg hcm] at hq
      have htt : hopTo r.joins ⟨(m : Int), bk⟩ = hopEnd j bk := by unfold hopTo hopEnd; simp only [Int.toNat_natCast, hjm]
      rw [htt] at hbt
      have hrg := hin j (List.mem_of_getElem? hjm)
      obtain ⟨kt, hkt⟩ := Int.eq_ofNat_of_zero_le (show 0 ≤ hopEnd j bk by rcases hbt with ⟨_, e⟩ | ⟨e, _⟩ <;> omega)
      have hktl : kt < r.schemas.length := by rcases hbt with ⟨_, e⟩ | ⟨e, _⟩ <;> omega
      have hy := List.getElem?_eq_getElem hktl
      generalize r.schemas[kt] = y at hy
      have hyt := hG.ok.typs y (List.mem_of_getElem? hy)
      have hjf := (regG_lens hG hjm).1
      have hless : connN r.schemas.length r.joins m kt ≤ N := by
        have h1 := hfor.less (n := r.schemas.length) hjm hbt hcm hcome (by omega)
        rw [hkt] at h1
        omega
      have hcm2 : ∀ (c : Nat) l, (c : Int) = (m : Int) → r.joins[c]? = some l → ∃ o, l.between o kt := fun c l e hl => by
        have : c = m := by omega
        subst this
        rw [hjm] at hl
        cases hl
        exact ⟨k, by rw [← hkt]; exact hbt⟩
      have hT := (rfl : thereS cvR r (fillN cvR r N) k ⟨(m : Int), bk⟩ s1 = thereS cvR r (fillN cvR r N) k ⟨(m : Int), bk⟩ s1)
      conv at hT => rhs; rw [thereS]
      simp only [joinAt_eq hjm, hkt, hopS, needed, typAt_eq hx, typAt_eq hy] at hT
      obtain ⟨hn1, hn2⟩ := need_fit cvR_ok (t := x.typ) (l := j.lens) (ed := (m : Int)) (bk := bk) hs1.1.doc
      have hnc := rNeedsC x.typ j.lens m bk s1.doc hxt hjf hs1.1.doc
      have hec := r11endC r ⟨m, bk⟩ m j rfl hjm
      simp only [hkt] at hec
      have hty2 := r11typC r kt kt y rfl hy
      generalize needS cvR x.typ j.lens m bk s1.doc = nl at *
      have hpt := puts_take hs1 hn1 hn2
      refine GO ?_
      refine Ch.c (hty) (r := ?_)
      refine GO ?_
      refine Ch.c (hnc) (r := ?_)
      refine GO ?_
      refine W.lpG ((· ≤ nl.length)) (fun q => [(16, iT q)]) [(1, _), (3, _), (4, _), (6, _), (8, _), (11, _), (12, _), (13, _), (14, _), (15, _)] (fun q => [(1, .box 32 ((stateF ((nl.take q).foldl putN s1)).map C.d))]) [(0, _), (2, _), (3, _)] (nl.length - ·) 0 (Nat.zero_le _) (round := fun q hq2 => ?_)
      by_cases hlt2 : q < nl.length
      · have hz := List.getElem?_eq_getElem hlt2
        generalize nl[q] = z at hz
        have hup : (nl.take (q + 1)).foldl putN s1 = putN ((nl.take q).foldl putN s1) z := foldl_snoc hz
        have hsf := hpt q
        generalize (nl.take q).foldl putN s1 = u at *
        refine GO ?_
        refine Ch.c (rfindC u.res z.edge z.step z.at_) (r := ?_)
        refine GO ?_
        refine W.cond rfl (fun h3 => ?_) (fun h3 => ?_)
        · have hup2 : (nl.take (q + 1)).foldl putN s1 = ⟨u.doc, resPut u.res z⟩ := by rw [hup, putN, if_pos (by simpa using h3)]
          refine GO ?_
          refine Ch.c (rputC u.res z (by have := hsf.len; omega)) (r := ?_)
          refine GO ?_
          refine W.ag (q + 1) hlt2 (by omega) (hH := ?_)
          simp only [hup2]
          (repeat (first | exact SubH.nil | refine SubH.cons rfl ?_))
        · have hup2 : (nl.take (q + 1)).foldl putN s1 = u := by rw [hup, putN, if_neg (by simpa using h3)]
          refine GO ?_
          refine W.ag (q + 1) hlt2 (by omega) (hH := ?_)
          simp only [hup2]
          (repeat (first | exact SubH.nil | refine SubH.cons rfl ?_))
      · obtain rfl : q = nl.length := by omega
        have hu := hpt nl.length
        rw [List.take_length] at hu ⊢
        generalize nl.foldl putN s1 = u at *
        have hg1 := rGoC x.typ j.lens m bk u hxt hjf hu
        have hs2 : StS (goS cvR x.typ j.lens m bk u).1 := goS_fit cvR_ok hu
        generalize goS cvR x.typ j.lens m bk u = p1 at *
        have hf1 := ih kt m p1.1 hktl hless hcm2 hs2
        have hs3 : StS (fillN cvR r N kt m p1.1).1 := fillN_fit cvR_ok N kt m p1.1 hs2
        generalize fillN cvR r N kt m p1.1 = p2 at *
        have hg2 := rGoC y.typ j.lens m (!bk) p2.1 hyt hjf hs3.1
        have hs4 : StS (goS cvR y.typ j.lens m (!bk) p2.1).1 := goS_fit cvR_ok hs3.1
        generalize goS cvR y.typ j.lens m (!bk) p2.1 = p3 at *
        refine GO ?_
        refine Ch.c (hty) (r := ?_)
        refine GO ?_
        refine Ch.c (hg1) (r := ?_)
        refine GO ?_
        refine W.cond rfl (fun g1 => ?_) (fun g1 => ?_)
        · have g1 : p1.2 ≠ 0 := by simpa using g1
          rw [if_pos g1] at hT
          rw [hT, if_neg g1] at hq
          refine GO ?_
          refine W.boxL 2 zS (stateF zeroS) nil_state (h := ?_)
          rw [stU_e hq]
          exact fin2
        rw [if_neg (by simpa using g1)] at hT
        refine GO ?_
        refine Ch.c (hec) (r := ?_)
        refine GO ?_
        refine Ch.c (hf1) (r := ?_)
        refine GO ?_
        refine W.cond rfl (fun g2 => ?_) (fun g2 => ?_)
        · have g2 : p2.2 ≠ 0 := by simpa using g2
          rw [if_pos g2] at hT
          rw [hT, if_neg g2] at hq
          refine GO ?_
          refine W.boxL 2 zS (stateF zeroS) nil_state (h := ?_)
          rw [stU_e hq]
          exact fin2
        rw [if_neg (by simpa using g2)] at hT
        refine GO ?_
        refine Ch.c (hec) (r := ?_)
        refine GO ?_
        refine Ch.c (hty2) (r := ?_)
        refine GO ?_
        refine Ch.c (hg2) (r := ?_)
        refine GO ?_
        refine W.cond rfl (fun g3 => ?_) (fun g3 => ?_)
        · have g3 : p3.2 ≠ 0 := by simpa using g3
          rw [hT, if_neg g3] at hq
          refine GO ?_
          refine W.boxL 2 zS (stateF zeroS) nil_state (h := ?_)
          rw [stU_e hq]
          exact fin2
        have g3 : p3.2 = 0 := by simpa using g3
        rw [hT, if_pos g3] at hq
        refine GO ?_
        exact W.ag (i + 1, p3.1) ⟨hlt, hs4, hq⟩ (by simp only; omega)
    · obtain rfl : i = L.length := by omega
      rw [List.drop_length, overHops] at hq
      rw [stU_e hq]
      refine GO ?_
      exact fin2
end Go.Proofs.YtddddgbboipfeaaGreatDoor
namespace Go.Proofs.YtddddgbboipfeaaGreatDoor
open Go.Sv
theorem rfill_c (r : Registry) (k : Int) (hG : RegG r) (h : mayE r k = 0) (s : State) (hs : StS s) : ∀ n, Con Tryz.prog 25 [agD (regF r), iT k, agD (stateF s), iT (-1)] [] n (stU (fillN cvR r 13 k (-1) s)) [] n := by
  obtain ⟨h1, h2, h3⟩ := mayE_zero h
  obtain ⟨q1, q2, q3, q4, _⟩ := regRight_ok h1
  obtain ⟨kn, rfl⟩ := Int.eq_ofNat_of_zero_le h2
  exact rfillC r hG q3 q4 ⟨q1, q2⟩ 13 kn (-1) s (by omega) (Nat.le_trans (connN_le _ _ _ _) (by omega)) (fun c l e _ => by omega) hs
theorem rright_c (r : Registry) (hG : RegG r) : ∀ n, Con Tryz.prog 24 [agD (regF r)] [] n (bT (regRight r)) [] n := rRightC r hG.ok.typs (fun j hj => (hG.ok.lens j hj).1) (by have := hG.ok.len; omega) (by have := hG.ok.len; omega)
set_option maxRecDepth 10000 in
set_option maxHeartbeats 1000000 in
theorem rFillC (r : Registry) (k : Int) (s : State) (hG : RegG r) (hs : StS s) : ∀ n, Con Tryz.prog 7 [agD (regF r), iT k, agD (stateF s)] [] n (stU (fillS cvR r k s)) [] n := by
  refine fnI Tryz.func7 Tryz.ntmps7 (h := fun S w0 β0 X => ?_)
  have hm := rright_c r hG
  have hfl := rfill_c r k hG
  have hq := (rfl : fillS cvR r k s = fillS cvR r k s)
  conv at hq => rhs; rw [fillS]
  have hme := (rfl : mayE r k = mayE r k)
  conv at hme => rhs; rw [mayE]
  generalize mayE r k = m at *
  refine GO ?_
  refine Ch.c (hm) (r := ?_)
  refine GO ?_
  refine W.cond rfl (fun h0 => ?_) (fun h0 => ?_)
  · rw [if_pos (by simpa using h0)] at hme
    subst hme
    rw [stU_e (hq.trans (if_pos (by decide)))]
    refine GO ?_
    refine W.boxL 2 zS (stateF zeroS) nil_state (h := ?_)
    exact fin2
  rw [if_neg (by simpa using h0)] at hme
  refine GO ?_
  refine W.cond rfl (fun h5 => ?_) (fun h5 => ?_)
  · rw [if_pos (by simp at h5; omega)] at hme
    subst hme
    rw [stU_e (hq.trans (if_pos (by decide)))]
    refine GO ?_
    refine W.boxL 2 zS (stateF zeroS) nil_state (h := ?_)
    exact fin2
  rw [if_neg (by simp at h5; omega)] at hme
  subst hme
  rw [if_neg (fun h => h rfl)] at hq
  have hs1 : StS (fillN cvR r 13 k (-1) s).1 := fillN_fit cvR_ok 13 k (-1) s hs
  have hf1 := hfl rfl s hs
  generalize fillN cvR r 13 k (-1) s = p1 at *
  have hf2 := hfl rfl p1.1 hs1
  refine GO ?_
  refine Ch.c (hf1) (r := ?_)
  refine GO ?_
  refine W.cond rfl (fun h1 => ?_) (fun h1 => ?_)
  · rw [stU_e (hq.trans (if_pos (by simpa using h1)))]
    refine GO ?_
    refine W.boxL 2 zS (stateF zeroS) nil_state (h := ?_)
    exact fin2
  · rw [stU_e (hq.trans (if_neg (by simpa using h1)))]
    refine GO ?_
    refine Ch.c (hf2) (r := ?_)
    refine GO ?_
    exact fin2
set_option maxRecDepth 10000 in
theorem rStartC (r : Registry) (k : Int) (d : Doc) (hG : RegG r) (hd : d.fit) : ∀ n, Con Tryz.prog 9 [agD (regF r), iT k, agD (docF d)] [] n (stU (fillS cvR r k ⟨d, []⟩)) [] n := by
  refine fnI Tryz.func9 Tryz.ntmps9 (h := fun S w0 β0 X => ?_)
  have hf := fun n => (rFillC r k ⟨d, []⟩ hG (stS_doc hd) n).argL (args := [agD (regF r), iT k, agD (docF d ++ [nilD])]) ⟨.refl _, .refl _, .ag (nil_docS d), trivial⟩
  refine GO ?_
  refine Ch.c (hf) (r := ?_)
  refine GO ?_
  exact fin2
set_option maxRecDepth 10000 in
set_option maxHeartbeats 1000000 in
theorem rSureC (r : Registry) (k : Int) (s : State) (hG : RegG r) (hs : StS s) (hr : regRight r = true) : ∀ n, Con Tryz.prog 31 [agD (regF r), iT k, agD (stateF s)] [] n (bT (wholeS cvR r k s)) [] n := by
  refine fnI Tryz.func31 Tryz.ntmps31 (h := fun S w0 β0 X => ?_)
  have hfl := rfill_c r k hG
  have hq := (rfl : wholeS cvR r k s = wholeS cvR r k s)
  conv at hq => rhs; rw [wholeS]
  have hme := (rfl : mayE r k = mayE r k)
  conv at hme => rhs; rw [mayE, if_neg (by rw [hr]; nofun)]
  generalize mayE r k = m at *
  refine GO ?_
  refine W.cond rfl (fun h5 => ?_) (fun h5 => ?_)
  · rw [if_pos (by simp at h5; omega)] at hme
    subst hme
    refine GO ?_
    exact finB (he := by rw [hq]; rfl)
  rw [if_neg (by simp at h5; omega)] at hme
  subst hme
  have hf1 := hfl rfl s hs
  have hf2 := fun n => (hfl rfl ⟨s.doc, []⟩ (stS_doc hs.1.doc) n).argL (args := [agD (regF r), iT k, agD (docF s.doc ++ [nilD]), iT (-1)]) ⟨.refl _, .refl _, .ag (nil_docS s.doc), .refl _, trivial⟩
  have hz1 : StS (fillN cvR r 13 k (-1) s).1 := fillN_fit cvR_ok 13 k (-1) s hs
  generalize fillN cvR r 13 k (-1) s = p1 at *
  generalize fillN cvR r 13 k (-1) ⟨s.doc, []⟩ = p2 at *
  rw [eqF_symm (fun a b => resLess_symm a b) p2.1.res s.res] at hq
  refine GO ?_
  refine Ch.c (hf1) (r := ?_)
  refine GO ?_
  refine Ch.c (hf2) (r := ?_)
  refine GO ?_
  refine W.cond rfl (fun h1 => ?_) (fun h1 => ?_)
  · have hb : wholeS cvR r k s = false := by
      rw [hq]
      cases hE : eqF (fun a b => resLess a b == 0) s.res p2.1.res
      · simp
      · have hel := eqF_len hE
        by_cases a1 : p1.2 = 0 <;> by_cases a2 : p2.2 = 0 <;> simp [a1, a2] at h1 ⊢
        exact absurd hel.symm (by omega)
    refine GO ?_
    exact finB (he := by rw [hb])
  have h1 : p1.2 = 0 ∧ p2.2 = 0 ∧ p2.1.res.length = s.res.length := by simp at h1; omega
  obtain ⟨g1, g2, g3⟩ := h1
  rw [g1, g2] at hq
  refine GO ?_
  refine W.lpG (fun i : Nat => i ≤ s.res.length ∧ eqF (fun a b => resLess a b == 0) s.res p2.1.res = eqF (fun a b => resLess a b == 0) (s.res.drop i) (p2.1.res.drop i)) (fun i => [(11, iT i)]) [(5, _), (7, _), (9, _)] (fun i => []) [(0, _), (1, _), (2, _), (3, _)] (s.res.length - ·) 0 (⟨Nat.zero_le _, rfl⟩) (round := fun i hI => ?_)
  obtain ⟨hi, he⟩ := hI
  have hln := hs.2
  by_cases hlt : i < s.res.length
  · have hx := List.getElem?_eq_getElem hlt
    generalize s.res[i] = x at hx
    have hy := List.getElem?_eq_getElem (show i < p2.1.res.length by omega)
    generalize p2.1.res[i]'(by omega) = y at hy
    rw [eqF_drop hx hy] at he
    refine GO ?_
    refine Ch.c (rlessC x y) (r := ?_)
    refine GO ?_
    refine W.cond rfl (fun h2 => ?_) (fun h2 => ?_)
    · refine GO ?_
      refine GO ?_
      exact finB (he := by rw [hq, he]; simp at h2 ⊢; simp [h2])
    · have h2 : resLess x y = 0 := by simpa using h2
      refine GO ?_
      exact W.ag (i + 1) ⟨hlt, by rw [he, h2]; rfl⟩ (by omega)
  · obtain rfl : i = s.res.length := by omega
    rw [List.drop_length, show p2.1.res.drop s.res.length = [] by rw [← g3, List.drop_length]] at he
    rw [he] at hq
    refine GO ?_
    refine Ch.c (rstSameC p1.1 s (by have := hz1.2; omega)) (r := ?_)
    refine GO ?_
    exact finB (he := by rw [hq]; simp [eqF])
set_option maxRecDepth 10000 in
set_option maxHeartbeats 1000000 in
theorem rWholeC (r : Registry) (k : Int) (s : State) (hG : RegG r) (hs : StS s) : ∀ n, Con Tryz.prog 12 [agD (regF r), iT k, agD (stateF s)] [] n (bT (wholeS cvR r k s)) [] n := by
  refine fnI Tryz.func12 Tryz.ntmps12 (h := fun S w0 β0 X => ?_)
  have hm := rright_c r hG
  refine GO ?_
  refine Ch.c (hm) (r := ?_)
  refine GO ?_
  refine Ch.gc (hc := fun h => rSureC r k s hG hs (by simpa using h)) (r := ?_)
  refine GO ?_
  refine finB (he := ?_)
  cases hr : regRight r
  · rw [wholeS, mayE, if_pos hr]; rfl
  · rfl
end Go.Proofs.YtddddgbboipfeaaGreatDoor
namespace Go.Proofs.YtddddgbboipfeaaGreatDoor
open Go.Sv
theorem nil_typ (k : Int) (w : World) (us : List Value) (h : Cells w [i64 k, i64 0, i64 0, nilD, nilD, nilD] us) : Cells w (typF (.mk k 0 0 [] [] [])) us := by
  match us, h with
  | [_, _, _, _, _, _], h => exact ⟨h.1, h.2.1, h.2.2.1, nil_sl 1 _ _ h.2.2.2.1, nil_sl 8 _ _ h.2.2.2.2.1, nil_sl 6 _ _ h.2.2.2.2.2.1, trivial⟩
def fldN : List D := [str sC, bl false, i64 5, i64 0, i64 0, nilD, nilD, nilD]
theorem nil_fld (w : World) (us : List Value) (h : Cells w fldN us) : Cells w (fldF (.mk sC false tyB)) us := by
  match us, h with
  | a :: b :: us, h => exact ⟨h.1, h.2.1, nil_typ 5 w us h.2.2⟩
theorem nil_tyT (w : World) (us : List Value) (h : Cells w [i64 1, i64 0, i64 0, nilD, sl 8 [fldN], nilD] us) : Cells w (typF tyT) us := by
  rw [show typF tyT = [i64 1, i64 0, i64 0, strsD [], sl 8 [fldF (.mk sC false tyB)], sl 6 []] by rw [← fldC_eq]; rfl]
  match us, h with
  | [_, _, _, _, _, _], h => exact ⟨h.1, h.2.1, h.2.2.1, nil_sl 1 _ _ h.2.2.2.1, sl_less1 (l := fldN) (l' := fldF (.mk sC false tyB)) rfl nil_fld _ _ h.2.2.2.2.1, nil_sl 6 _ _ h.2.2.2.2.2.1, trivial⟩
def lensN2 : List D := [i64 2, str sC, str ⟨#[]⟩, i64 5, i64 0, i64 0, nilD, nilD, nilD] ++ (docF (docB false) ++ [nilD, nilD])
theorem nil_lens2 (w : World) (us : List Value) (h : Cells w lensN2 us) : Cells w (lensF addC) us := by
  match us, h with
  | u0 :: u1 :: u2 :: u3 :: u4 :: u5 :: u6 :: u7 :: u8 :: us, h =>
    refine ⟨h.1, h.2.1, h.2.2.1, ?_⟩
    have h1 : Cells w [i64 5, i64 0, i64 0, nilD, nilD, nilD] [u3, u4, u5, u6, u7, u8] := ⟨h.2.2.2.1, h.2.2.2.2.1, h.2.2.2.2.2.1, h.2.2.2.2.2.2.1, h.2.2.2.2.2.2.2.1, h.2.2.2.2.2.2.2.2.1, trivial⟩
    have h2 : Cells w (docF (docB false) ++ [nilD, nilD]) us := h.2.2.2.2.2.2.2.2.2
    refine (All2.append (nil_typ 5 w _ h1) ?_ : Cells w (typF tyB ++ (docF (docB false) ++ [sl 2 [], sl 16 []])) ([u3, u4, u5, u6, u7, u8] ++ us))
    refine cells_app rfl (fun _ h => h) (fun us h => ?_) h2
    match us, h with
    | [_, _], h => exact ⟨nil_sl 2 _ _ h.1, nil_sl 16 _ _ h.2.1, trivial⟩
set_option maxRecDepth 10000 in
set_option maxHeartbeats 2000000 in
theorem twoC (hR : RawH) : ∀ n, Con Tryz.prog 13 [] [] n (agD (regF regTwo)) [] n := by
  refine fnI Tryz.func13 Tryz.ntmps13 (h := fun S w0 β0 X => ?_)
  have h1 := fun n => (gAddSC hR zeroR ⟨#[115]⟩ tyS regOk_z.typs regOk_z.lens (by have := regOk_z.len; omega) (by have := regOk_z.len; omega) fit_S n).argL (args := [agD [nilD, nilD], sT ⟨#[115]⟩, agD [i64 1, i64 0, i64 0, nilD, nilD, nilD]]) ⟨.ag (nil_reg), .refl _, .ag (nil_typ 1), trivial⟩
  have h2 := fun n => (gAddSC hR regS ⟨#[116]⟩ tyT regOk_s.typs regOk_s.lens (by have := regOk_s.len; omega) (by have := regOk_s.len; omega) fit_T n).argL (args := [agD (regF regS), sT ⟨#[116]⟩, agD [i64 1, i64 0, i64 0, nilD, sl 8 [fldN], nilD]]) ⟨.refl _, .refl _, .ag nil_tyT, trivial⟩
  have h3 := fun n => (gAddJC hR regT ⟨#[115]⟩ ⟨#[116]⟩ [addC] regOk_t.typs regOk_t.lens (by have := regOk_t.len; omega) (by have := regOk_t.len; omega) (regG_two.ok.lens ⟨0, 1, [addC]⟩ (List.mem_singleton.2 rfl)).1 wides_c n).argL (args := [agD (regF regT), sT ⟨#[115]⟩, sT ⟨#[116]⟩, dT (sl 16 [lensN2])]) ⟨.refl _, .refl _, .refl _, fun _ w v h => by rw [(rowLens [addC]).eq]; exact sl_less1 (l := lensN2) (l' := lensF addC) rfl nil_lens2 w v h, trivial⟩
  rw [add_1] at h1
  rw [add_2] at h2
  rw [add_3] at h3
  refine GO ?_
  refine Ch.c (h1) (r := ?_)
  refine GO ?_
  refine Ch.p (OpT.slice1' (hs := asAg (l := fldN) rfl)) ⟨rfl, trivial⟩ ?_
  refine GO ?_
  refine Ch.c (h2) (r := ?_)
  refine GO ?_
  refine Ch.c (docBoolC false) (r := ?_)
  refine GO ?_
  refine Ch.p (OpT.slice1' (hs := asAg (l := lensN2) rfl)) ⟨rfl, trivial⟩ ?_
  refine GO ?_
  refine Ch.c (h3) (r := ?_)
  refine GO ?_
  exact fin1
end Go.Proofs.YtddddgbboipfeaaGreatDoor
namespace Go.Sv
open Go
open Go.RowKit
theorem Ch.gbd1 {P : Program} [Lays P] {ops : Array Oper} {n : Nat} {d : Tmp} {ty t : TypeId} {pos : String} {af : Array Edge} {F : FL} {H : HL} {acc : List Acc} {l : List Oper} {tin0 : TL} {Fin : Nat → FL → HL → List Acc → Prop} {i0 : Nat} {x0 : Operand} {s0 : T} {j tj : Nat} {want c : Bool} {g : T} {k : Nat} {fl : List (Nat × Nat)} {zs : List ZK} {cs : List C} (hj : (ops[j]?).bind (·.dst) = some tj := by rfl) (hg : Gd F tj want c g := by first | exact .t rfl | exact .f rfl | exact .ot rfl | exact .of rfl) (hs : TinS c F tin0 [(x0, s0)] := by (repeat (first | exact TinS.nil | apply TinS.strip rfl | apply TinS.and rfl | apply TinS.same rfl))) (ht : lay P t = some ⟨.struct, k, fl, zs⟩ := by rfl) (hB : fldsB P fl = true := by rfl) (hb : buildC P fl (zeroC zs) [(i0, s0)] = some cs := by rfl) (hk : (T.ag cs).keys = [] := by first | rfl | exact agD_keys)
    (r : Ch P ops Fin l n ((d, .opt c (.ag cs)) :: F) H (acc ++ [Rec.acc ⟨(.tmp tj, g) :: tin0, [], [], .opt c (.ag cs), [], n, n⟩ (some d)])) : Ch P ops Fin (⟨some d, .build t #[(i0, x0)], ty, pos, af, some (j, want)⟩ :: l) n F H acc :=
  .g hj hg hs (fun _ => .build (xs := [(i0, x0)]) (ss := [s0]) rfl hb ht hB) hk r
end Go.Sv
namespace Go.Proofs.YtddddgbboipfeaaGreatDoor
open Go.Sv
theorem docE_fit : docE.fit := (stS_s false).1.doc
theorem docT_fit (b : Bool) : (docT b).fit := by
  refine ⟨?_, ?_⟩
  · cases b <;> simp [docT, docB, Doc.size, Doc.sizes]
  · simp [docT, docB, Doc.slim, Doc.slims]
theorem stS_t (b : Bool) : StS ⟨docT b, []⟩ := stS_doc (docT_fit b)
set_option maxRecDepth 10000 in
set_option maxHeartbeats 4000000 in
theorem smallC (hR : RawH) : ∀ n, Con Tryz.prog 4 [] [] n (bT true) [] n := by
  refine fnI Tryz.func4 Tryz.ntmps4 (h := fun S w0 β0 X => ?_)
  have c1 := twoC hR
  have cr1 := fun n => (docRecC [] [] rfl (Nat.zero_le _) nofun nofun n).argL (args := [dT nilD, dT nilD]) ⟨fun _ _ _ h => nil_sl 1 _ _ h, fun _ _ _ h => nil_sl 5 _ _ h, trivial⟩
  have cr2 := docRecC [sC] [docB true] rfl (by decide) (fun s hs => by rw [List.mem_singleton.1 hs]; decide) (fun d hd => by rw [List.mem_singleton.1 hd]; exact docB_fit true)
  rw [show recOf (fputs (([] : List Str).zip ([] : List Doc)) []) = docE from rfl] at cr1
  rw [show recOf (fputs ([sC].zip [docB true]) []) = docT true by kernel_rfl] at cr2
  rw [show docsC [docB true] = [docF (docB true)] by rw [← docC_eq]; rfl] at cr2
  have cs := tStartC regTwo 0 docE hR regG_two docE_fit
  rw [fillS_e] at cs
  have cg := tGoC regTwo 0 1 ⟨docE, [resC false]⟩ hR regG_two way_01 (stS_s false)
  rw [goT_01] at cg
  have cb := tGoC regTwo 1 0 ⟨docT false, []⟩ hR regG_two way_10 (stS_t false)
  rw [goT_10] at cb
  have cn := tSeenC regTwo 0 1 ⟨docE, [resC false]⟩ hR regG_two way_01 (stS_s false)
  rw [goT_01] at cn
  have ce := tEditC regTwo 0 1 ⟨docE, [resC false]⟩ (docT true) hR regG_two way_01 way_10 (stS_s false) (docT_fit true)
  rw [editT_01] at ce
  have cz := tGoC regTwo 0 2 ⟨docE, [resC false]⟩ hR regG_two way_02 (stS_s false)
  rw [goT_02] at cz
  have cw := wholeC regTwo 0 ⟨docE, [resC false]⟩ hR regG_two (stS_s false)
  rw [whole_s] at cw
  have cv := fun n => (wholeC regTwo 0 ⟨docE, []⟩ hR regG_two (stS_doc docE_fit) n).argL (args := [agD (regF regTwo), iT 0, agD (docF docE ++ [nilD])]) ⟨.refl _, .refl _, .ag (nil_docS docE), trivial⟩
  rw [whole_e] at cv
  have ca := asameC ⟨docE, [resC false]⟩ ⟨docE, [resC false]⟩
  rw [stateSame_refl] at ca
  refine GO ?_
  refine Ch.c (c1) (r := ?_)
  refine GO ?_
  refine Ch.c (cr1) (r := ?_)
  refine GO ?_
  refine Ch.c (cs) (r := ?_)
  refine GO ?_
  refine Ch.c (cg) (r := ?_)
  refine GO ?_
  refine Ch.c (cb) (r := ?_)
  refine GO ?_
  refine Ch.c (cn) (r := ?_)
  refine GO ?_
  refine Ch.c (docBoolC true) (r := ?_)
  refine GO ?_
  refine Ch.c (cr2) (r := ?_)
  refine GO ?_
  refine Ch.c (ce) (r := ?_)
  refine GO ?_
  refine Ch.c (cz) (r := ?_)
  refine GO ?_
  dsimp only [List.append]
  refine GO ?_
  refine Ch.gc (hc := fun _ => ca) (r := ?_)
  refine GO ?_
  refine Ch.g (h := fun _ => OpT.indexA (j := 0) (hj := rfl)) (r := ?_)
  refine GO ?_
  refine Ch.g (h := fun _ => OpT.indexA (j := 0) (hj := rfl)) (r := ?_)
  refine GO ?_
  refine Ch.gc (hc := fun _ => cw) (r := ?_)
  refine GO ?_
  refine Ch.gbd1 (r := ?_)
  refine GO ?_
  refine Ch.gc (hc := fun _ => cv) (r := ?_)
  refine GO ?_
  exact finB (he := by rfl)
end Go.Proofs.YtddddgbboipfeaaGreatDoor
namespace Go.Proofs.YtddddgbboipfeaaGreatDoor
open Go.Sv
set_option maxRecDepth 10000 in
set_option maxHeartbeats 2000000 in
theorem fillsC (hR : RawH) (r : Registry) (k : Int) (s : State) (hfew : fewBoth r s = true → RegG r) : ∀ n, Con Tryz.prog 3 [agD (regF r), iT k, agD (stateF s)] [] n (bT true) [] n := by
  refine fnI Tryz.func3 Tryz.ntmps3 (h := fun S w0 β0 X => ?_)
  refine GO ?_
  refine Ch.c (smallC hR) (r := ?_)
  refine GO ?_
  refine Ch.c (Few11C r s) (r := ?_)
  refine GO ?_
  cases hf : fewBoth r s with
  | false =>
    refine GO ?_
    exact finB (he := by rfl)
  | true =>
  have hG : RegG r := hfew hf
  have hs : StS s := by
    unfold fewBoth at hf
    rw [Bool.and_eq_true] at hf
    obtain ⟨h1, h2, h3⟩ := fewState_fit hf.2
    exact ⟨⟨h1, by omega, h3⟩, by omega⟩
  have hsd : StS ⟨s.doc, []⟩ := stS_doc hs.1.doc
  have c1 := tFillC r k s hR hG hs
  rw [fillS_same hs] at c1
  have c2 := rFillC r k s hG hs
  have c3 := tStartC r k s.doc hR hG hs.1.doc
  rw [fillS_same hsd] at c3
  have c4 := rStartC r k s.doc hG hs.1.doc
  have w1 := wholeC r k s hR hG hs
  rw [wholeS_same hs] at w1
  have w2 := rWholeC r k s hG hs
  have f1 : StS (fillS cvR r k s).1 := fillS_fitR hs
  have f2 : StS (fillS cvR r k ⟨s.doc, []⟩).1 := fillS_fitR hsd
  generalize fillS cvR r k s = p at *
  generalize fillS cvR r k ⟨s.doc, []⟩ = q at *
  generalize wholeS cvR r k s = bw at *
  have e1 := rstSameC p.1 p.1 (by have := f1.2; omega)
  rw [stateSame_refl] at e1
  have e2 := rstSameC q.1 q.1 (by have := f2.2; omega)
  rw [stateSame_refl] at e2
  refine GO ?_
  refine Ch.c (c1) (r := ?_)
  refine GO ?_
  refine Ch.c (c2) (r := ?_)
  refine GO ?_
  refine Ch.c (c3) (r := ?_)
  refine GO ?_
  refine Ch.c (c4) (r := ?_)
  refine GO ?_
  refine Ch.gc (hc := fun _ => e1) (r := ?_)
  refine GO ?_
  refine Ch.gc (hc := fun _ => e2) (r := ?_)
  refine GO ?_
  refine Ch.gc (hc := fun _ => w1) (r := ?_)
  refine GO ?_
  refine Ch.gc (hc := fun _ => w2) (r := ?_)
  refine GO ?_
  refine Ch.g (h := fun _ => OpT.eqB Tryz.underlying4) (r := ?_)
  refine GO ?_
  exact finB (he := by simp)
end Go.Proofs.YtddddgbboipfeaaGreatDoor
namespace Go.Proofs.YtddddgbboipfeaaGreatDoor
open Go.Sv
open Go.RowKit
theorem sn_get : ∀ (l : List (Int × Int)) (k : Nat) (p : Int × Int), l[k]? = some p → (swapNums l)[k * 2]? = some p.1 ∧ (swapNums l)[k * 2 + 1]? = some p.2
  | [], _, _, h => by simp at h
  | q :: l, 0, p, h => by
    rw [List.getElem?_cons_zero] at h
    cases h
    exact ⟨rfl, rfl⟩
  | q :: l, k + 1, p, h => by
    rw [List.getElem?_cons_succ] at h
    obtain ⟨h1, h2⟩ := sn_get l k p h
    rw [show (k + 1) * 2 = k * 2 + 1 + 1 by omega]
    exact ⟨h1, h2⟩
theorem swapsC : SwapsH := fun l t hl hn => Con.raw (enters_of Tryz.func285 (by kernel_rfl) rfl) fun β S w vs hv hg => by
  obtain ⟨vs⟩ := vs
  match vs, hv with
  | [v1, v2], hv =>
    obtain ⟨h1, h2, _⟩ := hv
    obtain ⟨a, c, rfl, _, _, hc⟩ := h1
    obtain ⟨us, rfl, hu⟩ := h2
    match us, hu with
    | [u0, u1, u2, u3, u4, u5], hu =>
      have e0 : u0 = .int .i64 t.kind := hu.1
      have e1 : u1 = .int .i64 t.lo := hu.2.1
      have e2 : u2 = .int .i64 t.hi := hu.2.2.1
      subst e0 e1 e2
      rw [List.length_map]
      refine (lswaps_raw t l u3 u4 u5 a c w hl hn fun k x y hx hy => ?_).mono ?_
      · have hk : k < l.length := by
          have := (List.getElem?_eq_some_iff.1 hx).1
          rw [swapNums_len] at this
          omega
        have hp := List.getElem?_eq_getElem hk
        generalize l[k] = p at hp
        obtain ⟨g1, g2⟩ := sn_get l k p hp
        cases (hx.symm.trans g1)
        cases (hy.symm.trans g2)
        obtain ⟨_, b, o, us, rfl, hl, hcs⟩ := hc k (swapF p) (by rw [List.getElem?_map, hp]; rfl)
        match us, hcs with
        | [w0, w1], hcs =>
          have f0 : w0 = .int .i64 p.1 := hcs.1
          have f1 : w1 = .int .i64 p.2 := hcs.2.1
          subst f0 f1
          refine ⟨b, o, rfl, ?_, ?_⟩
          · exact hide_shown.cell _ _ (hl 0 _ rfl)
          · exact hide_shown.cell _ _ (hl 1 _ rfl)
      · rintro e w' ⟨rfl, hE⟩
        exact ⟨_, rfl, ⟨hE.os, hE.tape, hE.output, hE.size, fun k hk _ => hE.block k hk⟩, rfl⟩
theorem rawC : RawH := ⟨delC, swapsC⟩
end Go.Proofs.YtddddgbboipfeaaGreatDoor
