/- Part 45 of what TransFills asks: for every input it returns true, and its input reads as it did. No condition. -/
import Derived.Test.YtddddgbboipfeaaGreatDoorPt30
import Derived.Test.YtddddgbboipfeaaGreatDoorPt37
import Derived.Test.YtddddgbboipfeaaGreatDoorPt40
import Derived.Test.YtddddgbboipfeaaGreatDoorPt44
namespace Go.Proofs.YtddddgbboipfeaaGreatDoor
open Go.Sv
abbrev fillCs (r : Registry) : List Cap := [.one (adr (regF r)), .key 1]
abbrev thereCs (r : Registry) : List Cap := [.one (adr (regF r)), .key 0]
abbrev fillH (r : Registry) : HL := [(0, .box 94 [.clo 49 (fillCs r)]), (1, .box 96 [.clo 47 (thereCs r)])]
theorem stU_e {t u : State × Int} (h : t = u) : stU t = stU u := by rw [h]
set_option maxRecDepth 10000 in
set_option maxHeartbeats 2000000 in
theorem thereC (r : Registry) (k i kt : Nat) (x y : Named) (j : Join) (bk : Bool) (s : State) (F : Int → Int → State → State × Int) (hR : RawH) (hG : RegG r) (hx : r.schemas[k]? = some x) (hj : r.joins[i]? = some j) (hkt : hopEnd j bk = (kt : Int)) (hy : r.schemas[kt]? = some y) (hs : StS s) (hFs : ∀ s, StS s → StS (F kt i s).1) (hc : ∀ s, StS s → Con Tryz.prog 49 ([iT (kt : Int), iT (i : Int), agD (stateF s)] ++ (fillCs r).map capU) (fillH r) 2 (stU (F kt i s)) (fillH r) 2) :
    Con Tryz.prog 47 ([iT (k : Int), agD (hopF ⟨i, bk⟩), agD (stateF s)] ++ (thereCs r).map capU) (fillH r) 2 (stU (thereS cvP r F k ⟨i, bk⟩ s)) (fillH r) 2 := by
  have hq := (rfl : thereS cvP r F k ⟨i, bk⟩ s = thereS cvP r F k ⟨i, bk⟩ s)
  conv at hq => rhs; rw [thereS]
  simp only [joinAt_eq hj, hkt] at hq
  have hn1 := needed_fit cvP_ok (r := r) (k := (k : Int)) (h := ⟨i, bk⟩) hs
  have hh1 := thopC r k i bk (needed cvP r k ⟨i, bk⟩ s) x j hR hG hx hj hn1
  have hn2 : StS (hopS cvP r k ⟨i, bk⟩ (needed cvP r k ⟨i, bk⟩ s)).1 := goS_fit cvP_ok hn1
  rw [hkt] at hh1
  refine fnH Tryz.func47 Tryz.ntmps47 (h := fun S w0 β0 X => ?_)
  refine GO ?_
  refine Ch.c (tneededC r k i bk s x j hR hG hx hj hs) (r := ?_)
  refine GO ?_
  refine Ch.c (hh1) (r := ?_)
  generalize hopS cvP r k ⟨i, bk⟩ (needed cvP r k ⟨i, bk⟩ s) = p1 at *
  refine GO ?_
  refine W.cond rfl (fun h0 => ?_) (fun h0 => ?_)
  · rw [stU_e (hq.trans (if_pos (by simpa using h0)))]
    refine GO ?_
    exact finH2
  rw [if_neg (by simpa using h0)] at hq
  have hn3 := hFs p1.1 hn2
  refine GO ?_
  refine Ch.dyn [0, 1] (ts := [iT (kt : Int), iT (i : Int), agD (stateF p1.1)]) (cs := fillCs r) (hc p1.1 hn2) (r := ?_)
  generalize F kt i p1.1 = p2 at *
  refine GO ?_
  refine W.cond rfl (fun h1 => ?_) (fun h1 => ?_)
  · rw [stU_e (hq.trans (if_pos (by simpa using h1)))]
    refine GO ?_
    exact finH2
  rw [if_neg (by simpa using h1)] at hq
  have hh2 := thopC r kt i (!bk) p2.1 y j hR hG hy hj hn3.1
  rw [stU_e hq]
  refine GO ?_
  refine Ch.c (hh2) (r := ?_)
  refine GO ?_
  exact finH2
theorem over_next' {T : Hop → State → State × Int} {come : Int} {h : Hop} {l : List Hop} {s : State} : overHops T come (h :: l) s = if h.join = come then overHops T come l s else if (T h s).2 = 0 then overHops T come l (T h s).1 else (zeroS, (T h s).2) := by
  rw [over_next]
  by_cases hz : (T h s).2 = 0
  · rw [if_neg (c := (T h s).2 ≠ 0) (fun e => e hz), if_pos hz]
  · rw [if_pos (c := (T h s).2 ≠ 0) hz, if_neg hz]
set_option maxRecDepth 10000 in
set_option maxHeartbeats 2000000 in
theorem fillC (r : Registry) (hR : RawH) (hG : RegG r) (hfor : Forest r.joins) (hin : InR r.schemas.length r.joins) (hlen : r.schemas.length ≤ 12 ∧ r.joins.length ≤ 12) : ∀ (n k : Nat) (come : Int) (s : State), k < r.schemas.length → connN r.schemas.length r.joins come k ≤ n → (∀ (c : Nat) l, (c : Int) = come → r.joins[c]? = some l → ∃ o, l.between o k) → StS s →
    Con Tryz.prog 49 ([iT (k : Int), iT come, agD (stateF s)] ++ (fillCs r).map capU) (fillH r) 2 (stU (fillN cvP r n k come s)) (fillH r) 2
  | 0, k, come, s, hk, hc, _, _ => by
    have := connN_pos (n := r.schemas.length) (js := r.joins) (x := come) (a := (k : Int)) (by omega)
    omega
  | N + 1, k, come, s, hk, hc, hcome, hs => by
    have ih := fillC r hR hG hfor hin hlen N
    have hx := List.getElem?_eq_getElem hk
    generalize r.schemas[k] = x at hx
    have hfi := tfineC r k s k x rfl hx (hG.ok.typs x (List.mem_of_getElem? hx)) hs.fit
    have har := taroundC r k (by omega)
    have hTS : ∀ h s, StS s → StS (thereS cvP r (fillN cvP r N) k h s).1 := fun h s hs => there_fit cvP_ok (fillN_fit cvP_ok N) hs
    have hLG : arnd (hopsT (k : Int)) 0 r.joins = hopsAt r k := arnd_congr fun m j hj => by
      obtain ⟨i, hi⟩ := List.mem_iff_getElem?.1 hj
      exact (hops_same (hfor.apart hi)).1
    have hp : fillN cvP r (N + 1) k come s = if fineE x.typ s = 0 then overHops (thereS cvP r (fillN cvP r N) k) come (hopsAt r k) s else (zeroS, fineE x.typ s) := by
      rw [fillN, typAt_eq hx]
      by_cases h0 : fineE x.typ s = 0
      · rw [if_neg (fun h => h h0), if_pos h0]
      · rw [if_pos h0, if_neg h0]
    have hL : ∀ h ∈ hopsAt r k, ∃ m j, h.join = (m : Nat) ∧ r.joins[m]? = some j ∧ j.between k (hopTo r.joins h) := fun h hh => hopsG_mem hh
    have hLn : (hopsAt r k).length ≤ 12 := Nat.le_trans (arnd_len (k : Int) r.joins 0) hlen.2
    rw [hLG] at har
    generalize hopsAt r k = L at *
    generalize fineE x.typ s = fe at *
    refine fnH Tryz.func49 Tryz.ntmps49 (h := fun S w0 β0 X => ?_)
    rw [stU_e hp]
    clear hp
    obtain ⟨p, hp⟩ : ∃ p, p = if fe = 0 then overHops (thereS cvP r (fillN cvP r N) k) come L s else (zeroS, fe) := ⟨_, rfl⟩
    rw [← hp]
    refine GO ?_
    refine Ch.c (hfi) (r := ?_)
    refine GO ?_
    refine Ch.c (har) (r := ?_)
    refine GO ?_
    refine W.lpG (fun a : Nat × State × Int => a.1 ≤ L.length ∧ StS a.2.1 ∧ p = if a.2.2 = 0 then overHops (thereS cvP r (fillN cvP r N) k) come (L.drop a.1) a.2.1 else (zeroS, a.2.2)) (fun a => [(10, iT a.2.2), (21, iT a.1)]) [(0, _), (1, _), (3, _), (4, _), (7, _), (8, _), (19, _), (20, _)] (fun a => [(2, .box 32 ((stateF a.2.1).map C.d))]) [(0, _), (1, _), (3, _)] (fun a => L.length - a.1) (0, s, fe) (⟨Nat.zero_le _, hs, hp⟩) (round := fun a hI => ?_)
    obtain ⟨i, s1, e1⟩ := a
    obtain ⟨hi, hs1, hq⟩ := hI
    replace hs1 : StS s1 := hs1
    simp only at hi hq ⊢
    clear hp hfi
    by_cases hlt : i < L.length
    · have hh := List.getElem?_eq_getElem hlt
      generalize L[i] = h at hh
      have hd := drop_at hh
      obtain ⟨m, j, hm, hjm, hbt⟩ := hL h (List.mem_of_getElem? hh)
      obtain ⟨hj, bk⟩ := h
      simp only at hm
      subst hm
      refine GO ?_
      refine W.cond rfl (fun hc1 => ?_) (fun hc1 => ?_)
      · have hc1 : e1 = 0 ∧ (m : Int) ≠ come := by simpa using hc1
        obtain ⟨rfl, hcm⟩ := hc1
        rw [if_pos rfl, hd, over_next', if_neg hcm] at hq
        have htt : hopTo r.joins ⟨(m : Int), bk⟩ = hopEnd j bk := by unfold hopTo hopEnd; simp only [Int.toNat_natCast, hjm]
        rw [htt] at hbt
        have hrg := hin j (List.mem_of_getElem? hjm)
        obtain ⟨kt, hkt⟩ := Int.eq_ofNat_of_zero_le (show 0 ≤ hopEnd j bk by rcases hbt with ⟨_, e⟩ | ⟨e, _⟩ <;> omega)
        have hktl : kt < r.schemas.length := by rcases hbt with ⟨_, e⟩ | ⟨e, _⟩ <;> omega
        have hy := List.getElem?_eq_getElem hktl
        generalize r.schemas[kt] = y at hy
        have hless : connN r.schemas.length r.joins m kt ≤ N := by
          have h1 := hfor.less (n := r.schemas.length) hjm hbt hcm hcome (by omega)
          rw [hkt] at h1
          omega
        have hcm2 : ∀ (c : Nat) l, (c : Int) = (m : Int) → r.joins[c]? = some l → ∃ o, l.between o kt := fun c l e hl => by
          have : c = m := by omega
          subst this
          rw [hjm] at hl
          cases hl
          exact ⟨k, by rw [← hkt]; exact hbt⟩
        have ht := thereC r k m kt x y j bk s1 (fillN cvP r N) hR hG hx hjm hkt hy hs1 (fun s hs => fillN_fit cvP_ok N kt m s hs) (fun s hs => ih kt m s hktl hless hcm2 hs)
        have hs2 := hTS ⟨(m : Int), bk⟩ s1 hs1
        generalize thereS cvP r (fillN cvP r N) k ⟨(m : Int), bk⟩ s1 = p2 at *
        refine GO ?_
        refine Ch.dyn [0, 1] (ts := [iT (k : Int), agD (hopF ⟨m, bk⟩), agD (stateF s1)]) (cs := thereCs r) ht (r := ?_)
        refine GO ?_
        exact W.ag (i + 1, p2.1, p2.2) ⟨hlt, hs2, hq⟩ (by simp only; omega)
      · have hc1 : e1 = 0 → (m : Int) = come := by simpa using hc1
        refine GO ?_
        refine W.ag (i + 1, s1, e1) ⟨hlt, hs1, ?_⟩ (by simp only; omega)
        by_cases h0 : e1 = 0
        · rw [if_pos h0, hd, over_next', if_pos (hc1 h0)] at hq
          exact hq.trans (if_pos h0).symm
        · rw [if_neg h0] at hq
          exact hq.trans (if_neg h0).symm
    · obtain rfl : i = L.length := by omega
      rw [List.drop_length] at hq
      refine GO ?_
      refine W.cond rfl (fun h0 => ?_) (fun h0 => ?_)
      · have h0 : ¬ e1 = 0 := by simpa using h0
        refine GO ?_
        refine W.boxL 3 zS (stateF zeroS) nil_state (h := ?_)
        rw [stU_e (hq.trans (if_neg h0))]
        exact finH2
      · have h0 : e1 = 0 := by simpa using h0
        refine GO ?_
        rw [stU_e (hq.trans (if_pos h0))]
        exact finH2
set_option maxRecDepth 10000 in
set_option maxHeartbeats 2000000 in
set_option maxRecDepth 10000 in
theorem filledC (r : Registry) (k : Nat) (s : State) (hR : RawH) (hG : RegG r) (hfor : Forest r.joins) (hin : InR r.schemas.length r.joins) (hlen : r.schemas.length ≤ 12 ∧ r.joins.length ≤ 12) (hk : k < r.schemas.length) (hs : StS s) : ∀ n, Con Tryz.prog 23 [agD (regF r), iT (k : Int), agD (stateF s)] [] n (stU (fillN cvP r 13 k (-1) s)) [] n := by
  refine fnI Tryz.func23 Tryz.ntmps23 (h := fun S w0 β0 X => ?_)
  have hf := fillC r hR hG hfor hin hlen 13 k (-1) s hk (Nat.le_trans (connN_le _ _ _ _) (by omega)) (fun c l e _ => by omega) hs
  have st : Stop 2 := ⟨⟩
  refine GO ?_
  clear st
  refine W.frzB 0 (regF r) (h := ?_)
  refine GO ?_
  refine Ch.p (OpT.clo' (cs := [.one (adr (regF r)), .key 3])) ⟨rfl, rfl, trivial⟩ ?_
  refine GO ?_
  refine Ch.p (OpT.clo' (cs := [.one (adr (regF r)), .key 4])) ⟨rfl, rfl, trivial⟩ ?_
  refine GO ?_
  refine Ch.c (stCopyC s hs.1) (r := ?_)
  refine GO ?_
  refine Ch.dyn [3, 4] (ts := [iT (k : Int), iT (-1), agD (stateF s)]) (cs := fillCs r) hf (r := ?_)
  refine GO ?_
  exact fin2
end Go.Proofs.YtddddgbboipfeaaGreatDoor
namespace Go.Proofs.YtddddgbboipfeaaGreatDoor
open Go.Sv
theorem may_c (r : Registry) (k : Int) (hR : RawH) (hG : RegG r) : ∀ n, Con Tryz.prog 22 [agD (regF r), iT k] [] n (iT (mayE r k)) [] n := tmayC (gRightC hR) r k hG.ok.typs hG.ok.lens (by have := hG.ok.len; omega) (by have := hG.ok.len; omega)
theorem filled_c (r : Registry) (k : Int) (hR : RawH) (hG : RegG r) (h : mayE r k = 0) (s : State) (hs : StS s) : ∀ n, Con Tryz.prog 23 [agD (regF r), iT k, agD (stateF s)] [] n (stU (fillN cvP r 13 k (-1) s)) [] n := by
  obtain ⟨h1, h2, h3⟩ := mayE_zero h
  obtain ⟨q1, q2, q3, q4, _⟩ := regRight_ok h1
  obtain ⟨kn, rfl⟩ := Int.eq_ofNat_of_zero_le h2
  exact filledC r kn s hR hG q3 q4 ⟨q1, q2⟩ (by omega) hs
set_option maxRecDepth 10000 in
set_option maxHeartbeats 1000000 in
theorem tFillC (r : Registry) (k : Int) (s : State) (hR : RawH) (hG : RegG r) (hs : StS s) : ∀ n, Con Tryz.prog 6 [agD (regF r), iT k, agD (stateF s)] [] n (stU (fillS cvP r k s)) [] n := by
  refine fnI Tryz.func6 Tryz.ntmps6 (h := fun S w0 β0 X => ?_)
  have hm := may_c r k hR hG
  have hfl := filled_c r k hR hG
  have hq := (rfl : fillS cvP r k s = fillS cvP r k s)
  conv at hq => rhs; rw [fillS]
  generalize mayE r k = m at *
  refine GO ?_
  refine Ch.c (hm) (r := ?_)
  refine GO ?_
  refine W.cond rfl (fun h0 => ?_) (fun h0 => ?_)
  · obtain rfl : m = 0 := by simpa using h0
    rw [if_neg (fun h => h rfl)] at hq
    have hs1 : StS (fillN cvP r 13 k (-1) s).1 := fillN_fit cvP_ok 13 k (-1) s hs
    have hf1 := hfl rfl s hs
    generalize fillN cvP r 13 k (-1) s = p1 at *
    have hf2 := hfl rfl p1.1 hs1
    refine GO ?_
    refine Ch.c (hf1) (r := ?_)
    refine GO ?_
    refine W.cond rfl (fun h1 => ?_) (fun h1 => ?_)
    · rw [stU_e (hq.trans (if_pos (by simpa using h1)))]
      refine GO ?_
      refine W.boxL 2 zS (stateF zeroS) nil_state (h := ?_)
      exact fin2
    · rw [stU_e (hq.trans (if_neg (by simpa using h1)))]
      refine GO ?_
      refine Ch.c (hf2) (r := ?_)
      refine GO ?_
      exact fin2
  · have h0 : ¬ m = 0 := by simpa using h0
    have h1 : (!decide (m = 0)) = true := by simp [h0]
    rw [stU_e (hq.trans (if_pos h0))]
    refine GO ?_
    refine W.boxL 2 zS (stateF zeroS) nil_state (h := ?_)
    exact fin2
theorem stS_doc {d : Doc} (hd : d.fit) : StS ⟨d, []⟩ := ⟨⟨hd, Nat.zero_le _, nofun⟩, Nat.zero_le _⟩
set_option maxRecDepth 10000 in
theorem tStartC (r : Registry) (k : Int) (d : Doc) (hR : RawH) (hG : RegG r) (hd : d.fit) : ∀ n, Con Tryz.prog 8 [agD (regF r), iT k, agD (docF d)] [] n (stU (fillS cvP r k ⟨d, []⟩)) [] n := by
  refine fnI Tryz.func8 Tryz.ntmps8 (h := fun S w0 β0 X => ?_)
  have hf := fun n => (tFillC r k ⟨d, []⟩ hR hG (stS_doc hd) n).argL (args := [agD (regF r), iT k, agD (docF d ++ [nilD])]) ⟨.refl _, .refl _, .ag (nil_docS d), trivial⟩
  refine GO ?_
  refine Ch.c (hf) (r := ?_)
  refine GO ?_
  exact fin2
set_option maxRecDepth 10000 in
theorem placesC (x y : Res) : ∀ n, Con Tryz.prog 28 [agD (resF x), agD (resF y)] [] n (bT (resLess x y == 0)) [] n := by
  refine fnI Tryz.func28 Tryz.ntmps28 (h := fun S w0 β0 X => ?_)
  refine GO ?_
  refine Ch.c (lessC x y) (r := ?_)
  refine GO ?_
  exact finB (he := by rfl)
set_option maxRecDepth 10000 in
set_option maxHeartbeats 1000000 in
theorem wholeC (r : Registry) (k : Int) (s : State) (hR : RawH) (hG : RegG r) (hs : StS s) : ∀ n, Con Tryz.prog 11 [agD (regF r), iT k, agD (stateF s)] [] n (bT (wholeS cvP r k s)) [] n := by
  refine fnI Tryz.func11 Tryz.ntmps11 (h := fun S w0 β0 X => ?_)
  have hm := may_c r k hR hG
  have hfl := filled_c r k hR hG
  have hq := (rfl : wholeS cvP r k s = wholeS cvP r k s)
  conv at hq => rhs; rw [wholeS]
  generalize mayE r k = m at *
  refine GO ?_
  refine Ch.c (hm) (r := ?_)
  refine GO ?_
  refine W.cond rfl (fun h0 => ?_) (fun h0 => ?_)
  · have h0 : ¬ m = 0 := by simpa using h0
    refine GO ?_
    exact finB (he := by rw [hq]; simp [h0])
  obtain rfl : m = 0 := by simpa using h0
  have hf1 := hfl rfl s hs
  have hf2 := fun n => (hfl rfl ⟨s.doc, []⟩ (stS_doc hs.1.doc) n).argL (args := [agD (regF r), iT k, agD (docF s.doc ++ [nilD])]) ⟨.refl _, .refl _, .ag (nil_docS s.doc), trivial⟩
  generalize fillN cvP r 13 k (-1) s = p1 at *
  generalize fillN cvP r 13 k (-1) ⟨s.doc, []⟩ = p2 at *
  refine GO ?_
  refine Ch.c (hf1) (r := ?_)
  refine GO ?_
  refine Ch.gc (hc := fun _ => asameC p1.1 s) (r := ?_)
  refine GO ?_
  refine W.cond rfl (fun h1 => ?_) (fun h1 => ?_)
  · refine GO ?_
    exact finB (he := by rw [hq]; simp at h1 ⊢; grind)
  refine GO ?_
  refine Ch.c (hf2) (r := ?_)
  refine GO ?_
  refine Ch.gc (hc := fun _ => eqRessC (l := p2.1.res) (m := s.res) _ [] (fun a b => resLess a b == 0) fun x _ y _ => placesC x y) (r := ?_)
  refine GO ?_
  exact finB (he := by rw [hq]; simp at h1 ⊢; grind)
end Go.Proofs.YtddddgbboipfeaaGreatDoor
namespace Go.Proofs.YtddddgbboipfeaaGreatDoor
open Go.Sv
set_option maxRecDepth 10000 in
set_option maxHeartbeats 2000000 in
theorem tGoC (r : Registry) (a b : Int) (s : State) (hR : RawH) (hG : RegG r) (hw : WayOk r a b) (hs : StS s) : ∀ n, Con Tryz.prog 15 [agD (regF r), iT a, iT b, agD (stateF s)] [] n (stU (goT r a b s)) [] n := by
  refine fnI Tryz.func15 Tryz.ntmps15 (h := fun S w0 β0 X => ?_)
  have hp := gpathC hR r a b hG.ok.typs hG.ok.lens (by have := hG.ok.len; omega) (by have := hG.ok.len; omega)
  have hq := (rfl : goT r a b s = goT r a b s)
  conv at hq => rhs; rw [goT]
  have hin := pathE_in (r := r) (a := a) (b := b)
  obtain ⟨hw1, hw2⟩ := hw
  generalize pathE r a b = pw at *
  obtain ⟨L, e⟩ := pw
  simp only at hq hin hw1 hw2
  refine GO ?_
  refine Ch.c (hp) (r := ?_)
  refine GO ?_
  refine W.cond rfl (fun h0 => ?_) (fun h0 => ?_)
  · rw [stU_e (hq.trans (if_pos (by simpa using h0)))]
    refine GO ?_
    refine W.boxL 2 zS (stateF zeroS) nil_state (h := ?_)
    exact fin2
  have h0 : e = 0 := by simpa using h0
  obtain ⟨hg1, hg2, hg3⟩ := hin h0
  obtain ⟨_, _, _, hI4, _⟩ := regRight_ok hg1
  obtain ⟨an, rfl⟩ := Int.eq_ofNat_of_zero_le hg2
  rw [if_neg (fun h => h h0)] at hq
  have hx := List.getElem?_eq_getElem (show an < r.schemas.length by omega)
  generalize r.schemas[an]'(by omega) = x at hx
  have hfi := tfineC r an s an x rfl hx (hG.ok.typs x (List.mem_of_getElem? hx)) hs.fit
  rw [typAt_eq hx] at hq
  generalize fineE x.typ s = fe at *
  refine GO ?_
  refine Ch.c (hfi) (r := ?_)
  refine GO ?_
  refine W.cond rfl (fun h1 => ?_) (fun h1 => ?_)
  · have h1 : fe ≠ 0 ∧ L.length = 0 := by simp at h1 ⊢; exact h1
    rw [stU_e (hq.trans (if_pos h1))]
    refine GO ?_
    refine W.boxL 2 zS (stateF zeroS) nil_state (h := ?_)
    exact fin2
  have h1 : ¬ (fe ≠ 0 ∧ L.length = 0) := by simpa using h1
  rw [if_neg h1] at hq
  refine GO ?_
  refine Ch.c (stCopyC s hs.1) (r := ?_)
  refine GO ?_
  refine W.lpG (fun q : Nat × Nat × State => q.1 ≤ L.length ∧ q.2.1 < r.schemas.length ∧ StS q.2.2 ∧ goT r an b s = walkT r q.2.1 (L.drop q.1) q.2.2) (fun q => [(13, iT q.2.1), (45, iT q.1)]) [(4, _), (7, _), (8, _), (43, _), (44, _)] (fun q => [(1, .box 32 ((stateF q.2.2).map C.d))]) [(0, _), (2, _)] (fun q => L.length - q.1) (0, an, s) (⟨Nat.zero_le _, by simp only; omega, hs, hq⟩) (round := fun q hI => ?_)
  clear hq hs hfi h1
  obtain ⟨i, k, s1⟩ := q
  obtain ⟨hi, hk, hs, hq⟩ := hI
  replace hs : StS s1 := hs
  simp only at hi hk hq ⊢
  by_cases hlt : i < L.length
  · have hh := List.getElem?_eq_getElem hlt
    generalize L[i] = h at hh
    obtain ⟨m, j, hm, hjm⟩ := hw1 h (List.mem_of_getElem? hh)
    rw [drop_at hh, walkT] at hq
    obtain ⟨hj, bk⟩ := h
    simp only at hm
    subst hm
    have hx := List.getElem?_eq_getElem hk
    generalize r.schemas[k]'hk = x at hx
    have hh1 := thopC r k m bk s1 x j hR hG hx hjm hs.1
    have hs1 : StS (hopS cvP r k ⟨(m : Int), bk⟩ s1).1 := goS_fit cvP_ok hs.1
    rw [joinAt_eq hjm] at hq
    have hrg := hI4 j (List.mem_of_getElem? hjm)
    obtain ⟨kt, hkt⟩ := Int.eq_ofNat_of_zero_le (show 0 ≤ hopEnd j bk by unfold hopEnd; split <;> omega)
    have hktl : kt < r.schemas.length := by have : hopEnd j bk < r.schemas.length := by { unfold hopEnd; split <;> omega }; omega
    simp only [hkt] at hq hh1
    generalize hopS cvP r k ⟨(m : Int), bk⟩ s1 = p1 at *
    refine GO ?_
    refine Ch.c (hh1) (r := ?_)
    refine GO ?_
    refine W.cond rfl (fun h2 => ?_) (fun h2 => ?_)
    · rw [stU_e (hq.trans (if_pos (by simpa using h2)))]
      refine GO ?_
      refine W.boxL 2 zS (stateF zeroS) nil_state (h := ?_)
      exact fin2
    rw [if_neg (by simpa using h2)] at hq
    refine GO ?_
    exact W.ag (i + 1, kt, p1.1) ⟨hlt, hktl, hs1, hq⟩ (by simp only; omega)
  · obtain rfl : i = L.length := by omega
    rw [List.drop_length, walkT] at hq
    rw [stU_e hq]
    refine GO ?_
    exact fin2
set_option maxRecDepth 10000 in
theorem tSeenC (r : Registry) (a b : Int) (s : State) (hR : RawH) (hG : RegG r) (hw : WayOk r a b) (hs : StS s) : ∀ n, Con Tryz.prog 16 [agD (regF r), iT a, iT b, agD (stateF s)] [] n (.tup [.ag ((docF (goT r a b s).1.doc).map C.d), .one (.d (i64 (goT r a b s).2))]) [] n := by
  refine fnI Tryz.func16 Tryz.ntmps16 (h := fun S w0 β0 X => ?_)
  refine GO ?_
  refine Ch.c (tGoC r a b s hR hG hw hs) (r := ?_)
  refine GO ?_
  exact fin2
set_option maxRecDepth 10000 in
set_option maxHeartbeats 1000000 in
theorem tEditC (r : Registry) (a b : Int) (s : State) (d : Doc) (hR : RawH) (hG : RegG r) (hw1 : WayOk r a b) (hw2 : WayOk r b a) (hs : StS s) (hd : d.fit) : ∀ n, Con Tryz.prog 17 [agD (regF r), iT a, iT b, agD (stateF s), agD (docF d)] [] n (stU (editT r a b s d)) [] n := by
  refine fnI Tryz.func17 Tryz.ntmps17 (h := fun S w0 β0 X => ?_)
  have hg1 := tGoC r a b s hR hG hw1 hs
  have hs1 : StS (goT r a b s).1 := goT_fit hs
  have hq := (rfl : editT r a b s d = editT r a b s d)
  conv at hq => rhs; rw [editT]
  generalize goT r a b s = p1 at *
  have hs2 : StS ⟨d, p1.1.res⟩ := ⟨⟨hd, hs1.1.len, hs1.1.res⟩, hs1.2⟩
  have hf := tFillC r b ⟨d, p1.1.res⟩ hR hG hs2
  have hs3 : StS (fillS cvP r b ⟨d, p1.1.res⟩).1 := fillS_fit hs2
  generalize fillS cvP r b ⟨d, p1.1.res⟩ = p2 at *
  have hg2 := tGoC r b a p2.1 hR hG hw2 hs3
  refine GO ?_
  refine Ch.c (hg1) (r := ?_)
  refine GO ?_
  refine W.cond rfl (fun h1 => ?_) (fun h1 => ?_)
  · rw [stU_e (hq.trans (if_pos (by simpa using h1)))]
    refine GO ?_
    refine W.boxL 3 zS (stateF zeroS) nil_state (h := ?_)
    exact fin2
  rw [if_neg (by simpa using h1)] at hq
  refine GO ?_
  refine Ch.c (hf) (r := ?_)
  refine GO ?_
  refine W.cond rfl (fun h2 => ?_) (fun h2 => ?_)
  · rw [stU_e (hq.trans (if_pos (by simpa using h2)))]
    refine GO ?_
    refine W.boxL 3 zS (stateF zeroS) nil_state (h := ?_)
    exact fin2
  rw [if_neg (by simpa using h2)] at hq
  rw [stU_e hq]
  refine GO ?_
  refine Ch.c (hg2) (r := ?_)
  refine GO ?_
  exact fin2
end Go.Proofs.YtddddgbboipfeaaGreatDoor
namespace Go.Proofs.YtddddgbboipfeaaGreatDoor
open Go.Sv
theorem take_up {α : Type} {p : α → Prop} {l : List α} {k : Nat} {x : α} (hx : l[k]? = some x) (h : ∀ y ∈ l.take k, p y) (hp : p x) : ∀ y ∈ l.take (k + 1), p y := fun y hy => by
  rw [List.take_add_one, hx] at hy
  rcases List.mem_append.1 hy with h1 | h1
  · exact h y h1
  · simp at h1; rw [h1]; exact hp
set_option maxRecDepth 10000 in
theorem r1findC (d : Doc) (s : Str) (hk : d.kind = 1) (hlen : d.keys.length = d.kids.length) (hl : d.keys.length ≤ 1000000) : ∀ n, Con Tryz.prog 277 [agD (docF d), sT s] [] n (iT (keyIdx d.keys s)) [] n := by
  refine fnI Tryz.func277 Tryz.ntmps277 (h := fun S w0 β0 X => ?_)
  have hk3 : ¬ d.kind = 3 := by omega
  refine GO ?_
  refine W.lp (fun k => k ≤ d.keys.length ∧ ∀ y ∈ d.keys.take k, (y.toList == s.toList) = false) (fun k => [(4, iT 0), (6, iT k)]) [(1, _), (2, _)] (d.keys.length - ·) 0 (⟨Nat.zero_le _, by simp⟩) (round := fun k hI => ?_)
  by_cases hlt : k < d.keys.length
  · have hx := List.getElem?_eq_getElem hlt
    generalize d.keys[k] = x at hx
    have hlt2 : k < d.kids.length := by omega
    refine GO ?_
    refine W.cond rfl (fun h0 => ?_) (fun h0 => ?_)
    · refine GO ?_
      refine W.cond rfl (fun h => ?_) (fun h => ?_)
      · refine GO ?_
        exact finI (he := by rw [keyIdx, idxOf_at hx h hI.2])
      · refine GO ?_
        exact W.ag (k + 1) (⟨hlt, take_up hx hI.2 h⟩) (by omega)
    · exact absurd h0 (by simp [hlt, hlt2, hk])
  · obtain rfl : k = d.keys.length := by omega
    have hn := hI.2
    rw [List.take_length] at hn
    refine GO ?_
    refine W.cond rfl (fun h0 => ?_) (fun h0 => ?_)
    · exact absurd h0 (by simp)
    · refine GO ?_
      exact finI (he := by rw [keyIdx, idxOf_none hn])
def docZ : List D := [i64 0, i64 0, str ⟨#[]⟩, nilD, nilD]
def kidU : Option Doc → T
  | some d => .tup [.ag ((docF d).map C.d), .one (.d (bl true))]
  | none => .tup [.ag (docZ.map C.d), .one (.d (bl false))]
theorem kidU_keys : ∀ o, (kidU o).keys = []
  | some _ => rfl
  | none => rfl
theorem recOf_len (f : Flds) : (recOf f).keys.length = (recOf f).kids.length := by rw [recOf, Doc.keys, Doc.kids, List.length_map, List.length_map]
theorem recOf_keys (f : Flds) : (recOf f).keys.length = f.length := by rw [recOf, Doc.keys, List.length_map]
theorem rfindF {f : Flds} {s : Str} (hs : FSrt f) (hl : f.length ≤ 1000000) : ∀ n, Con Tryz.prog 277 [agD (docF (recOf f)), sT s] [] n (iT (if (fget s f).isSome then (fpos s f : Int) else -1)) [] n := fun n => by
  have := r1findC (recOf f) s rfl (recOf_len f) (by rw [recOf_keys]; exact hl) n
  rwa [show (recOf f).keys = f.map (·.1) from rfl, idx_get s hs] at this
set_option maxRecDepth 10000 in
set_option maxHeartbeats 1000000 in
theorem r1getC (f : Flds) (s : Str) (hs : FSrt f) (hl : f.length ≤ 1000000) : ∀ n, Con Tryz.prog 252 [agD (docF (recOf f)), dT (sl 1 [[str s]])] [] n (kidU (fget s f)) [] n := by
  have hc := rfindF (s := s) hs hl
  refine fnI Tryz.func252 Tryz.ntmps252 (hko := kidU_keys _) (h := fun S w0 β0 X => ?_)
  cases hg : fget s f with
  | none =>
    rw [hg] at hc
    refine GO ?_
    refine W.lp (fun k : Nat => k = 0) (fun k => [(5, bT false), (6, iT k)]) [(1, _), (2, _), (4, _)] (fun k : Nat => 1 - k) 0 (rfl) (round := fun k hI => ?_)
    subst hI
    refine GO ?_
    refine Ch.p OpT.lenL ⟨rfl, trivial⟩ ?_
    refine GO ?_
    refine Ch.p (OpT.indexA (j := 0) (hj := rfl)) ⟨rfl, rfl, trivial⟩ ?_
    refine GO ?_
    refine Ch.c (hc) (r := ?_)
    refine GO ?_
    exact fin2
  | some x =>
    rw [hg] at hc
    have hx : (recOf f).kids[fpos s f]? = some x := by rw [recOf, Doc.kids, List.getElem?_map, fget_pos hs hg]; rfl
    have hj0 : ¬ ((fpos s f : Int) < 0) := by omega
    refine GO ?_
    refine W.lpG (fun k : Nat => k ≤ 1) (fun k => [(5, bT false), (6, iT k)]) [(1, _), (2, _), (4, _)] (fun k => [(0, .box 29 ((docF (if k = 0 then recOf f else x)).map C.d))]) [(1, _)] (fun k : Nat => 1 - k) 0 (Nat.zero_le _) (round := fun k hI => ?_)
    by_cases hk : k = 0
    · subst hk
      rw [if_pos rfl]
      refine GO ?_
      refine Ch.p OpT.lenL ⟨rfl, trivial⟩ ?_
      refine GO ?_
      refine Ch.p (OpT.indexA (j := 0) (hj := rfl)) ⟨rfl, rfl, trivial⟩ ?_
      refine GO ?_
      refine Ch.c (hc) (r := ?_)
      refine GO ?_
      exact W.ag (0 + 1) (Nat.le_refl _) (by omega)
    · obtain rfl : k = 1 := by omega
      rw [if_neg (by decide)]
      refine GO ?_
      refine Ch.p OpT.lenL ⟨rfl, trivial⟩ ?_
      refine GO ?_
      exact fin2
set_option maxRecDepth 10000 in
theorem r8kidC (f : Flds) (s : Str) (hs : FSrt f) (hl : f.length ≤ 1000000) : ∀ n, Con Tryz.prog 222 [agD (docF (recOf f)), sT s] [] n (kidU (fget s f)) [] n := by
  refine fnI Tryz.func222 Tryz.ntmps222 (hko := kidU_keys _) (h := fun S w0 β0 X => ?_)
  have hc := r1getC f s hs hl
  cases hg : fget s f with
  | none =>
    rw [hg] at hc
    refine GO ?_
    refine Ch.c (hc) (r := ?_)
    refine GO ?_
    exact fin2
  | some x =>
    rw [hg] at hc
    refine GO ?_
    refine Ch.c (hc) (r := ?_)
    refine GO ?_
    exact fin2
theorem docM_eq (k n : Int) (s : Str) (ks : List Str) (kids : List Doc) : agD (docF (.mk k n s ks kids)) = agD [i64 k, i64 n, str s, sl 1 (ks.map fun s => [str s]), sl 5 (kids.map docF)] := by
  rw [← (rowDocs kids).eq]; rfl
theorem map3 {α β : Type} (g : α → β) (l : List α) (k b : Nat) (x : α) : [] ++ (l.map g).take k ++ [g x] ++ (l.map g).drop b = (l.take k ++ [x] ++ l.drop b).map g := by
  rw [List.map_append, List.map_append, List.map_take, List.map_drop]; rfl
set_option maxRecDepth 10000 in
set_option maxHeartbeats 1000000 in
theorem r1withC (d x : Doc) (k : Nat) (s : Str) (more : Bool) (hk : d.kind = 1) (hlen : d.keys.length = d.kids.length) (hl : d.keys.length ≤ 1000000) (hkl : (if more then k else k + 1) ≤ d.keys.length) : ∀ n, Con Tryz.prog 278 [agD (docF d), iT k, sT s, agD (docF x), bT more] [] n (agD (docF (docWith d k (if more then k else k + 1) s x))) [] n := by
  refine fnI Tryz.func278 Tryz.ntmps278 (h := fun S w0 β0 X => ?_)
  have hk2 : d.kind ≤ 2 := by omega
  cases more with
  | false =>
    rw [if_neg (by decide)] at hkl ⊢
    refine GO ?_
    refine Ch.p (OpT.upto k (by rw [List.length_map]; omega)) ⟨rfl, rfl, trivial⟩ ?_
    refine Ch.apA (hb := by simp; omega) (r := ?_)
    refine GO ?_
    refine Ch.apA (hb := by simp; omega) (r := ?_)
    refine GO ?_
    refine Ch.p (OpT.from (k + 1) (by rw [List.length_map]; omega)) ⟨rfl, rfl, trivial⟩ ?_
    refine Ch.apA (hb := by simp; omega) (r := ?_)
    refine GO ?_
    rw [(rowDocs d.kids).eq]
    refine Ch.p (OpT.upto k (by rw [List.length_map]; omega)) ⟨rfl, rfl, trivial⟩ ?_
    refine Ch.apA (hb := by simp; omega) (r := ?_)
    refine GO ?_
    refine Ch.p (OpT.slice1' (hs := asAg (l := docF x) rfl)) ⟨rfl, trivial⟩ ?_
    refine Ch.apA (hb := by simp; omega) (r := ?_)
    refine GO ?_
    rw [(rowDocs d.kids).eq]
    refine Ch.p (OpT.from (k + 1) (by rw [List.length_map]; omega)) ⟨rfl, rfl, trivial⟩ ?_
    refine Ch.apA (hb := by simp; omega) (r := ?_)
    refine GO ?_
    rw [show [] ++ (d.keys.map fun s => [str s]).take k ++ [[str s]] ++ (d.keys.map fun s => [str s]).drop (k + 1) = (d.keys.take k ++ [s] ++ d.keys.drop (k + 1)).map fun s => [str s] from map3 _ _ _ _ _, show [] ++ (d.kids.map docF).take k ++ [docF x] ++ (d.kids.map docF).drop (k + 1) = (d.kids.take k ++ [x] ++ d.kids.drop (k + 1)).map docF from map3 _ _ _ _ _]
    refine W.frz 7 (h := ?_)
    refine W.frz 11 (h := ?_)
    exact fin1 (he := by exact Eq.trans rfl (docM_eq ..).symm)
  | true =>
    rw [if_pos rfl] at hkl ⊢
    refine GO ?_
    refine Ch.p (OpT.upto k (by rw [List.length_map]; omega)) ⟨rfl, rfl, trivial⟩ ?_
    refine Ch.apA (hb := by simp; omega) (r := ?_)
    refine GO ?_
    refine Ch.apA (hb := by simp; omega) (r := ?_)
    refine GO ?_
    refine Ch.p (OpT.from (k) (by rw [List.length_map]; omega)) ⟨rfl, rfl, trivial⟩ ?_
    refine Ch.apA (hb := by simp; omega) (r := ?_)
    refine GO ?_
    rw [(rowDocs d.kids).eq]
    refine Ch.p (OpT.upto k (by rw [List.length_map]; omega)) ⟨rfl, rfl, trivial⟩ ?_
    refine Ch.apA (hb := by simp; omega) (r := ?_)
    refine GO ?_
    refine Ch.p (OpT.slice1' (hs := asAg (l := docF x) rfl)) ⟨rfl, trivial⟩ ?_
    refine Ch.apA (hb := by simp; omega) (r := ?_)
    refine GO ?_
    rw [(rowDocs d.kids).eq]
    refine Ch.p (OpT.from (k) (by rw [List.length_map]; omega)) ⟨rfl, rfl, trivial⟩ ?_
    refine Ch.apA (hb := by simp; omega) (r := ?_)
    refine GO ?_
    rw [show [] ++ (d.keys.map fun s => [str s]).take k ++ [[str s]] ++ (d.keys.map fun s => [str s]).drop (k) = (d.keys.take k ++ [s] ++ d.keys.drop (k)).map fun s => [str s] from map3 _ _ _ _ _, show [] ++ (d.kids.map docF).take k ++ [docF x] ++ (d.kids.map docF).drop (k) = (d.kids.take k ++ [x] ++ d.kids.drop (k)).map docF from map3 _ _ _ _ _]
    refine W.frz 7 (h := ?_)
    refine W.frz 11 (h := ?_)
    exact fin1 (he := by exact Eq.trans rfl (docM_eq ..).symm)
end Go.Proofs.YtddddgbboipfeaaGreatDoor
