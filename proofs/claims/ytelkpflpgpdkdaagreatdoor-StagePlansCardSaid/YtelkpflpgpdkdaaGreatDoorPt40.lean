/- Part 40 of what StageOrder and StagePlans ask: for every input each returns true, and its input reads as it did. No condition. -/
import Derived.Test.YtelkpflpgpdkdaaGreatDoorPt24
import Derived.Test.YtelkpflpgpdkdaaGreatDoorPt25
import Derived.Test.YtelkpflpgpdkdaaGreatDoorPt32
import Derived.Test.YtelkpflpgpdkdaaGreatDoorPt34
import Derived.Test.YtelkpflpgpdkdaaGreatDoorPt39
namespace Go.Proofs.YtelkpflpgpdkdaaGreatDoor
open Go.Sv
abbrev fillCs (r : Registry) : List Cap := [.one (adr (regF r)), .key 1]
abbrev thereCs (r : Registry) : List Cap := [.one (adr (regF r)), .key 0]
abbrev fillH (r : Registry) : HL := [(0, .box 196 [.clo 125 (fillCs r)]), (1, .box 198 [.clo 123 (thereCs r)])]
theorem stU_e {t u : State × Int} (h : t = u) : stU t = stU u := by rw [h]
set_option maxRecDepth 10000 in
set_option maxHeartbeats 2000000 in
theorem thereC (r : Registry) (k i kt : Nat) (x y : Named) (j : Join) (bk : Bool) (s : State) (F : Int → Int → State → State × Int) (hR : RawH) (hG : RegG r) (hx : r.schemas[k]? = some x) (hj : r.joins[i]? = some j) (hkt : hopEnd j bk = (kt : Int)) (hy : r.schemas[kt]? = some y) (hs : StS s) (hFs : ∀ s, StS s → StS (F kt i s).1) (hc : ∀ s, StS s → Con Tryz.prog 125 ([iT (kt : Int), iT (i : Int), agD (stateF s)] ++ (fillCs r).map capU) (fillH r) 2 (stU (F kt i s)) (fillH r) 2) :
    Con Tryz.prog 123 ([iT (k : Int), agD (hopF ⟨i, bk⟩), agD (stateF s)] ++ (thereCs r).map capU) (fillH r) 2 (stU (thereS cvP r F k ⟨i, bk⟩ s)) (fillH r) 2 := by
  have hq := (rfl : thereS cvP r F k ⟨i, bk⟩ s = thereS cvP r F k ⟨i, bk⟩ s)
  conv at hq => rhs; rw [thereS]
  simp only [joinAt_eq hj, hkt] at hq
  have hn1 := needed_fit cvP_ok (r := r) (k := (k : Int)) (h := ⟨i, bk⟩) hs
  have hh1 := thopC r k i bk (needed cvP r k ⟨i, bk⟩ s) x j hR hG hx hj hn1
  have hn2 : StS (hopS cvP r k ⟨i, bk⟩ (needed cvP r k ⟨i, bk⟩ s)).1 := goS_fit cvP_ok hn1
  rw [hkt] at hh1
  refine fnH Tryz.func123 Tryz.ntmps123 (h := fun S w0 β0 X => ?_)
  refine GO ?_
  refine Ch.c (tneededC r k i bk s x j hR hG hx hj hs) (r := ?_)
  refine GO ?_
  refine Ch.c (hh1) (r := ?_)
  generalize hopS cvP r k ⟨i, bk⟩ (needed cvP r k ⟨i, bk⟩ s) = p1 at *
  refine GO ?_
  refine W.cond rfl (fun h0 => ?_) (fun h0 => ?_)
  · rw [stU_e (hq.trans (if_pos (by simpa using h0)))]
    refine GO ?_
    exact finH2
  rw [if_neg (by simpa using h0)] at hq
  have hn3 := hFs p1.1 hn2
  refine GO ?_
  refine Ch.dyn [0, 1] (ts := [iT (kt : Int), iT (i : Int), agD (stateF p1.1)]) (cs := fillCs r) (hc p1.1 hn2) (r := ?_)
  generalize F kt i p1.1 = p2 at *
  refine GO ?_
  refine W.cond rfl (fun h1 => ?_) (fun h1 => ?_)
  · rw [stU_e (hq.trans (if_pos (by simpa using h1)))]
    refine GO ?_
    exact finH2
  rw [if_neg (by simpa using h1)] at hq
  have hh2 := thopC r kt i (!bk) p2.1 y j hR hG hy hj hn3.1
  rw [stU_e hq]
  refine GO ?_
  refine Ch.c (hh2) (r := ?_)
  refine GO ?_
  exact finH2
theorem over_next' {T : Hop → State → State × Int} {come : Int} {h : Hop} {l : List Hop} {s : State} : overHops T come (h :: l) s = if h.join = come then overHops T come l s else if (T h s).2 = 0 then overHops T come l (T h s).1 else (zeroS, (T h s).2) := by
  rw [over_next]
  by_cases hz : (T h s).2 = 0
  · rw [if_neg (c := (T h s).2 ≠ 0) (fun e => e hz), if_pos hz]
  · rw [if_pos (c := (T h s).2 ≠ 0) hz, if_neg hz]
set_option maxRecDepth 10000 in
set_option maxHeartbeats 2000000 in
theorem fillC (r : Registry) (hR : RawH) (hG : RegG r) (hfor : Forest r.joins) (hin : InR r.schemas.length r.joins) (hlen : r.schemas.length ≤ 12 ∧ r.joins.length ≤ 12) : ∀ (n k : Nat) (come : Int) (s : State), k < r.schemas.length → connN r.schemas.length r.joins come k ≤ n → (∀ (c : Nat) l, (c : Int) = come → r.joins[c]? = some l → ∃ o, l.between o k) → StS s →
    Con Tryz.prog 125 ([iT (k : Int), iT come, agD (stateF s)] ++ (fillCs r).map capU) (fillH r) 2 (stU (fillN cvP r n k come s)) (fillH r) 2
  | 0, k, come, s, hk, hc, _, _ => by
    have := connN_pos (n := r.schemas.length) (js := r.joins) (x := come) (a := (k : Int)) (by omega)
    omega
  | N + 1, k, come, s, hk, hc, hcome, hs => by
    have ih := fillC r hR hG hfor hin hlen N
    have hx := List.getElem?_eq_getElem hk
    generalize r.schemas[k] = x at hx
    have hfi := tfineC r k s k x rfl hx (hG.ok.typs x (List.mem_of_getElem? hx)) hs.fit
    have har := taroundC r k (by omega)
    have hTS : ∀ h s, StS s → StS (thereS cvP r (fillN cvP r N) k h s).1 := fun h s hs => there_fit cvP_ok (fillN_fit cvP_ok N) hs
    have hLG : arnd (hopsT (k : Int)) 0 r.joins = hopsAt r k := arnd_congr fun m j hj => by
      obtain ⟨i, hi⟩ := List.mem_iff_getElem?.1 hj
      exact (hops_same (hfor.apart hi)).1
    have hp : fillN cvP r (N + 1) k come s = if fineE x.typ s = 0 then overHops (thereS cvP r (fillN cvP r N) k) come (hopsAt r k) s else (zeroS, fineE x.typ s) := by
      rw [fillN, typAt_eq hx]
      by_cases h0 : fineE x.typ s = 0
      · rw [if_neg (fun h => h h0), if_pos h0]
      · rw [if_pos h0, if_neg h0]
    have hL : ∀ h ∈ hopsAt r k, ∃ m j, h.join = (m : Nat) ∧ r.joins[m]? = some j ∧ j.between k (hopTo r.joins h) := fun h hh => hopsG_mem hh
    have hLn : (hopsAt r k).length ≤ 12 := Nat.le_trans (arnd_len (k : Int) r.joins 0) hlen.2
    rw [hLG] at har
    generalize hopsAt r k = L at *
    generalize fineE x.typ s = fe at *
    refine fnH Tryz.func125 Tryz.ntmps125 (h := fun S w0 β0 X => ?_)
    rw [stU_e hp]
    clear hp
    obtain ⟨p, hp⟩ : ∃ p, p = if fe = 0 then overHops (thereS cvP r (fillN cvP r N) k) come L s else (zeroS, fe) := ⟨_, rfl⟩
    rw [← hp]
    refine GO ?_
    refine Ch.c (hfi) (r := ?_)
    refine GO ?_
    refine Ch.c (har) (r := ?_)
    refine GO ?_
    refine W.lpG (fun a : Nat × State × Int => a.1 ≤ L.length ∧ StS a.2.1 ∧ p = if a.2.2 = 0 then overHops (thereS cvP r (fillN cvP r N) k) come (L.drop a.1) a.2.1 else (zeroS, a.2.2)) (fun a => [(10, iT a.2.2), (21, iT a.1)]) [(0, _), (1, _), (3, _), (4, _), (7, _), (8, _), (19, _), (20, _)] (fun a => [(2, .box 94 ((stateF a.2.1).map C.d))]) [(0, _), (1, _), (3, _)] (fun a => L.length - a.1) (0, s, fe) (⟨Nat.zero_le _, hs, hp⟩) (round := fun a hI => ?_)
    obtain ⟨i, s1, e1⟩ := a
    obtain ⟨hi, hs1, hq⟩ := hI
    replace hs1 : StS s1 := hs1
    simp only at hi hq ⊢
    clear hp hfi
    by_cases hlt : i < L.length
    · have hh := List.getElem?_eq_getElem hlt
      generalize L[i] = h at hh
      have hd := drop_at hh
      obtain ⟨m, j, hm, hjm, hbt⟩ := hL h (List.mem_of_getElem? hh)
      obtain ⟨hj, bk⟩ := h
      simp only at hm
      subst hm
      refine GO ?_
      refine W.cond rfl (fun hc1 => ?_) (fun hc1 => ?_)
      · have hc1 : e1 = 0 ∧ (m : Int) ≠ come := by simpa using hc1
        obtain ⟨rfl, hcm⟩ := hc1
        rw [if_pos rfl, hd, over_next', if_neg hcm] at hq
        have htt : hopTo r.joins ⟨(m : Int), bk⟩ = hopEnd j bk := by unfold hopTo hopEnd; simp only [Int.toNat_natCast, hjm]
        rw [htt] at hbt
        have hrg := hin j (List.mem_of_getElem? hjm)
        obtain ⟨kt, hkt⟩ := Int.eq_ofNat_of_zero_le (show 0 ≤ hopEnd j bk by rcases hbt with ⟨_, e⟩ | ⟨e, _⟩ <;> omega)
        have hktl : kt < r.schemas.length := by rcases hbt with ⟨_, e⟩ | ⟨e, _⟩ <;> omega
        have hy := List.getElem?_eq_getElem hktl
        generalize r.schemas[kt] = y at hy
        have hless : connN r.schemas.length r.joins m kt ≤ N := by
          have h1 := hfor.less (n := r.schemas.length) hjm hbt hcm hcome (by omega)
          rw [hkt] at h1
          omega
        have hcm2 : ∀ (c : Nat) l, (c : Int) = (m : Int) → r.joins[c]? = some l → ∃ o, l.between o kt := fun c l e hl => by
          have : c = m := by omega
          subst this
          rw [hjm] at hl
          cases hl
          exact ⟨k, by rw [← hkt]; exact hbt⟩
        have ht := thereC r k m kt x y j bk s1 (fillN cvP r N) hR hG hx hjm hkt hy hs1 (fun s hs => fillN_fit cvP_ok N kt m s hs) (fun s hs => ih kt m s hktl hless hcm2 hs)
        have hs2 := hTS ⟨(m : Int), bk⟩ s1 hs1
        generalize thereS cvP r (fillN cvP r N) k ⟨(m : Int), bk⟩ s1 = p2 at *
        refine GO ?_
        refine Ch.dyn [0, 1] (ts := [iT (k : Int), agD (hopF ⟨m, bk⟩), agD (stateF s1)]) (cs := thereCs r) ht (r := ?_)
        refine GO ?_
        exact W.ag (i + 1, p2.1, p2.2) ⟨hlt, hs2, hq⟩ (by simp only; omega)
      · have hc1 : e1 = 0 → (m : Int) = come := by simpa using hc1
        refine GO ?_
        refine W.ag (i + 1, s1, e1) ⟨hlt, hs1, ?_⟩ (by simp only; omega)
        by_cases h0 : e1 = 0
        · rw [if_pos h0, hd, over_next', if_pos (hc1 h0)] at hq
          exact hq.trans (if_pos h0).symm
        · rw [if_neg h0] at hq
          exact hq.trans (if_neg h0).symm
    · obtain rfl : i = L.length := by omega
      rw [List.drop_length] at hq
      refine GO ?_
      refine W.cond rfl (fun h0 => ?_) (fun h0 => ?_)
      · have h0 : ¬ e1 = 0 := by simpa using h0
        refine GO ?_
        refine W.boxL 3 zS (stateF zeroS) nil_state (h := ?_)
        rw [stU_e (hq.trans (if_neg h0))]
        exact finH2
      · have h0 : e1 = 0 := by simpa using h0
        refine GO ?_
        rw [stU_e (hq.trans (if_pos h0))]
        exact finH2
set_option maxRecDepth 10000 in
set_option maxHeartbeats 2000000 in
set_option maxRecDepth 10000 in
theorem filledC (r : Registry) (k : Nat) (s : State) (hR : RawH) (hG : RegG r) (hfor : Forest r.joins) (hin : InR r.schemas.length r.joins) (hlen : r.schemas.length ≤ 12 ∧ r.joins.length ≤ 12) (hk : k < r.schemas.length) (hs : StS s) : ∀ n, Con Tryz.prog 94 [agD (regF r), iT (k : Int), agD (stateF s)] [] n (stU (fillN cvP r 13 k (-1) s)) [] n := by
  refine fnI Tryz.func94 Tryz.ntmps94 (h := fun S w0 β0 X => ?_)
  have hf := fillC r hR hG hfor hin hlen 13 k (-1) s hk (Nat.le_trans (connN_le _ _ _ _) (by omega)) (fun c l e _ => by omega) hs
  have st : Stop 2 := ⟨⟩
  refine GO ?_
  clear st
  refine W.frzB 0 (regF r) (h := ?_)
  refine GO ?_
  refine Ch.p (OpT.clo' (cs := [.one (adr (regF r)), .key 3])) ⟨rfl, rfl, trivial⟩ ?_
  refine GO ?_
  refine Ch.p (OpT.clo' (cs := [.one (adr (regF r)), .key 4])) ⟨rfl, rfl, trivial⟩ ?_
  refine GO ?_
  refine Ch.c (stCopyC s hs.1) (r := ?_)
  refine GO ?_
  refine Ch.dyn [3, 4] (ts := [iT (k : Int), iT (-1), agD (stateF s)]) (cs := fillCs r) hf (r := ?_)
  refine GO ?_
  exact fin2
end Go.Proofs.YtelkpflpgpdkdaaGreatDoor
namespace Go.Proofs.YtelkpflpgpdkdaaGreatDoor
open Go.Sv
theorem may_c (r : Registry) (k : Int) (hR : RawH) (hG : RegG r) : ∀ n, Con Tryz.prog 93 [agD (regF r), iT k] [] n (iT (mayE r k)) [] n := tmayC (gRightC hR) r k hG.ok.typs hG.ok.lens (by have := hG.ok.len; omega) (by have := hG.ok.len; omega)
theorem filled_c (r : Registry) (k : Int) (hR : RawH) (hG : RegG r) (h : mayE r k = 0) (s : State) (hs : StS s) : ∀ n, Con Tryz.prog 94 [agD (regF r), iT k, agD (stateF s)] [] n (stU (fillN cvP r 13 k (-1) s)) [] n := by
  obtain ⟨h1, h2, h3⟩ := mayE_zero h
  obtain ⟨q1, q2, q3, q4, _⟩ := regRight_ok h1
  obtain ⟨kn, rfl⟩ := Int.eq_ofNat_of_zero_le h2
  exact filledC r kn s hR hG q3 q4 ⟨q1, q2⟩ (by omega) hs
set_option maxRecDepth 10000 in
set_option maxHeartbeats 1000000 in
theorem tFillC (r : Registry) (k : Int) (s : State) (hR : RawH) (hG : RegG r) (hs : StS s) : ∀ n, Con Tryz.prog 74 [agD (regF r), iT k, agD (stateF s)] [] n (stU (fillS cvP r k s)) [] n := by
  refine fnI Tryz.func74 Tryz.ntmps74 (h := fun S w0 β0 X => ?_)
  have hm := may_c r k hR hG
  have hfl := filled_c r k hR hG
  have hq := (rfl : fillS cvP r k s = fillS cvP r k s)
  conv at hq => rhs; rw [fillS]
  generalize mayE r k = m at *
  refine GO ?_
  refine Ch.c (hm) (r := ?_)
  refine GO ?_
  refine W.cond rfl (fun h0 => ?_) (fun h0 => ?_)
  · obtain rfl : m = 0 := by simpa using h0
    rw [if_neg (fun h => h rfl)] at hq
    have hs1 : StS (fillN cvP r 13 k (-1) s).1 := fillN_fit cvP_ok 13 k (-1) s hs
    have hf1 := hfl rfl s hs
    generalize fillN cvP r 13 k (-1) s = p1 at *
    have hf2 := hfl rfl p1.1 hs1
    refine GO ?_
    refine Ch.c (hf1) (r := ?_)
    refine GO ?_
    refine W.cond rfl (fun h1 => ?_) (fun h1 => ?_)
    · rw [stU_e (hq.trans (if_pos (by simpa using h1)))]
      refine GO ?_
      refine W.boxL 2 zS (stateF zeroS) nil_state (h := ?_)
      exact fin2
    · rw [stU_e (hq.trans (if_neg (by simpa using h1)))]
      refine GO ?_
      refine Ch.c (hf2) (r := ?_)
      refine GO ?_
      exact fin2
  · have h0 : ¬ m = 0 := by simpa using h0
    have h1 : (!decide (m = 0)) = true := by simp [h0]
    rw [stU_e (hq.trans (if_pos h0))]
    refine GO ?_
    refine W.boxL 2 zS (stateF zeroS) nil_state (h := ?_)
    exact fin2
theorem stS_doc {d : Doc} (hd : d.fit) : StS ⟨d, []⟩ := ⟨⟨hd, Nat.zero_le _, nofun⟩, Nat.zero_le _⟩
set_option maxRecDepth 10000 in
theorem tStartC (r : Registry) (k : Int) (d : Doc) (hR : RawH) (hG : RegG r) (hd : d.fit) : ∀ n, Con Tryz.prog 72 [agD (regF r), iT k, agD (docF d)] [] n (stU (fillS cvP r k ⟨d, []⟩)) [] n := by
  refine fnI Tryz.func72 Tryz.ntmps72 (h := fun S w0 β0 X => ?_)
  have hf := fun n => (tFillC r k ⟨d, []⟩ hR hG (stS_doc hd) n).argL (args := [agD (regF r), iT k, agD (docF d ++ [nilD])]) ⟨.refl _, .refl _, .ag (nil_docS d), trivial⟩
  refine GO ?_
  refine Ch.c (hf) (r := ?_)
  refine GO ?_
  exact fin2
set_option maxRecDepth 10000 in
theorem placesC (x y : Res) : ∀ n, Con Tryz.prog 96 [agD (resF x), agD (resF y)] [] n (bT (resLess x y == 0)) [] n := by
  refine fnI Tryz.func96 Tryz.ntmps96 (h := fun S w0 β0 X => ?_)
  refine GO ?_
  refine Ch.c (lessC x y) (r := ?_)
  refine GO ?_
  exact finB (he := by rfl)
set_option maxRecDepth 10000 in
set_option maxHeartbeats 1000000 in
theorem wholeC (r : Registry) (k : Int) (s : State) (hR : RawH) (hG : RegG r) (hs : StS s) : ∀ n, Con Tryz.prog 63 [agD (regF r), iT k, agD (stateF s)] [] n (bT (wholeS cvP r k s)) [] n := by
  refine fnI Tryz.func63 Tryz.ntmps63 (h := fun S w0 β0 X => ?_)
  have hm := may_c r k hR hG
  have hfl := filled_c r k hR hG
  have hq := (rfl : wholeS cvP r k s = wholeS cvP r k s)
  conv at hq => rhs; rw [wholeS]
  generalize mayE r k = m at *
  refine GO ?_
  refine Ch.c (hm) (r := ?_)
  refine GO ?_
  refine W.cond rfl (fun h0 => ?_) (fun h0 => ?_)
  · have h0 : ¬ m = 0 := by simpa using h0
    refine GO ?_
    exact finB (he := by rw [hq]; simp [h0])
  obtain rfl : m = 0 := by simpa using h0
  have hf1 := hfl rfl s hs
  have hf2 := fun n => (hfl rfl ⟨s.doc, []⟩ (stS_doc hs.1.doc) n).argL (args := [agD (regF r), iT k, agD (docF s.doc ++ [nilD])]) ⟨.refl _, .refl _, .ag (nil_docS s.doc), trivial⟩
  generalize fillN cvP r 13 k (-1) s = p1 at *
  generalize fillN cvP r 13 k (-1) ⟨s.doc, []⟩ = p2 at *
  refine GO ?_
  refine Ch.c (hf1) (r := ?_)
  refine GO ?_
  refine Ch.gc (hc := fun _ => asameC p1.1 s) (r := ?_)
  refine GO ?_
  refine W.cond rfl (fun h1 => ?_) (fun h1 => ?_)
  · refine GO ?_
    exact finB (he := by rw [hq]; simp at h1 ⊢; grind)
  refine GO ?_
  refine Ch.c (hf2) (r := ?_)
  refine GO ?_
  refine Ch.gc (hc := fun _ => eqRessC (l := p2.1.res) (m := s.res) _ [] (fun a b => resLess a b == 0) fun x _ y _ => placesC x y) (r := ?_)
  refine GO ?_
  exact finB (he := by rw [hq]; simp at h1 ⊢; grind)
end Go.Proofs.YtelkpflpgpdkdaaGreatDoor
namespace Go.Proofs.YtelkpflpgpdkdaaGreatDoor
open Go.Sv
set_option maxRecDepth 10000 in
set_option maxHeartbeats 2000000 in
theorem tGoC (r : Registry) (a b : Int) (s : State) (hR : RawH) (hG : RegG r) (hw : WayOk r a b) (hs : StS s) : ∀ n, Con Tryz.prog 73 [agD (regF r), iT a, iT b, agD (stateF s)] [] n (stU (goT r a b s)) [] n := by
  refine fnI Tryz.func73 Tryz.ntmps73 (h := fun S w0 β0 X => ?_)
  have hp := gpathC hR r a b hG.ok.typs hG.ok.lens (by have := hG.ok.len; omega) (by have := hG.ok.len; omega)
  have hq := (rfl : goT r a b s = goT r a b s)
  conv at hq => rhs; rw [goT]
  have hin := pathE_in (r := r) (a := a) (b := b)
  obtain ⟨hw1, hw2⟩ := hw
  generalize pathE r a b = pw at *
  obtain ⟨L, e⟩ := pw
  simp only at hq hin hw1 hw2
  refine GO ?_
  refine Ch.c (hp) (r := ?_)
  refine GO ?_
  refine W.cond rfl (fun h0 => ?_) (fun h0 => ?_)
  · rw [stU_e (hq.trans (if_pos (by simpa using h0)))]
    refine GO ?_
    refine W.boxL 2 zS (stateF zeroS) nil_state (h := ?_)
    exact fin2
  have h0 : e = 0 := by simpa using h0
  obtain ⟨hg1, hg2, hg3⟩ := hin h0
  obtain ⟨_, _, _, hI4, _⟩ := regRight_ok hg1
  obtain ⟨an, rfl⟩ := Int.eq_ofNat_of_zero_le hg2
  rw [if_neg (fun h => h h0)] at hq
  have hx := List.getElem?_eq_getElem (show an < r.schemas.length by omega)
  generalize r.schemas[an]'(by omega) = x at hx
  have hfi := tfineC r an s an x rfl hx (hG.ok.typs x (List.mem_of_getElem? hx)) hs.fit
  rw [typAt_eq hx] at hq
  generalize fineE x.typ s = fe at *
  refine GO ?_
  refine Ch.c (hfi) (r := ?_)
  refine GO ?_
  refine W.cond rfl (fun h1 => ?_) (fun h1 => ?_)
  · have h1 : fe ≠ 0 ∧ L.length = 0 := by simp at h1 ⊢; exact h1
    rw [stU_e (hq.trans (if_pos h1))]
    refine GO ?_
    refine W.boxL 2 zS (stateF zeroS) nil_state (h := ?_)
    exact fin2
  have h1 : ¬ (fe ≠ 0 ∧ L.length = 0) := by simpa using h1
  rw [if_neg h1] at hq
  refine GO ?_
  refine Ch.c (stCopyC s hs.1) (r := ?_)
  refine GO ?_
  refine W.lpG (fun q : Nat × Nat × State => q.1 ≤ L.length ∧ q.2.1 < r.schemas.length ∧ StS q.2.2 ∧ goT r an b s = walkT r q.2.1 (L.drop q.1) q.2.2) (fun q => [(13, iT q.2.1), (45, iT q.1)]) [(4, _), (7, _), (8, _), (43, _), (44, _)] (fun q => [(1, .box 94 ((stateF q.2.2).map C.d))]) [(0, _), (2, _)] (fun q => L.length - q.1) (0, an, s) (⟨Nat.zero_le _, by simp only; omega, hs, hq⟩) (round := fun q hI => ?_)
  clear hq hs hfi h1
  obtain ⟨i, k, s1⟩ := q
  obtain ⟨hi, hk, hs, hq⟩ := hI
  replace hs : StS s1 := hs
  simp only at hi hk hq ⊢
  by_cases hlt : i < L.length
  · have hh := List.getElem?_eq_getElem hlt
    generalize L[i] = h at hh
    obtain ⟨m, j, hm, hjm⟩ := hw1 h (List.mem_of_getElem? hh)
    rw [drop_at hh, walkT] at hq
    obtain ⟨hj, bk⟩ := h
    simp only at hm
    subst hm
    have hx := List.getElem?_eq_getElem hk
    generalize r.schemas[k]'hk = x at hx
    have hh1 := thopC r k m bk s1 x j hR hG hx hjm hs.1
    have hs1 : StS (hopS cvP r k ⟨(m : Int), bk⟩ s1).1 := goS_fit cvP_ok hs.1
    rw [joinAt_eq hjm] at hq
    have hrg := hI4 j (List.mem_of_getElem? hjm)
    obtain ⟨kt, hkt⟩ := Int.eq_ofNat_of_zero_le (show 0 ≤ hopEnd j bk by unfold hopEnd; split <;> omega)
    have hktl : kt < r.schemas.length := by have : hopEnd j bk < r.schemas.length := by { unfold hopEnd; split <;> omega }; omega
    simp only [hkt] at hq hh1
    generalize hopS cvP r k ⟨(m : Int), bk⟩ s1 = p1 at *
    refine GO ?_
    refine Ch.c (hh1) (r := ?_)
    refine GO ?_
    refine W.cond rfl (fun h2 => ?_) (fun h2 => ?_)
    · rw [stU_e (hq.trans (if_pos (by simpa using h2)))]
      refine GO ?_
      refine W.boxL 2 zS (stateF zeroS) nil_state (h := ?_)
      exact fin2
    rw [if_neg (by simpa using h2)] at hq
    refine GO ?_
    exact W.ag (i + 1, kt, p1.1) ⟨hlt, hktl, hs1, hq⟩ (by simp only; omega)
  · obtain rfl : i = L.length := by omega
    rw [List.drop_length, walkT] at hq
    rw [stU_e hq]
    refine GO ?_
    exact fin2
set_option maxRecDepth 10000 in
theorem tSeenC (r : Registry) (a b : Int) (s : State) (hR : RawH) (hG : RegG r) (hw : WayOk r a b) (hs : StS s) : ∀ n, Con Tryz.prog 87 [agD (regF r), iT a, iT b, agD (stateF s)] [] n (.tup [.ag ((docF (goT r a b s).1.doc).map C.d), .one (.d (i64 (goT r a b s).2))]) [] n := by
  refine fnI Tryz.func87 Tryz.ntmps87 (h := fun S w0 β0 X => ?_)
  refine GO ?_
  refine Ch.c (tGoC r a b s hR hG hw hs) (r := ?_)
  refine GO ?_
  exact fin2
end Go.Proofs.YtelkpflpgpdkdaaGreatDoor
namespace Go.Proofs.YtelkpflpgpdkdaaGreatDoor
open Go.Sv
set_option maxRecDepth 10000
open Go.RowKit
/-- A hop over a join that is there. -/
def HopIn (js : List Join) (h : Hop) : Prop := ∃ (i : Nat) (j : Join), h.join = i ∧ js[i]? = some j
/-- Ways over joins that are there, not too long. -/
def WGood (js : List Join) (c : Nat) (M : Ways) : Prop := ∀ v w, M v = some w → (∀ h ∈ w, HopIn js h) ∧ w.length ≤ c
theorem WGood.put {js : List Join} {c : Nat} {M : Ways} {k : Int} {w : List Hop} (h : WGood js c M) (hw : ∀ x ∈ w, HopIn js x) (hl : w.length ≤ c) : WGood js c (M.put k w) := fun v u hv => by
  unfold Ways.put at hv
  split at hv
  · cases hv; exact ⟨hw, hl⟩
  · exact h v u hv
theorem goHops_good {js : List Join} {c n : Nat} {V : Ways → Int → List Hop → Option Ways} {way : List Hop} (hV : ∀ (M : Ways) (v : Int) (h : Hop) (M' : Ways), HopIn js h → WGood js c M → V M v (way ++ [h]) = some M' → WGood js c M') : ∀ (l : List Hop) (M M' : Ways), (∀ h ∈ l, HopIn js h) → WGood js c M → goHops V n js way l M = some M' → WGood js c M'
  | [], M, M', _, h, e => by unfold goHops at e; cases e; exact h
  | x :: l, M, M', hl, h, e => by
    unfold goHops at e
    have hl2 : ∀ h ∈ l, HopIn js h := fun y hy => hl y (List.mem_cons_of_mem _ hy)
    split at e
    · obtain ⟨M1, e1, e2⟩ := Option.bind_eq_some_iff.1 e
      exact goHops_good hV l M1 M' hl2 (hV _ _ _ _ (hl x (List.mem_cons_self ..)) h e1) e2
    · exact goHops_good hV l M M' hl2 h e
theorem visit_good {js : List Join} {c n : Nat} : ∀ (f : Nat) (M : Ways) (k : Int) (w : List Hop) (M' : Ways), WGood js c M → (∀ x ∈ w, HopIn js x) → w.length + f ≤ c + 1 → visitN n js f M k w = some M' → WGood js c M'
  | 0, _, _, _, _, _, _, _, e => by unfold visitN at e; cases e
  | f + 1, M, k, w, M', h, hw, hl, e => by
    unfold visitN at e
    refine goHops_good (fun M v x M' hx hM e => visit_good f M v (w ++ [x]) M' hM (fun y hy => ?_) ?_ e) _ _ _ (fun x hx => ?_) (h.put (k := k) hw (by omega)) e
    · rcases List.mem_append.1 hy with hy | hy
      · exact hw y hy
      · rw [List.mem_singleton.1 hy]; exact hx
    · rw [List.length_append, List.length_singleton]; omega
    · obtain ⟨m, j, h1, h2, _⟩ := hopsG_mem hx
      exact ⟨m, j, h1, h2⟩
theorem way_ok (r : Registry) (a b : Int) : WayOk r a b := by
  unfold WayOk pathE
  split
  · exact ⟨nofun, Nat.zero_le _⟩
  rename_i h0
  split
  · exact ⟨nofun, Nat.zero_le _⟩
  split
  · exact ⟨nofun, Nat.zero_le _⟩
  rename_i l hl
  obtain ⟨M, h1, h2⟩ := Option.bind_eq_some_iff.1 hl
  obtain ⟨q1, _⟩ := regRight_ok (Bool.of_not_eq_false h0)
  unfold waysN at h1
  split at h1
  · have hg := visit_good (js := r.joins) (c := r.schemas.length) _ _ _ [] _ (fun _ _ e => by cases e) (fun _ hx => by cases hx) (by simp) h1
    obtain ⟨h3, h4⟩ := hg b l h2
    exact ⟨h3, by simp only at h4 ⊢; omega⟩
  · cases h1; cases h2
structure FileP where
  name : Str
  schema : Int
  state : State
instance : Inhabited FileP := ⟨⟨default, 0, zeroS⟩⟩
structure Snp where
  reg : Registry
  files : List FileP
def fileF (f : FileP) : List D := str f.name :: i64 f.schema :: stateF f.state
def snapF (s : Snp) : List D := regF s.reg ++ [sl 8 (s.files.map fileF)]
def zeroSnap : Snp := ⟨zeroR, []⟩
noncomputable def fileStep (r : Registry) (l : List FileP) (j : Nat) : Bool := nameOk (l.getD j default).name && (!(decide (0 < j) && sLe (l.getD j default).name (l.getD (j - 1) default).name) && wholeS cvP r (l.getD j default).schema (l.getD j default).state)
noncomputable def filesTo (r : Registry) (l : List FileP) (k : Nat) : Bool := (List.range k).all (fileStep r l)
theorem filesTo_succ (r : Registry) (l : List FileP) (k : Nat) : filesTo r l (k + 1) = (filesTo r l k && fileStep r l k) := by simp [filesTo, List.range_succ]
theorem filesTo_false {r : Registry} {l : List FileP} {k : Nat} (hk : k < l.length) (h : fileStep r l k = false) : filesTo r l l.length = false := by
  unfold filesTo
  rw [List.all_eq_false]
  exact ⟨k, List.mem_range.2 hk, by simp [h]⟩
/-- As snap.Right says. -/
noncomputable def snapRight (s : Snp) : Bool := decide (s.files.length ≤ 16) && regRight s.reg && filesTo s.reg s.files s.files.length
/-- What is asked of a snapshot that is gone through. -/
structure SnpG (s : Snp) : Prop where
  reg : RegG s.reg
  len : s.files.length ≤ 1000000
  sts : ∀ f ∈ s.files, StS f.state
/-- A file's place. -/
def fileIdx (l : List FileP) (s : Str) : Int := idxOf (fun f => f.name.toList == s.toList) l
/-- A schema's place in a right registry. -/
def schemaFind (r : Registry) (s : Str) : Int := if regRight r = false then -1 else schemaIdx r s
end Go.Proofs.YtelkpflpgpdkdaaGreatDoor
namespace Go.Proofs.YtelkpflpgpdkdaaGreatDoor
open Go.Sv
set_option maxRecDepth 10000
theorem fnamedC (f : FileP) (s : Str) : ∀ n, Con Tryz.prog 68 [agD (fileF f), sT s] [] n (bT (f.name.toList == s.toList)) [] n := by
  refine fnI Tryz.func68 Tryz.ntmps68 (h := fun S w0 β0 X => ?_)
  refine GO ?_
  exact fin1
theorem fcopiedC (f : FileP) (hs : StS f.state) : ∀ n, Con Tryz.prog 67 [agD (fileF f)] [] n (agD (fileF f)) [] n := by
  refine fnI Tryz.func67 Tryz.ntmps67 (h := fun S w0 β0 X => ?_)
  refine GO ?_
  refine Ch.c (stCopyC f.state hs.1) (r := ?_)
  refine GO ?_
  exact fin1
set_option maxRecDepth 10000 in
theorem indexFileC {ls : List (List D)} {xs : List FileP} [Row ls FileP xs fileF] (f : FuncId) (cs : List D) (p : FileP → Bool) (hc : ∀ x ∈ xs, ∀ n, Con Tryz.prog f ([agD (fileF x)] ++ cs.map dT) [] n (bT (p x)) [] n) : ∀ n, Con Tryz.prog 69 [dT (sl 8 ls), dT (cloD f cs)] [] n (iT (idxOf p xs)) [] n := by
  refine fnI Tryz.func69 Tryz.ntmps69 (h := fun S w0 β0 X => ?_)
  refine GO ?_
  refine W.len 6 (h := fun hl => ?_)
  refine W.lp (fun k => k ≤ xs.length ∧ ∀ y ∈ xs.take k, p y = false) (fun k => [(8, iT k)]) [(7, _), (0, _), (1, _)] (xs.length - ·) 0 ⟨Nat.zero_le _, nofun⟩ (round := fun k hk => ?_)
  by_cases hlt : k < xs.length
  · have hx := List.getElem?_eq_getElem hlt
    generalize xs[k] = x at hx
    refine GO ?_
    refine Ch.dy (hc x (List.mem_of_getElem? hx)) (r := ?_)
    cases hp : p x
    · refine GO ?_
      exact W.ag (k + 1) ⟨hlt, take_all_succ hx hp hk.2⟩ (by omega)
    · refine GO ?_
      exact fin1 (he := by rw [idxOf_at hx hp hk.2]; rfl)
  · obtain rfl : k = xs.length := by omega
    refine GO ?_
    exact fin1 (he := by rw [idxOf_none fun y hy => hk.2 y (by rwa [List.take_length])]; rfl)
theorem ffind1C (f : FileP) (s : Str) : ∀ n, Con Tryz.prog 70 [agD (fileF f), dT (adr [cloD 68 []]), dT (adr [str s])] [] n (bT (f.name.toList == s.toList)) [] n := by
  refine fnI Tryz.func70 Tryz.ntmps70 (h := fun S w0 β0 X => ?_)
  refine GO ?_
  refine Ch.dy (ts := [agD (fileF f), sT s]) (cs := []) (fnamedC f s) (r := ?_)
  refine GO ?_
  exact fin1
theorem ffindC (x : Snp) (s : Str) : ∀ n, Con Tryz.prog 46 [agD (snapF x), sT s] [] n (iT (fileIdx x.files s)) [] n := by
  refine fnI Tryz.func46 Tryz.ntmps46 (h := fun S w0 β0 X => ?_)
  have st : Stop 2 := ⟨⟩
  refine GO ?_
  refine W.frzB 1 [str s] (h := ?_)
  refine W.frzB 2 [cloD 68 []] (h := ?_)
  clear st
  refine GO ?_
  refine Ch.p (OpT.cloD (cs := [adr [cloD 68 []], adr [str s]])) ⟨rfl, rfl, trivial⟩ ?_
  refine GO ?_
  refine Ch.c (indexFileC (xs := x.files) _ [adr [cloD 68 []], adr [str s]] (fun f => f.name.toList == s.toList) fun f _ => ffind1C f s) (r := ?_)
  refine GO ?_
  exact fin1
end Go.Proofs.YtelkpflpgpdkdaaGreatDoor
namespace Go.Proofs.YtelkpflpgpdkdaaGreatDoor
open Go.Sv
set_option maxRecDepth 10000
set_option maxHeartbeats 2000000 in
theorem sRightC (hR : RawH) (s : Snp) (hs : SnpG s) : ∀ n, Con Tryz.prog 42 [agD (snapF s)] [] n (bT (snapRight s)) [] n := by
  refine fnI Tryz.func42 Tryz.ntmps42 (h := fun S w0 β0 X => ?_)
  have hgr := gRightC hR s.reg hs.reg.ok.typs hs.reg.ok.lens (by have := hs.reg.ok.len; omega) (by have := hs.reg.ok.len; omega)
  have hln := hs.len
  refine GO ?_
  refine Ch.gc (hc := fun _ => hgr) (r := ?_)
  refine GO ?_
  refine W.cond rfl (fun h => ?_) (fun h => ?_)
  · refine GO ?_
    exact finB (he := by rw [snapRight]; grind)
  have h0 : s.files.length ≤ 16 ∧ regRight s.reg = true := by grind
  refine GO ?_
  refine W.lp (fun k => k ≤ s.files.length ∧ filesTo s.reg s.files k = true) (fun k => [(18, iT k)]) [(17, _), (16, _), (1, _)] (s.files.length - ·) 0 (⟨Nat.zero_le _, rfl⟩) (round := fun k hk => ?_)
  by_cases hlt : k < s.files.length
  · have hx := List.getElem?_eq_getElem hlt
    generalize s.files[k] = x at hx
    have hxd : s.files.getD k default = x := by simp [hx]
    have hsucc := filesTo_succ s.reg s.files k
    have hst : fileStep s.reg s.files k = (nameOk x.name && (!(decide (0 < k) && sLe x.name (s.files.getD (k - 1) default).name) && wholeS cvP s.reg x.schema x.state)) := by rw [fileStep, hxd]
    refine GO ?_
    refine Ch.c (nameC x.name) (r := ?_)
    refine GO ?_
    refine Ch.g (h := fun hg => OpT.indexR (j := k - 1) (v := s.files.getD (k - 1) default) (hij := by grind) (hj := getD_at (by omega))) (r := ?_)
    refine GO ?_
    refine Ch.gc (hc := fun _ => wholeC s.reg x.schema x.state hR hs.reg (hs.sts x (List.mem_of_getElem? hx))) (r := ?_)
    refine GO ?_
    refine W.cond rfl (fun h => ?_) (fun h => ?_)
    · refine GO ?_
      exact finB (he := by
        rw [snapRight, filesTo_false hlt (by rw [hst]; grind [sLe])]
        simp)
    · refine GO ?_
      exact W.ag (k + 1) (⟨hlt, by grind [sLe]⟩) (by omega)
  · obtain rfl : k = s.files.length := by omega
    refine GO ?_
    exact finB (he := by rw [snapRight, hk.2]; grind)
/-- As graph.Find says. -/
theorem gFindC (hR : RawH) (r : Registry) (s : Str) (hG : RegG r) : ∀ n, Con Tryz.prog 47 [agD (regF r), sT s] [] n (iT (schemaFind r s)) [] n := by
  refine fnI Tryz.func47 Tryz.ntmps47 (h := fun S w0 β0 X => ?_)
  have hgr := gRightC hR r hG.ok.typs hG.ok.lens (by have := hG.ok.len; omega) (by have := hG.ok.len; omega)
  refine GO ?_
  refine Ch.c (hgr) (r := ?_)
  refine GO ?_
  refine W.cond rfl (fun h => ?_) (fun h => ?_)
  · refine GO ?_
    exact finI (he := by rw [schemaFind, if_pos (by simpa using h)])
  · refine GO ?_
    refine Ch.c (gfindC r s) (r := ?_)
    refine GO ?_
    exact finI (he := by rw [schemaFind, if_neg (by simpa using h)])
/-- As snap's both says. -/
noncomputable def bothE (s : Snp) (n m : Str) : Int × Int × Int := if snapRight s = false then (0, 0, 1) else if fileIdx s.files n < 0 ∨ schemaFind s.reg m < 0 then (0, 0, 3) else (fileIdx s.files n, schemaFind s.reg m, 0)
def i3T (p : Int × Int × Int) : T := .tup [.one (.d (i64 p.1)), .one (.d (i64 p.2.1)), .one (.d (i64 p.2.2))]
set_option maxHeartbeats 1000000 in
theorem sbothC (hR : RawH) (s : Snp) (u v : Str) (hs : SnpG s) : ∀ n, Con Tryz.prog 86 [agD (snapF s), sT u, sT v] [] n (i3T (bothE s u v)) [] n := by
  refine fnI Tryz.func86 Tryz.ntmps86 (h := fun S w0 β0 X => ?_)
  have hf := gFindC hR s.reg v hs.reg
  have hd := ffindC s u
  have hq := (rfl : bothE s u v = bothE s u v)
  conv at hq => rhs; rw [bothE]
  generalize schemaFind s.reg v = k at *
  generalize fileIdx s.files u = a at *
  refine GO ?_
  refine Ch.c (sRightC hR s hs) (r := ?_)
  generalize snapRight s = b at *
  refine GO ?_
  refine W.cond rfl (fun h => ?_) (fun h => ?_)
  · rw [show b = false by simpa using h] at hq
    rw [if_pos rfl] at hq
    refine GO ?_
    rw [hq]
    exact fin3
  rw [show b = true by simpa using h] at hq
  rw [if_neg (by simp)] at hq
  refine GO ?_
  refine Ch.c (hd) (r := ?_)
  refine GO ?_
  refine Ch.c (hf) (r := ?_)
  refine GO ?_
  refine W.cond rfl (fun h1 => ?_) (fun h1 => ?_)
  · rw [if_pos (by simpa using h1)] at hq
    refine GO ?_
    rw [hq]
    exact fin3
  rw [if_neg (by simpa using h1)] at hq
  refine GO ?_
  rw [hq]
  exact fin3
end Go.Proofs.YtelkpflpgpdkdaaGreatDoor
