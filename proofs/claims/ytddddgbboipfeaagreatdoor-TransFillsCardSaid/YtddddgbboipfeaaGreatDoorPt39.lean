/- Part 39 of what TransFills asks: for every input it returns true, and its input reads as it did. No condition. -/
import Derived.Test.YtddddgbboipfeaaGreatDoorPt37
import Derived.Test.YtddddgbboipfeaaGreatDoorPt38
namespace Go.Proofs.YtddddgbboipfeaaGreatDoor
open Go.Sv
def ratT (s : Lens) (t : Typ) : Typ := if (Lens.at1 s t).2 = 0 then (Lens.at1 s t).1 else t
def ratU (s : Lens) (t : Typ) : T := recU (ratT s t) (Lens.at1 s t).2
theorem ratU_err {s : Lens} {t : Typ} {e : Int} (h : (Lens.at1 s t).2 = e) (h0 : e ≠ 0) : ratU s t = recU t e := by
  rw [ratU, ratT, h, if_neg h0]
theorem ratU_ok {s : Lens} {t u : Typ} (h : Lens.at1 s t = (u, 0)) : ratU s t = recU u 0 := by
  rw [ratU, ratT, h]; rfl
theorem ratU_one {s : Lens} {t u v : Typ} {e : Int} (h : Lens.at1 s t = (u, e)) (hv : v = if e = 0 then u else t) : ratU s t = recU v e := by
  rw [ratU, ratT, h, hv]
def RStepsC (l : List Lens) : Prop := ∀ t : Typ, t.right = true → t.kind = 1 → ∀ n, Con Tryz.prog 135 [agD (typF t), dT (sl 16 (lensesC l))] [] n (stepsU (Lens.steps l t)) [] n
structure RLensOk (s : Lens) : Prop where
  typ : s.typ.fit
  doc : s.doc.fit
  len : s.swaps.length ≤ 1000000
  subs : RStepsC s.subs
set_option maxRecDepth 10000 in
set_option maxHeartbeats 4000000 in
theorem ratC (t : Typ) (s : Lens) (ht : t.right = true) (hs : RLensOk s) : ∀ n, Con Tryz.prog 176 [agD (typF t), agD (lensF s)] [] n (ratU s t) [] n := by
  refine fnI Tryz.func176 Tryz.ntmps176 (h := fun S w0 β0 X => ?_)
  have hl := Typ.right_len ht
  refine GO ?_
  refine W.cond rfl (fun hb => ?_) (fun hb => ?_)
  · have hb : s.kind < 1 ∨ 10 < s.kind := by simpa using hb
    rw [ratU_err (e := 1) (by rw [Lens.at1_bad hb]) (by decide)]
    refine GO ?_
    exact fin2
  have hb : ¬ (s.kind < 1 ∨ 10 < s.kind) := by simpa using hb
  by_cases k2 : s.kind = 2
  · have hA := Lens.at1_add k2 t
    rw [ratU_one (v := raddT s t) hA rfl]
    refine GO ?_
    refine Ch.c (r7addC t s hl hs.typ hs.doc) (r := ?_)
    refine GO ?_
    exact fin2
  refine GO ?_
  cases hf : t.find s.a with
  | none =>
    rw [ratU_err (e := 9) (by rw [Lens.at1_miss k2 hb hf]) (by decide)]
    refine Ch.c (rfieldN hl hf) (r := ?_)
    refine GO ?_
    exact fin2
  | some f =>
  obtain ⟨j, hj, hi⟩ := find_at hf
  have hj0 : ¬ ((j : Int) < 0) := by omega
  have hr := Typ.find_typ ht hf
  have h1 := Lens.at1_some k2 hb hf
  refine Ch.c (rfieldS hl hi) (r := ?_)
  refine GO ?_
  refine W.cond rfl (fun ho => ?_) (fun ho => ?_)
  · have ho : f.opt = true ∧ s.kind ≠ 1 := by grind
    rw [if_pos ho] at h1
    rw [ratU_err (e := 7) (by rw [h1]) (by decide)]
    refine GO ?_
    exact fin2
  have ho : ¬ (f.opt = true ∧ s.kind ≠ 1) := by grind
  rw [if_neg ho] at h1
  refine GO ?_
  refine Ch.c (rscalarTC f.typ) (r := ?_)
  refine GO ?_
  by_cases k1 : s.kind = 1
  · simp only [if_pos k1] at h1
    refine GO ?_
    refine Ch.c (rnameC s.b) (r := ?_)
    refine GO ?_
    refine W.cond rfl (fun h => ?_) (fun h => ?_)
    · rw [ratU_err (e := 1) (by rw [h1, renameE]; grind) (by decide)]
      refine GO ?_
      exact fin2
    cases hb2 : t.find s.b with
    | some g =>
      obtain ⟨i, _, hii⟩ := find_at hb2
      have hi0 : ¬ ((i : Int) < 0) := by omega
      rw [ratU_err (e := 5) (by rw [h1, renameE]; grind) (by decide)]
      refine GO ?_
      refine Ch.c (rfieldS hl hii) (r := ?_)
      refine GO ?_
      exact fin2
    | none =>
      rw [ratU_ok (u := (t.without s.a).with_ (.mk s.b f.opt f.typ)) (by rw [h1, renameE]; grind)]
      refine GO ?_
      refine Ch.c (rfieldN hl hb2) (r := ?_)
      refine GO ?_
      refine Ch.c (r7withoutC t s.a hl) (r := ?_)
      refine GO ?_
      refine Ch.c (r7withC (t.without s.a) (.mk s.b f.opt f.typ) (wo_len t s.a hl)) (r := ?_)
      refine GO ?_
      exact fin2
  have hof : f.opt = false := by grind
  simp only [if_neg k1] at h1
  by_cases k3 : s.kind = 3
  · simp only [if_pos k3] at h1
    refine GO ?_
    refine Ch.c (rsameTC f.typ s.typ (Typ.right_fit hr)) (r := ?_)
    refine GO ?_
    refine W.cond rfl (fun h => ?_) (fun h => ?_)
    · have h7 : removeE f s.typ s.doc = 7 := by
        rw [removeE]
        split
        · rfl
        · rename_i h8
          have h8 : Typ.same f.typ s.typ = true := by simpa using h8
          have := Typ.same_eq _ _ h8
          rw [scalarE, ← this]
          grind
      rw [ratU_err (e := 7) (by rw [h1, h7]) (by decide)]
      refine GO ?_
      exact fin2
    have hsa : Typ.same f.typ s.typ = true ∧ scalarB f.typ = true := by grind
    have heq := Typ.same_eq _ _ hsa.1
    have hE : removeE f s.typ s.doc = if isOf s.typ s.doc = false then 8 else 0 := by
      rw [removeE, if_neg (by rw [hsa.1]; decide), scalarE, ← heq, hr, hsa.2]; rfl
    refine GO ?_
    refine Ch.c (risC s.typ s.doc hs.typ hs.doc) (r := ?_)
    refine GO ?_
    refine W.cond rfl (fun h3 => ?_) (fun h3 => ?_)
    · rw [ratU_err (e := 8) (by rw [h1, hE]; grind) (by decide)]
      refine GO ?_
      exact fin2
    rw [ratU_ok (u := t.without s.a) (by rw [h1, hE]; grind)]
    refine GO ?_
    refine Ch.c (r7withoutC t s.a hl) (r := ?_)
    refine GO ?_
    exact fin2
  simp only [if_neg k3] at h1
  by_cases k4 : s.kind = 4
  · simp only [if_pos k4] at h1
    rw [ratU_one (v := hoiT t f s.a s.b) h1 rfl]
    refine GO ?_
    refine Ch.c (r7move4C t f s ht hf hof k4) (r := ?_)
    refine GO ?_
    exact fin2
  simp only [if_neg k4] at h1
  by_cases k5 : s.kind = 5
  · simp only [if_pos k5] at h1
    rw [ratU_one (v := pluT t f s.a s.b) h1 rfl]
    refine GO ?_
    refine Ch.c (r7move5C t f s ht hf hof k5) (r := ?_)
    refine GO ?_
    exact fin2
  simp only [if_neg k5] at h1
  by_cases k6 : s.kind = 6
  · simp only [if_pos k6] at h1
    refine GO ?_
    refine W.cond rfl (fun h => ?_) (fun h => ?_)
    · rw [ratU_err (e := 7) (by rw [h1]; grind) (by decide)]
      refine GO ?_
      exact fin2
    rw [ratU_ok (u := t.set s.a (.mk 3 1 1 [] [] [f.typ])) (by rw [h1]; grind)]
    refine GO ?_
    refine Ch.p (OpT.slice1' (hs := asAg (l := typF f.typ) rfl)) ⟨rfl, trivial⟩ ?_
    refine GO ?_
    refine Ch.c (fun n => (r7setC t s.a (.mk 3 1 1 [] [] [f.typ]) f hl hf hof n).argL (args := [agD (typF t), sT s.a, agD [i64 3, i64 1, i64 1, nilD, nilD, sl 6 [typF f.typ]]]) ⟨.refl _, .refl _, .ag (typ_nils f.typ), trivial⟩) (r := ?_)
    refine GO ?_
    exact fin2
  simp only [if_neg k6] at h1
  by_cases k7 : s.kind = 7
  · simp only [if_pos k7] at h1
    cases hoo : f.typ.of with
    | cons o l =>
      have ho0 : f.typ.of[0]? = some o := by rw [hoo]; rfl
      have ho1 : f.typ.of0 = o := by rw [Typ.of0, hoo]; rfl
      rw [ho1] at h1
      refine GO ?_
      refine Ch.gc (hc := fun _ => rscalarTC o) (r := ?_)
      refine GO ?_
      refine W.cond rfl (fun h => ?_) (fun h => ?_)
      · rw [ratU_err (e := 7) (by rw [h1, headE, ho1]; grind) (by decide)]
        refine GO ?_
        exact fin2
      rw [ratU_ok (u := t.set s.a o) (by rw [h1, headE, ho1]; grind)]
      refine GO ?_
      refine Ch.c (r7setC t s.a o f hl hf hof) (r := ?_)
      refine GO ?_
      exact fin2
    | nil =>
      have k3 : f.typ.kind ≠ 3 := fun k3 => by
        obtain ⟨o, h, _⟩ := part_of (Typ.right_parts hr).2.2 (.inr k3)
        rw [hoo] at h; cases h
      rw [ratU_err (e := 7) (by rw [h1, headE, if_pos (.inl k3)]) (by decide)]
      refine GO ?_
      refine Ch.g (out := dT (adr (typF (.mk 0 0 0 [] [] [])))) (h := fun hc => absurd hc (by simp [k3])) (r := ?_)
      refine GO ?_
      refine Ch.gc (hc := fun _ => rscalarTC (.mk 0 0 0 [] [] [])) (r := ?_)
      refine GO ?_
      refine W.cond rfl (fun h => ?_) (fun h => ?_)
      · refine GO ?_
        exact fin2
      · exact absurd h (by simp [k3])
  simp only [if_neg k7] at h1
  by_cases k8 : s.kind = 8
  · simp only [if_pos k8] at h1
    refine GO ?_
    refine W.cond rfl (fun h => ?_) (fun h => ?_)
    · rw [ratU_err (e := 7) (by rw [h1]; grind) (by decide)]
      refine GO ?_
      exact fin2
    rw [ratU_one (v := t) (e := swapsE s.swaps f.typ) (u := t) (by rw [h1]; grind) (by split <;> rfl)]
    refine GO ?_
    refine Ch.c (r7swapsC s.swaps f.typ hs.len) (r := ?_)
    refine GO ?_
    exact fin2
  simp only [if_neg k8] at h1
  by_cases k9 : s.kind = 9
  · simp only [if_pos k9] at h1
    refine GO ?_
    refine W.cond rfl (fun h => ?_) (fun h => ?_)
    · have h : f.typ.kind ≠ 1 := by grind
      rw [if_pos h] at h1
      rw [ratU_err (e := 7) (by rw [h1]) (by decide)]
      refine GO ?_
      exact fin2
    have h : ¬ f.typ.kind ≠ 1 := by grind
    rw [if_neg h] at h1
    refine GO ?_
    refine Ch.c (hs.subs f.typ hr (by omega)) (r := ?_)
    refine GO ?_
    refine W.cond rfl (fun h0 => ?_) (fun h0 => ?_)
    · have h0 : (Lens.steps s.subs f.typ).2 ≠ 0 := by grind
      rw [ratU_err (e := (Lens.steps s.subs f.typ).2) (by rw [h1]) h0]
      refine GO ?_
      exact fin2
    have h0 : (Lens.steps s.subs f.typ).2 = 0 := by grind
    rw [ratU_ok (u := t.set s.a (Lens.steps s.subs f.typ).1) (by rw [h1, h0])]
    refine GO ?_
    refine Ch.c (r7setC t s.a (Lens.steps s.subs f.typ).1 f hl hf hof) (r := ?_)
    refine GO ?_
    exact fin2
  simp only [if_neg k9] at h1
  have k10 : s.kind = 10 := by omega
  by_cases kk2 : f.typ.kind = 2
  · obtain ⟨o, hoo, hop⟩ := part_of (Typ.right_parts hr).2.2 (.inl kk2)
    have ho0 : f.typ.of[0]? = some o := by rw [hoo]; rfl
    have ho1 : f.typ.of0 = o := by rw [Typ.of0, hoo]; rfl
    have hor : o.right = true := ho1 ▸ (Typ.right_one hr (.inl kk2)).2
    rw [ho1] at h1
    refine GO ?_
    refine W.cond rfl (fun h => ?_) (fun h => ?_)
    · rw [ratU_err (e := 7) (by rw [h1]; grind) (by decide)]
      refine GO ?_
      exact fin2
    have hk : o.kind = 1 := by grind
    rw [if_neg (by omega)] at h1
    refine GO ?_
    refine Ch.c (hs.subs o hor hk) (r := ?_)
    refine GO ?_
    refine W.cond rfl (fun h0 => ?_) (fun h0 => ?_)
    · have h0 : (Lens.steps s.subs o).2 ≠ 0 := by grind
      rw [ratU_err (e := (Lens.steps s.subs o).2) (by rw [h1]) h0]
      refine GO ?_
      exact fin2
    have h0 : (Lens.steps s.subs o).2 = 0 := by grind
    rw [ratU_ok (u := t.set s.a (.mk 2 f.typ.lo f.typ.hi [] [] [(Lens.steps s.subs o).1])) (by rw [h1, h0])]
    refine GO ?_
    refine Ch.p (OpT.slice1' (hs := asAg (l := typF (Lens.steps s.subs o).1) rfl)) ⟨rfl, trivial⟩ ?_
    refine GO ?_
    refine Ch.c (fun n => (r7setC t s.a (.mk 2 f.typ.lo f.typ.hi [] [] [(Lens.steps s.subs o).1]) f hl hf hof n).argL (args := [agD (typF t), sT s.a, agD [i64 2, i64 f.typ.lo, i64 f.typ.hi, nilD, nilD, sl 6 [typF (Lens.steps s.subs o).1]]]) ⟨.refl _, .refl _, .ag (typ_nils _), trivial⟩) (r := ?_)
    refine GO ?_
    exact fin2
  · rw [ratU_err (e := 7) (by rw [h1, if_pos (.inl kk2)]) (by decide)]
    cases hoo : f.typ.of with
    | cons o l =>
      have ho0 : f.typ.of[0]? = some o := by rw [hoo]; rfl
      refine GO ?_
      refine W.cond rfl (fun h => ?_) (fun h => ?_)
      · refine GO ?_
        exact fin2
      · exact absurd h (by simp [kk2])
    | nil =>
      refine GO ?_
      refine Ch.g (out := dT (adr (typF (.mk 0 0 0 [] [] [])))) (h := fun hc => absurd hc (by simp [kk2])) (r := ?_)
      refine GO ?_
      refine W.cond rfl (fun h => ?_) (fun h => ?_)
      · refine GO ?_
        exact fin2
      · exact absurd h (by simp [kk2])
end Go.Proofs.YtddddgbboipfeaaGreatDoor
namespace Go.Proofs.YtddddgbboipfeaaGreatDoor
open Go.Sv
set_option maxRecDepth 10000 in
set_option maxHeartbeats 1000000 in
theorem rstepsC : ∀ (m : Nat) (l : List Lens), Lens.size l < m → Lens.fit l → RStepsC l := by
  intro m
  induction m with
  | zero => intro l hz; exact absurd hz (Nat.not_lt_zero _)
  | succ m ih =>
  intro l hz hfit t ht hk
  have hlen := hfit.len
  refine fnI Tryz.func135 Tryz.ntmps135 (h := fun S w0 β0 X => ?_)
  refine GO ?_
  refine W.lpG ((fun k => k ≤ l.length ∧ (lAt l t k).right = true ∧ (lAt l t k).kind = 1 ∧ Lens.steps l t = Lens.steps (l.drop k) (lAt l t k))) (fun k => [(5, iT 0), (6, iT 0), (7, iT k)]) [(1, _), (2, _), (4, _)] (fun k => [(0, .box 62 ((typF (lAt l t k)).map C.d))]) [(1, _)] (l.length - ·) 0 (⟨Nat.zero_le _, ht, hk, rfl⟩) (round := fun k hI => ?_)
  obtain ⟨hkl, hr, hk1, hst⟩ := hI
  by_cases hlt : k < l.length
  · have hs := List.getElem?_eq_getElem hlt
    generalize l[k] = s at hs
    have hsm := List.mem_of_getElem? hs
    have hd : l.drop k = s :: l.drop (k + 1) := by rw [List.drop_eq_getElem_cons hlt]; congr 1; exact Option.some.inj ((List.getElem?_eq_getElem hlt).symm.trans hs)
    obtain ⟨f1, f2, f3, f4⟩ := hfit.sub hsm
    have hz2 := Lens.size_mem hsm
    have hO : RLensOk s := ⟨f1, f2, f3, ih s.subs (by omega) f4⟩
    have hA : lAt l t (k + 1) = (Lens.at1 s (lAt l t k)).1 := by rw [lAt, hs]
    rw [hd] at hst
    refine GO ?_
    refine Ch.c (ratC (lAt l t k) s hr hO) (r := ?_)
    by_cases h0 : (Lens.at1 s (lAt l t k)).2 = 0
    · have hfk := Lens.at1_fit s (lAt l t k) hr hk1 h0
      rw [ratU_ok (s := s) (t := lAt l t k) (u := (Lens.at1 s (lAt l t k)).1) (by rw [← h0])]
      refine GO ?_
      refine Ch.c (rrightTC (Lens.at1 s (lAt l t k)).1 hfk.1) (r := ?_)
      refine GO ?_
      refine W.cond rfl (fun hrr => ?_) (fun hrr => ?_)
      · have hrr : (Lens.at1 s (lAt l t k)).1.right = false := by simpa using hrr
        rw [stepsU_e (hst.trans (steps_full h0 hrr))]
        refine GO ?_
        refine W.nilB 1 3 9 1 (h := ?_)
        refine W.nilB 1 4 66 8 (h := ?_)
        refine W.nilB 1 5 62 6 (h := ?_)
        refine W.frz 3 (h := ?_)
        refine W.frz 4 (h := ?_)
        refine W.frz 5 (h := ?_)
        refine W.less 5 intA rfl int_intA ?_
        exact fin3
      have hrr : (Lens.at1 s (lAt l t k)).1.right = true := by simpa using hrr
      have hon := hst.trans (steps_on h0 hrr)
      refine GO ?_
      rw [← hA]
      exact W.ag (k + 1) (⟨hlt, by rw [hA]; exact hrr, by rw [hA]; exact hfk.2, by rw [hA]; exact hon⟩) (by omega)
    · have hbad := hst.trans (steps_bad h0)
      rw [stepsU_e hbad, ratU_err (s := s) (t := lAt l t k) rfl h0]
      refine GO ?_
      refine W.nilB 1 3 9 1 (h := ?_)
      refine W.nilB 1 4 66 8 (h := ?_)
      refine W.nilB 1 5 62 6 (h := ?_)
      refine W.frz 3 (h := ?_)
      refine W.frz 4 (h := ?_)
      refine W.frz 5 (h := ?_)
      refine W.less 5 intA rfl int_intA ?_
      exact fin3
  · obtain rfl : k = l.length := by omega
    rw [List.drop_length] at hst
    rw [stepsU_e (show Lens.steps l t = (lAt l t l.length, 0) from hst)]
    refine GO ?_
    refine W.less 5 intA rfl int_intA ?_
    exact fin3
set_option maxRecDepth 10000 in
theorem rtargetC (t : Typ) (l : List Lens) (ht : t.fit) (hfit : Lens.fit l) : ∀ n, Con Tryz.prog 94 [agD (typF t), dT (sl 16 (lensesC l))] [] n (stepsU (Lens.target l t)) [] n := by
  refine fnI Tryz.func94 Tryz.ntmps94 (h := fun S w0 β0 X => ?_)
  refine GO ?_
  refine Ch.c (rrightTC t ht) (r := ?_)
  refine GO ?_
  refine W.cond rfl (fun h => ?_) (fun h => ?_)
  · rw [stepsU_e (show Lens.target l t = (typZ, 1) by grind [Lens.target, typZ])]
    refine GO ?_
    refine W.nilB 1 3 9 1 (h := ?_)
    refine W.nilB 1 4 66 8 (h := ?_)
    refine W.nilB 1 5 62 6 (h := ?_)
    refine W.frz 2 (h := ?_)
    refine W.frz 3 (h := ?_)
    refine W.frz 4 (h := ?_)
    refine W.less 5 intA rfl int_intA ?_
    exact fin3
  have hr : t.right = true ∧ t.kind = 1 := by grind
  refine GO ?_
  refine Ch.c (r7SizeC l (by have := hfit.1; omega)) (r := ?_)
  refine GO ?_
  refine W.cond rfl (fun h1 => ?_) (fun h1 => ?_)
  · rw [stepsU_e (show Lens.target l t = (typZ, 2) by grind [Lens.target, typZ])]
    refine GO ?_
    refine W.nilB 1 3 9 1 (h := ?_)
    refine W.nilB 1 4 66 8 (h := ?_)
    refine W.nilB 1 5 62 6 (h := ?_)
    refine W.frz 2 (h := ?_)
    refine W.frz 3 (h := ?_)
    refine W.frz 4 (h := ?_)
    refine W.less 5 intA rfl int_intA ?_
    exact fin3
  refine GO ?_
  refine Ch.c (r7DepthC l (by have := hfit.1; omega)) (r := ?_)
  refine GO ?_
  refine W.cond rfl (fun h2 => ?_) (fun h2 => ?_)
  · rw [stepsU_e (show Lens.target l t = (typZ, 6) by grind [Lens.target, typZ])]
    refine GO ?_
    refine W.nilB 1 3 9 1 (h := ?_)
    refine W.nilB 1 4 66 8 (h := ?_)
    refine W.nilB 1 5 62 6 (h := ?_)
    refine W.frz 2 (h := ?_)
    refine W.frz 3 (h := ?_)
    refine W.frz 4 (h := ?_)
    refine W.less 5 intA rfl int_intA ?_
    exact fin3
  rw [stepsU_e (show Lens.target l t = Lens.steps l t by grind [Lens.target])]
  refine GO ?_
  refine Ch.c (rstepsC _ l (Nat.lt_succ_self _) hfit t hr.1 hr.2) (r := ?_)
  refine GO ?_
  exact fin3
end Go.Proofs.YtddddgbboipfeaaGreatDoor
namespace Go.Proofs.YtddddgbboipfeaaGreatDoor
open Go.Sv
theorem swap_skip {n : Int} {p : Int × Int} {l : List (Int × Int)} (h1 : p.1 ≠ n) (h2 : p.2 ≠ n) : Lens.swap n (p :: l) = Lens.swap n l := by
  rw [Lens.swap, if_neg h1, if_neg h2]
set_option maxRecDepth 10000 in
theorem r7SwapC (m : Int) (l : List (Int × Int)) (hl : l.length ≤ 1000000) : ∀ n, Con Tryz.prog 225 [iT m, dT (sl 2 (l.map swapF))] [] n (iT (Lens.swap m l)) [] n := by
  refine fnI Tryz.func225 Tryz.ntmps225 (h := fun S w0 β0 X => ?_)
  refine GO ?_
  refine W.lp (fun k => k ≤ l.length ∧ Lens.swap m l = Lens.swap m (l.drop k)) (fun k => [(4, iT 0), (5, iT k)]) [(0, _), (1, _)] (l.length - ·) 0 (⟨Nat.zero_le _, rfl⟩) (round := fun k hk => ?_)
  obtain ⟨hkl, hsw⟩ := hk
  by_cases hlt : k < l.length
  · have hp := List.getElem?_eq_getElem hlt
    generalize l[k] = p at hp
    have hd : l.drop k = p :: l.drop (k + 1) := by rw [List.drop_eq_getElem_cons hlt]; congr 1; exact Option.some.inj ((List.getElem?_eq_getElem hlt).symm.trans hp)
    rw [hd] at hsw
    refine GO ?_
    refine Ch.p (OpT.idxArr 0 rfl (by decide) rfl Tryz.underlying171) ⟨rfl, rfl, trivial⟩ ?_
    refine GO ?_
    refine W.cond rfl (fun h1 => ?_) (fun h1 => ?_)
    · have h1 := of_decide_eq_true h1
      refine GO ?_
      refine Ch.p (OpT.idxArr 1 rfl (by decide) rfl Tryz.underlying171) ⟨rfl, rfl, trivial⟩ ?_
      refine GO ?_
      exact finI (he := by rw [hsw, Lens.swap, if_pos h1])
    · have h1 := of_decide_eq_false h1
      refine GO ?_
      refine Ch.p (OpT.idxArr 1 rfl (by decide) rfl Tryz.underlying171) ⟨rfl, rfl, trivial⟩ ?_
      refine GO ?_
      refine W.cond rfl (fun h2 => ?_) (fun h2 => ?_)
      · have h2 := of_decide_eq_true h2
        refine GO ?_
        refine Ch.p (OpT.idxArr 0 rfl (by decide) rfl Tryz.underlying171) ⟨rfl, rfl, trivial⟩ ?_
        refine GO ?_
        exact finI (he := by rw [hsw, Lens.swap, if_neg h1, if_pos h2])
      · have h2 := of_decide_eq_false h2
        refine GO ?_
        exact W.ag (k + 1) (⟨hlt, hsw.trans (swap_skip h1 h2)⟩) (by omega)
  · obtain rfl : k = l.length := by omega
    refine GO ?_
    exact finI (he := by rw [hsw, List.drop_length]; rfl)
theorem take_up0 {α : Type} {p : α → Prop} {l : List α} {k : Nat} {x : α} (hx : l[k]? = some x) (h : ∀ y ∈ l.take k, p y) (hp : p x) : ∀ y ∈ l.take (k + 1), p y := fun y hy => by
  rw [List.take_add_one, hx] at hy
  rcases List.mem_append.1 hy with h1 | h1
  · exact h y h1
  · simp at h1; rw [h1]; exact hp
set_option maxRecDepth 10000 in
theorem indexIntC (l : List Int) (m : Int) (hl : l.length ≤ 1000000) : ∀ n, Con Tryz.prog 287 [dT (intsD l), iT m] [] n (iT (idxOf (fun x => m == x) l)) [] n := by
  refine fnI Tryz.func287 Tryz.ntmps287 (h := fun S w0 β0 X => ?_)
  refine GO ?_
  refine W.lp (fun k => k ≤ l.length ∧ ∀ y ∈ l.take k, (m == y) = false) (fun k => [(4, iT 0), (8, iT k)]) [(0, _), (1, _), (7, _)] (l.length - ·) 0 (⟨Nat.zero_le _, by simp⟩) (round := fun k hI => ?_)
  by_cases hlt : k < l.length
  · have hx := List.getElem?_eq_getElem hlt
    generalize l[k] = x at hx
    refine GO ?_
    refine W.cond rfl (fun h => ?_) (fun h => ?_)
    · have h := of_decide_eq_true h
      refine GO ?_
      exact finI (he := by rw [idxOf_at hx (by simpa using h) hI.2])
    · have h := of_decide_eq_false h
      refine GO ?_
      exact W.ag (k + 1) (⟨hlt, take_up0 hx hI.2 (by simpa using h)⟩) (by omega)
  · obtain rfl : k = l.length := by omega
    have hn := hI.2
    rw [List.take_length] at hn
    refine GO ?_
    exact finI (he := by rw [idxOf_none hn])
end Go.Proofs.YtddddgbboipfeaaGreatDoor
namespace Go.Proofs.YtddddgbboipfeaaGreatDoor
open Go.Sv
theorem idx2 (m a b : Int) : idxOf (fun x => m == x) [a, b] = if a = m then 0 else if b = m then 1 else -1 := by
  by_cases h1 : a = m
  · rw [if_pos h1, idxOf_at (k := 0) (x := a) rfl (by simp [h1]) (by simp)]; rfl
  rw [if_neg h1]
  by_cases h2 : b = m
  · rw [if_pos h2, idxOf_at (k := 1) (x := b) rfl (by simp [h2]) (by simp; exact fun e => h1 e.symm)]; rfl
  rw [if_neg h2]
  exact idxOf_none (by simp; exact ⟨fun e => h1 e.symm, fun e => h2 e.symm⟩)
set_option maxRecDepth 10000 in
theorem lSwapC (m : Int) (l : List (Int × Int)) (hl : l.length ≤ 1000000) : ∀ n, Con Tryz.prog 274 [iT m, dT (sl 2 (l.map swapF))] [] n (iT (Lens.swap m l)) [] n := by
  refine fnI Tryz.func274 Tryz.ntmps274 (h := fun S w0 β0 X => ?_)
  refine GO ?_
  refine W.lp (fun k => k ≤ l.length ∧ Lens.swap m l = Lens.swap m (l.drop k)) (fun k => [(4, iT 0), (10, iT k)]) [(0, _), (8, _), (9, _)] (l.length - ·) 0 (⟨Nat.zero_le _, rfl⟩) (round := fun k hk => ?_)
  obtain ⟨hkl, hsw⟩ := hk
  by_cases hlt : k < l.length
  · have hp := List.getElem?_eq_getElem hlt
    generalize l[k] = p at hp
    have hd : l.drop k = p :: l.drop (k + 1) := by rw [List.drop_eq_getElem_cons hlt]; congr 1; exact Option.some.inj ((List.getElem?_eq_getElem hlt).symm.trans hp)
    rw [hd] at hsw
    have hi := indexIntC [p.1, p.2] m (by simp)
    rw [idx2] at hi
    have s4 : Stop 4 := ⟨⟩
    refine GO ?_
    clear s4
    refine W.frzB 0 [i64 p.1, i64 p.2] (h := ?_)
    refine GO ?_
    refine Ch.p (OpT.sliceArr (len := 2) (l := [i64 p.1, i64 p.2]) rfl (by decide) Tryz.underlying171) ⟨rfl, trivial⟩ ?_
    refine GO ?_
    by_cases h1 : p.1 = m
    · rw [if_pos h1] at hi
      refine Ch.c (hi) (r := ?_)
      refine GO ?_
      refine Ch.p (OpT.idxArr 1 rfl (by decide) rfl Tryz.underlying171) ⟨rfl, rfl, trivial⟩ ?_
      refine GO ?_
      exact finI (he := by rw [hsw, Lens.swap, if_pos h1])
    rw [if_neg h1] at hi
    by_cases h2 : p.2 = m
    · rw [if_pos h2] at hi
      refine Ch.c (hi) (r := ?_)
      refine GO ?_
      refine Ch.p (OpT.idxArr 0 rfl (by decide) rfl Tryz.underlying171) ⟨rfl, rfl, trivial⟩ ?_
      refine GO ?_
      exact finI (he := by rw [hsw, Lens.swap, if_neg h1, if_pos h2])
    · rw [if_neg h2] at hi
      refine Ch.c (hi) (r := ?_)
      refine GO ?_
      exact W.ag (k + 1) (⟨hlt, hsw.trans (swap_skip h1 h2)⟩) (by omega)
  · obtain rfl : k = l.length := by omega
    refine GO ?_
    exact finI (he := by rw [hsw, List.drop_length]; rfl)
theorem kinds11 (k : Int) : k = 1 ∨ k = 2 ∨ k = 4 ∨ k = 6 ∨ k = 3 ∨ k = 5 ∨ k = 7 ∨ k = 9 ∨ k = 10 ∨ (k ≠ 1 ∧ k ≠ 2 ∧ k ≠ 3 ∧ k ≠ 4 ∧ k ≠ 5 ∧ k ≠ 6 ∧ k ≠ 7 ∧ k ≠ 9 ∧ k ≠ 10) := by omega
theorem back_len (l : List Lens) : (Lens.back l).length = l.length := by rw [Lens.back_eq, List.length_reverse, List.length_map]
def RBackC (l : List Lens) : Prop := ∀ n, Con Tryz.prog 139 [dT (sl 16 (lensesC l))] [] n (dT (sl 16 (lensesC (Lens.back l)))) [] n
set_option maxRecDepth 10000 in
set_option maxHeartbeats 4000000 in
theorem rBackC : ∀ (m : Nat) (l : List Lens), Lens.size l < m → Lens.fit l → RBackC l := by
  intro m
  induction m with
  | zero => intro l hz; exact absurd hz (Nat.not_lt_zero _)
  | succ m ih =>
  intro l hz hfit
  have hlen := hfit.len
  refine fnI Tryz.func139 Tryz.ntmps139 (h := fun S w0 β0 X => ?_)
  have s2 : Stop 2 := ⟨⟩
  refine GO ?_
  clear s2
  refine W.nilT 3 71 16 (h := ?_)
  refine GO ?_
  have h00 : Lens.back (l.drop (l.length - 0)) = [] := by rw [Nat.sub_zero, List.drop_length]; rfl
  refine W.lpG (fun k : Nat => k ≤ l.length) (fun k => [(3, .one (.key 0)), (4, iT ((l.length : Int) - ((k + 1 : Nat) : Int)))]) [(0, _), (2, _)] (fun k => [(0, .row 71 16 ((Lens.back (l.drop (l.length - k))).map lensF))]) [] (fun k : Nat => l.length - k) 0 (Nat.zero_le _) (hH := by rw [h00]; (repeat (first | exact SubH.nil | refine SubH.cons rfl ?_))) (round := fun k hk => ?_)
  by_cases hlt : k < l.length
  · obtain ⟨j, hj⟩ : ∃ j : Nat, (l.length : Int) - ((k + 1 : Nat) : Int) = j := ⟨l.length - (k + 1), by omega⟩
    have hj0 : (0 : Int) ≤ j := by omega
    have hjl : j < l.length := by omega
    have hs := List.getElem?_eq_getElem hjl
    generalize l[j] = s at hs
    have hsm := List.mem_of_getElem? hs
    have hd : l.drop (l.length - (k + 1)) = s :: l.drop (l.length - k) := by
      rw [show l.length - (k + 1) = j by omega, show l.length - k = j + 1 by omega, List.drop_eq_getElem_cons hjl]; congr 1; exact Option.some.inj ((List.getElem?_eq_getElem hjl).symm.trans hs)
    obtain ⟨f1, f2, f3, f4⟩ := hfit.sub hsm
    have hz2 := Lens.size_mem hsm
    rw [hj]
    rcases kinds11 s.kind with h | h | h | h | h | h | h | h | h | h
    · have k1 : s.kind = 1 := h
      have hu : Lens.turn s = .mk s.kind s.b s.a s.typ s.doc s.swaps s.subs := by rw [turn_kind, if_pos k1]
      refine GO ?_
      refine Ch.p (OpT.slice1' (hs := asAg (l := lensF (.mk s.kind s.b s.a s.typ s.doc s.swaps s.subs)) rfl)) ⟨rfl, trivial⟩ ?_
      refine Ch.apA (hb := by simp only [List.length_map]; rw [back_len, List.length_drop]; simp; omega) (r := ?_)
      refine GO ?_
      rw [show (Lens.back (l.drop (l.length - k))).map lensF ++ [lensF (.mk s.kind s.b s.a s.typ s.doc s.swaps s.subs)] = (Lens.back (l.drop (l.length - (k + 1)))).map lensF by rw [hd, Lens.back, hu, List.map_append]; rfl, show (j : Int) - 1 = (l.length : Int) - ((k + 1 + 1 : Nat) : Int) by omega]
      refine W.swap 0 2 (h := ?_)
      exact W.ag (k + 1) (hlt) (by omega)
    · have k1 : s.kind = 2 := h
      have hu : Lens.turn s = .mk (s.kind + 1) s.a s.b s.typ s.doc s.swaps s.subs := by rw [turn_kind, if_neg (by omega), if_pos (by omega)]
      refine GO ?_
      refine Ch.p (OpT.slice1' (hs := asAg (l := lensF (.mk (s.kind + 1) s.a s.b s.typ s.doc s.swaps s.subs)) rfl)) ⟨rfl, trivial⟩ ?_
      refine Ch.apA (hb := by simp only [List.length_map]; rw [back_len, List.length_drop]; simp; omega) (r := ?_)
      refine GO ?_
      rw [show (Lens.back (l.drop (l.length - k))).map lensF ++ [lensF (.mk (s.kind + 1) s.a s.b s.typ s.doc s.swaps s.subs)] = (Lens.back (l.drop (l.length - (k + 1)))).map lensF by rw [hd, Lens.back, hu, List.map_append]; rfl, show (j : Int) - 1 = (l.length : Int) - ((k + 1 + 1 : Nat) : Int) by omega]
      refine W.swap 0 2 (h := ?_)
      exact W.ag (k + 1) (hlt) (by omega)
    · have k1 : s.kind = 4 := h
      have hu : Lens.turn s = .mk (s.kind + 1) s.a s.b s.typ s.doc s.swaps s.subs := by rw [turn_kind, if_neg (by omega), if_pos (by omega)]
      refine GO ?_
      refine Ch.p (OpT.slice1' (hs := asAg (l := lensF (.mk (s.kind + 1) s.a s.b s.typ s.doc s.swaps s.subs)) rfl)) ⟨rfl, trivial⟩ ?_
      refine Ch.apA (hb := by simp only [List.length_map]; rw [back_len, List.length_drop]; simp; omega) (r := ?_)
      refine GO ?_
      rw [show (Lens.back (l.drop (l.length - k))).map lensF ++ [lensF (.mk (s.kind + 1) s.a s.b s.typ s.doc s.swaps s.subs)] = (Lens.back (l.drop (l.length - (k + 1)))).map lensF by rw [hd, Lens.back, hu, List.map_append]; rfl, show (j : Int) - 1 = (l.length : Int) - ((k + 1 + 1 : Nat) : Int) by omega]
      refine W.swap 0 2 (h := ?_)
      exact W.ag (k + 1) (hlt) (by omega)
    · have k1 : s.kind = 6 := h
      have hu : Lens.turn s = .mk (s.kind + 1) s.a s.b s.typ s.doc s.swaps s.subs := by rw [turn_kind, if_neg (by omega), if_pos (by omega)]
      refine GO ?_
      refine Ch.p (OpT.slice1' (hs := asAg (l := lensF (.mk (s.kind + 1) s.a s.b s.typ s.doc s.swaps s.subs)) rfl)) ⟨rfl, trivial⟩ ?_
      refine Ch.apA (hb := by simp only [List.length_map]; rw [back_len, List.length_drop]; simp; omega) (r := ?_)
      refine GO ?_
      rw [show (Lens.back (l.drop (l.length - k))).map lensF ++ [lensF (.mk (s.kind + 1) s.a s.b s.typ s.doc s.swaps s.subs)] = (Lens.back (l.drop (l.length - (k + 1)))).map lensF by rw [hd, Lens.back, hu, List.map_append]; rfl, show (j : Int) - 1 = (l.length : Int) - ((k + 1 + 1 : Nat) : Int) by omega]
      refine W.swap 0 2 (h := ?_)
      exact W.ag (k + 1) (hlt) (by omega)
    · have k1 : s.kind = 3 := h
      have hu : Lens.turn s = .mk (s.kind - 1) s.a s.b s.typ s.doc s.swaps s.subs := by rw [turn_kind, if_neg (by omega), if_neg (by omega), if_pos (by omega)]
      refine GO ?_
      refine Ch.p (OpT.slice1' (hs := asAg (l := lensF (.mk (s.kind - 1) s.a s.b s.typ s.doc s.swaps s.subs)) rfl)) ⟨rfl, trivial⟩ ?_
      refine Ch.apA (hb := by simp only [List.length_map]; rw [back_len, List.length_drop]; simp; omega) (r := ?_)
      refine GO ?_
      rw [show (Lens.back (l.drop (l.length - k))).map lensF ++ [lensF (.mk (s.kind - 1) s.a s.b s.typ s.doc s.swaps s.subs)] = (Lens.back (l.drop (l.length - (k + 1)))).map lensF by rw [hd, Lens.back, hu, List.map_append]; rfl, show (j : Int) - 1 = (l.length : Int) - ((k + 1 + 1 : Nat) : Int) by omega]
      refine W.swap 0 2 (h := ?_)
      exact W.ag (k + 1) (hlt) (by omega)
    · have k1 : s.kind = 5 := h
      have hu : Lens.turn s = .mk (s.kind - 1) s.a s.b s.typ s.doc s.swaps s.subs := by rw [turn_kind, if_neg (by omega), if_neg (by omega), if_pos (by omega)]
      refine GO ?_
      refine Ch.p (OpT.slice1' (hs := asAg (l := lensF (.mk (s.kind - 1) s.a s.b s.typ s.doc s.swaps s.subs)) rfl)) ⟨rfl, trivial⟩ ?_
      refine Ch.apA (hb := by simp only [List.length_map]; rw [back_len, List.length_drop]; simp; omega) (r := ?_)
      refine GO ?_
      rw [show (Lens.back (l.drop (l.length - k))).map lensF ++ [lensF (.mk (s.kind - 1) s.a s.b s.typ s.doc s.swaps s.subs)] = (Lens.back (l.drop (l.length - (k + 1)))).map lensF by rw [hd, Lens.back, hu, List.map_append]; rfl, show (j : Int) - 1 = (l.length : Int) - ((k + 1 + 1 : Nat) : Int) by omega]
      refine W.swap 0 2 (h := ?_)
      exact W.ag (k + 1) (hlt) (by omega)
    · have k1 : s.kind = 7 := h
      have hu : Lens.turn s = .mk (s.kind - 1) s.a s.b s.typ s.doc s.swaps s.subs := by rw [turn_kind, if_neg (by omega), if_neg (by omega), if_pos (by omega)]
      refine GO ?_
      refine Ch.p (OpT.slice1' (hs := asAg (l := lensF (.mk (s.kind - 1) s.a s.b s.typ s.doc s.swaps s.subs)) rfl)) ⟨rfl, trivial⟩ ?_
      refine Ch.apA (hb := by simp only [List.length_map]; rw [back_len, List.length_drop]; simp; omega) (r := ?_)
      refine GO ?_
      rw [show (Lens.back (l.drop (l.length - k))).map lensF ++ [lensF (.mk (s.kind - 1) s.a s.b s.typ s.doc s.swaps s.subs)] = (Lens.back (l.drop (l.length - (k + 1)))).map lensF by rw [hd, Lens.back, hu, List.map_append]; rfl, show (j : Int) - 1 = (l.length : Int) - ((k + 1 + 1 : Nat) : Int) by omega]
      refine W.swap 0 2 (h := ?_)
      exact W.ag (k + 1) (hlt) (by omega)
    · have k1 : s.kind = 9 := h
      have hu : Lens.turn s = .mk s.kind s.a s.b s.typ s.doc s.swaps (Lens.back s.subs) := by rw [turn_kind, if_neg (by omega), if_neg (by omega), if_neg (by omega), if_pos (by omega)]
      refine GO ?_
      refine Ch.c (ih s.subs (by omega) f4) (r := ?_)
      refine GO ?_
      refine Ch.p (OpT.slice1' (hs := asAg (l := lensF (.mk s.kind s.a s.b s.typ s.doc s.swaps (Lens.back s.subs))) rfl)) ⟨rfl, trivial⟩ ?_
      refine Ch.apA (hb := by simp only [List.length_map]; rw [back_len, List.length_drop]; simp; omega) (r := ?_)
      refine GO ?_
      rw [show (Lens.back (l.drop (l.length - k))).map lensF ++ [lensF (.mk s.kind s.a s.b s.typ s.doc s.swaps (Lens.back s.subs))] = (Lens.back (l.drop (l.length - (k + 1)))).map lensF by rw [hd, Lens.back, hu, List.map_append]; rfl, show (j : Int) - 1 = (l.length : Int) - ((k + 1 + 1 : Nat) : Int) by omega]
      refine W.swap 0 2 (h := ?_)
      exact W.ag (k + 1) (hlt) (by omega)
    · have k1 : s.kind = 10 := h
      have hu : Lens.turn s = .mk s.kind s.a s.b s.typ s.doc s.swaps (Lens.back s.subs) := by rw [turn_kind, if_neg (by omega), if_neg (by omega), if_neg (by omega), if_pos (by omega)]
      refine GO ?_
      refine Ch.c (ih s.subs (by omega) f4) (r := ?_)
      refine GO ?_
      refine Ch.p (OpT.slice1' (hs := asAg (l := lensF (.mk s.kind s.a s.b s.typ s.doc s.swaps (Lens.back s.subs))) rfl)) ⟨rfl, trivial⟩ ?_
      refine Ch.apA (hb := by simp only [List.length_map]; rw [back_len, List.length_drop]; simp; omega) (r := ?_)
      refine GO ?_
      rw [show (Lens.back (l.drop (l.length - k))).map lensF ++ [lensF (.mk s.kind s.a s.b s.typ s.doc s.swaps (Lens.back s.subs))] = (Lens.back (l.drop (l.length - (k + 1)))).map lensF by rw [hd, Lens.back, hu, List.map_append]; rfl, show (j : Int) - 1 = (l.length : Int) - ((k + 1 + 1 : Nat) : Int) by omega]
      refine W.swap 0 2 (h := ?_)
      exact W.ag (k + 1) (hlt) (by omega)
    · obtain ⟨k1, k2, k3, k4, k5, k6, k7, k9, k10⟩ := h
      have hu : Lens.turn s = .mk s.kind s.a s.b s.typ s.doc s.swaps s.subs := by rw [turn_kind, if_neg (by omega), if_neg (by omega), if_neg (by omega), if_neg (by omega)]; cases s; rfl
      refine GO ?_
      refine Ch.p (OpT.slice1' (hs := asAg (l := lensF (.mk s.kind s.a s.b s.typ s.doc s.swaps s.subs)) rfl)) ⟨rfl, trivial⟩ ?_
      refine Ch.apA (hb := by simp only [List.length_map]; rw [back_len, List.length_drop]; simp; omega) (r := ?_)
      refine GO ?_
      rw [show (Lens.back (l.drop (l.length - k))).map lensF ++ [lensF (.mk s.kind s.a s.b s.typ s.doc s.swaps s.subs)] = (Lens.back (l.drop (l.length - (k + 1)))).map lensF by rw [hd, Lens.back, hu, List.map_append]; rfl, show (j : Int) - 1 = (l.length : Int) - ((k + 1 + 1 : Nat) : Int) by omega]
      refine W.swap 0 2 (h := ?_)
      exact W.ag (k + 1) (hlt) (by omega)
  · obtain rfl : k = l.length := by omega
    have hm : (l.length : Int) - ((l.length + 1 : Nat) : Int) = -1 := by omega
    rw [hm, Nat.sub_self, List.drop_zero]
    refine GO ?_
    refine W.frz 0 (h := ?_)
    rw [(rowLens (Lens.back l)).eq]
    exact fin1
end Go.Proofs.YtddddgbboipfeaaGreatDoor
