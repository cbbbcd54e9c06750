/- Part 33 of what StageOrder and StagePlans ask: for every input each returns true, and its input reads as it did. No condition. -/
import Derived.Test.YtelkpflpgpdkdaaGreatDoorPt24
import Derived.Test.YtelkpflpgpdkdaaGreatDoorPt25
import Derived.Test.YtelkpflpgpdkdaaGreatDoorPt27
import Derived.Test.YtelkpflpgpdkdaaGreatDoorPt28
import Derived.Test.YtelkpflpgpdkdaaGreatDoorPt31
import Derived.Test.YtelkpflpgpdkdaaGreatDoorPt32
namespace Go.Proofs.YtelkpflpgpdkdaaGreatDoor
open Go.Sv
theorem Typ.find_typ {t : Typ} {s : Str} {f : Fld} (ht : t.right = true) (h : t.find s = some f) : f.typ.right = true := Typ.right_fld ht (Typ.find_mem h)
theorem Typ.find_kind {t : Typ} {s : Str} {f : Fld} (h : t.find s = some f) : t.kind = 1 ∧ f.name = s := by
  rcases find_cases t s with ⟨_, h2⟩ | ⟨j, x, _, _, h3, h4⟩
  · rw [h2] at h; cases h
  · rw [h3] at h; cases h
    refine ⟨?_, h4⟩
    rw [Typ.find] at h3
    split at h3
    · assumption
    · cases h3
theorem set_no {t : Typ} {a b : Str} {x : Typ} (h : ∀ g ∈ t.fields, g.name ≠ b) (hab : a ≠ b) : ∀ g ∈ (t.set a x).fields, g.name ≠ b := fun g hg => by
  rcases Typ.mem_ins hg with rfl | hg
  · exact hab
  · exact h g (List.mem_filter.1 hg).1
def hoiT (t : Typ) (f : Fld) (a b : Str) : Typ := if hoistE t f b = 0 then hoistT t f a b else t
set_option maxRecDepth 10000 in
theorem lhoistC (t : Typ) (f : Fld) (s : Lens) (hD : DelH) (ht : t.right = true) (hf : t.find s.a = some f) : ∀ n, Con Tryz.prog 225 [agD (typF t), agD (fldF f), agD (lensF s)] [] n (recU (hoiT t f s.a s.b) (hoistE t f s.b)) [] n := by
  refine fnI Tryz.func225 Tryz.ntmps225 (h := fun S w0 β0 X => ?_)
  have hr := Typ.find_typ ht hf
  obtain ⟨hk, hn⟩ := Typ.find_kind hf
  refine GO ?_
  refine W.cond rfl (fun h => ?_) (fun h => ?_)
  · have h : f.typ.kind ≠ 1 := by grind
    rw [recU_e (t := t) (e := 7) (by grind [hoiT, hoistE]) (by grind [hoistE])]
    refine GO ?_
    exact fin2
  have h : f.typ.kind = 1 := by grind
  cases hb : f.typ.find s.b with
  | none =>
    rw [recU_e (t := t) (e := 9) (by grind [hoiT, hoistE]) (by grind [hoistE])]
    cases hg : t.find s.b with
    | none =>
      refine GO ?_
      refine Ch.c (findNC hb) (r := ?_)
      refine GO ?_
      refine Ch.c (findNC hg) (r := ?_)
      refine GO ?_
      exact fin2
    | some g =>
      refine GO ?_
      refine Ch.c (findNC hb) (r := ?_)
      refine GO ?_
      refine Ch.c (findSC hg) (r := ?_)
      refine GO ?_
      exact fin2
  | some o =>
    cases hg : t.find s.b with
    | some g =>
      refine GO ?_
      refine Ch.c (findSC hb) (r := ?_)
      refine GO ?_
      refine Ch.c (findSC hg) (r := ?_)
      refine GO ?_
      refine W.cond rfl (fun h2 => ?_) (fun h2 => ?_)
      · rw [recU_e (t := t) (e := 7) (by grind [hoiT, hoistE]) (by grind [hoistE])]
        refine GO ?_
        exact fin2
      rw [recU_e (t := t) (e := 5) (by grind [hoiT, hoistE]) (by grind [hoistE])]
      refine GO ?_
      exact fin2
    | none =>
      refine GO ?_
      refine Ch.c (findSC hb) (r := ?_)
      refine GO ?_
      refine Ch.c (findNC hg) (r := ?_)
      refine GO ?_
      refine W.cond rfl (fun h2 => ?_) (fun h2 => ?_)
      · rw [recU_e (t := t) (e := 7) (by grind [hoiT, hoistE]) (by grind [hoistE])]
        refine GO ?_
        exact fin2
      have h0 : hoistE t f s.b = 0 := by grind [hoistE]
      rw [recU_e (t := (t.set s.a (f.typ.without s.b)).with_ o) (e := 0) (by rw [hoiT, if_pos h0, hoistT, hb]) h0]
      refine GO ?_
      refine Ch.c (withoutC f.typ s.b hD (Typ.right_len hr)) (r := ?_)
      refine GO ?_
      refine Ch.p OpT.fieldG ⟨rfl, trivial⟩ ?_
      refine GO ?_
      refine Ch.c (setC t s.a (f.typ.without s.b) hD (right_srt ht) (Typ.right_len ht)) (r := ?_)
      refine GO ?_
      refine Ch.c (withC (t.set s.a (f.typ.without s.b)) o (set_srt s.a (right_srt ht)) (fun g hg2 => by rw [(Typ.find_kind hb).2]; exact set_no (Typ.find_no hk hg) (fun e => by rw [e, hg] at hf; cases hf) g hg2) (Nat.le_trans (set_len ..) (by have := right_len ht; omega))) (r := ?_)
      refine GO ?_
      exact fin2
theorem toList_beq (a b : Str) : (a.toList == b.toList) = decide (a = b) := by
  rw [Bool.eq_iff_iff, beq_iff_eq, decide_eq_true_eq]
  exact ⟨fun h => str_ext h, fun h => h ▸ rfl⟩
def pluT (t : Typ) (f : Fld) (a b : Str) : Typ := if plungeE t f a b = 0 then plungeT t f a b else t
set_option maxRecDepth 10000 in
theorem lplungeC (t : Typ) (f : Fld) (s : Lens) (hD : DelH) (ht : t.right = true) (hf : t.find s.a = some f) : ∀ n, Con Tryz.prog 226 [agD (typF t), agD (fldF f), agD (lensF s)] [] n (recU (pluT t f s.a s.b) (plungeE t f s.a s.b)) [] n := by
  refine fnI Tryz.func226 Tryz.ntmps226 (h := fun S w0 β0 X => ?_)
  have hr := Typ.find_typ ht hf
  obtain ⟨hk, hn⟩ := Typ.find_kind hf
  cases hb : t.find s.b with
  | none =>
    rw [recU_e (t := t) (e := 9) (by grind [pluT, plungeE]) (by grind [plungeE])]
    refine GO ?_
    refine Ch.c (findNC hb) (r := ?_)
    refine GO ?_
    exact fin2
  | some o =>
    refine GO ?_
    refine Ch.c (findSC hb) (r := ?_)
    refine GO ?_
    refine W.cond rfl (fun h => ?_) (fun h => ?_) <;> simp only [toList_beq] at h
    · rw [recU_e (t := t) (e := 7) (by grind [pluT, plungeE]) (by grind [plungeE])]
      refine GO ?_
      exact fin2
    cases hg : f.typ.find s.b with
    | some g =>
      refine GO ?_
      refine Ch.c (findSC hg) (r := ?_)
      refine GO ?_
      rw [recU_e (t := t) (e := 5) (by grind [pluT, plungeE]) (by grind [plungeE])]
      exact fin2
    | none =>
      refine GO ?_
      refine Ch.c (findNC hg) (r := ?_)
      refine GO ?_
      have h1 : f.typ.kind = 1 := by grind
      have h0 : plungeE t f s.a s.b = 0 := by grind [plungeE]
      rw [recU_e (t := (t.set s.a (f.typ.with_ o)).without s.b) (e := 0) (by rw [pluT, if_pos h0, plungeT, hb]) h0]
      refine Ch.c (withC f.typ o (right_srt hr) (by rw [(Typ.find_kind hb).2]; exact Typ.find_no h1 hg) (Typ.right_len hr)) (r := ?_)
      refine GO ?_
      refine Ch.p OpT.fieldG ⟨rfl, trivial⟩ ?_
      refine GO ?_
      refine Ch.c (setC t s.a (f.typ.with_ o) hD (right_srt ht) (Typ.right_len ht)) (r := ?_)
      refine GO ?_
      refine Ch.c (withoutC (t.set s.a (f.typ.with_ o)) s.b hD (Nat.le_trans (set_len ..) (by have := right_len ht; omega))) (r := ?_)
      refine GO ?_
      exact fin2
def heaT (t : Typ) (f : Fld) (a : Str) : Typ := if headE f = 0 then t.set a f.typ.of0 else t
set_option maxRecDepth 10000 in
theorem lheadC (t : Typ) (f : Fld) (s : Lens) (hD : DelH) (ht : t.right = true) (hf : t.find s.a = some f) : ∀ n, Con Tryz.prog 228 [agD (typF t), agD (fldF f), agD (lensF s)] [] n (recU (heaT t f s.a) (headE f)) [] n := by
  refine fnI Tryz.func228 Tryz.ntmps228 (h := fun S w0 β0 X => ?_)
  have hr := Typ.find_typ ht hf
  cases ho : f.typ.of with
  | cons o l =>
    have ho0 : f.typ.of[0]? = some o := by rw [ho]; rfl
    have ho1 : f.typ.of0 = o := by rw [Typ.of0, ho]; rfl
    refine GO ?_
    refine Ch.gc (hc := fun _ => scalarC o) (r := ?_)
    refine GO ?_
    refine W.cond rfl (fun h => ?_) (fun h => ?_)
    · rw [recU_e (t := t) (e := 7) (by grind [heaT, headE]) (by grind [headE])]
      refine GO ?_
      exact fin2
    have h0 : headE f = 0 := by grind [headE]
    rw [recU_e (t := t.set s.a o) (e := 0) (by rw [heaT, if_pos h0, ho1]) h0]
    refine GO ?_
    refine Ch.c (setC t s.a o hD (right_srt ht) (Typ.right_len ht)) (r := ?_)
    refine GO ?_
    exact fin2
  | nil =>
    have k3 : f.typ.kind ≠ 3 := fun k3 => by
      obtain ⟨o, h, _⟩ := part_of (Typ.right_parts hr).2.2 (.inr k3)
      rw [ho] at h; cases h
    refine GO ?_
    refine Ch.g (out := dT (adr (typF (.mk 0 0 0 [] [] [])))) (h := fun hc => absurd hc (by simp [k3])) (r := ?_)
    refine GO ?_
    refine Ch.gc (hc := fun _ => scalarC (.mk 0 0 0 [] [] [])) (r := ?_)
    refine GO ?_
    rw [recU_e (t := t) (e := 7) (by grind [heaT, headE]) (by grind [headE])]
    refine W.cond rfl (fun h => ?_) (fun h => ?_)
    · refine GO ?_
      exact fin2
    · exact absurd h (by simp [k3])
end Go.Proofs.YtelkpflpgpdkdaaGreatDoor


namespace Go.Proofs.YtelkpflpgpdkdaaGreatDoor
open Go.Sv
def SwapsH : Prop := ∀ (l : List (Int × Int)) (t : Typ), l.length ≤ 1000000 → (∀ n ∈ swapNums l, I64 n) → ∀ n, Con Tryz.prog 257 [dT (sl 2 (l.map swapF)), agD (typF t)] [] n (iT (swapsE l t)) [] n
structure RawH : Prop where
  del : DelH
  swaps : SwapsH
def stepsU (p : Typ × Int) : T := .tup [.ag ((typF p.1).map C.d), .one (.d intA), .one (.d (i64 p.2))]
def StepsC (l : List Lens) : Prop := ∀ t : Typ, t.right = true → t.kind = 1 → ∀ n, Con Tryz.prog 163 [agD (typF t), dT (sl 16 (lensesC l))] [] n (stepsU (Lens.steps l t)) [] n
set_option maxRecDepth 10000 in
theorem lconvertC (t : Typ) (f : Fld) (s : Lens) (hR : RawH) (hl : s.swaps.length ≤ 1000000) (hn : ∀ n ∈ swapNums s.swaps, I64 n) : ∀ n, Con Tryz.prog 229 [agD (typF t), agD (fldF f), agD (lensF s)] [] n (recU t (if f.typ.kind ≠ 4 then 7 else swapsE s.swaps f.typ)) [] n := by
  refine fnI Tryz.func229 Tryz.ntmps229 (h := fun S w0 β0 X => ?_)
  refine GO ?_
  refine W.cond rfl (fun h => ?_) (fun h => ?_)
  · rw [recU_e (t := t) (e := 7) rfl (by grind)]
    refine GO ?_
    exact fin2
  rw [recU_e (t := t) (e := swapsE s.swaps f.typ) rfl (by grind)]
  refine GO ?_
  refine Ch.c (hR.swaps s.swaps f.typ hl hn) (r := ?_)
  refine GO ?_
  exact fin2
set_option maxRecDepth 10000 in
theorem linsideC (t : Typ) (f : Fld) (s : Lens) (hR : RawH) (ht : t.right = true) (hf : t.find s.a = some f) (hS : StepsC s.subs) : ∀ n, Con Tryz.prog 230 [agD (typF t), agD (fldF f), agD (lensF s)] [] n (recU (if f.typ.kind ≠ 1 then t else t.set s.a (Lens.steps s.subs f.typ).1) (if f.typ.kind ≠ 1 then 7 else (Lens.steps s.subs f.typ).2)) [] n := by
  refine fnI Tryz.func230 Tryz.ntmps230 (h := fun S w0 β0 X => ?_)
  have hr := Typ.find_typ ht hf
  refine GO ?_
  refine W.cond rfl (fun h => ?_) (fun h => ?_)
  · rw [recU_e (t := t) (e := 7) (by grind) (by grind)]
    refine GO ?_
    exact fin2
  have hk : f.typ.kind = 1 := by grind
  rw [recU_e (t := t.set s.a (Lens.steps s.subs f.typ).1) (e := (Lens.steps s.subs f.typ).2) (by grind) (by grind)]
  refine GO ?_
  refine Ch.c (hS f.typ hr hk) (r := ?_)
  refine GO ?_
  refine Ch.c (setC t s.a (Lens.steps s.subs f.typ).1 hR.del (right_srt ht) (Typ.right_len ht)) (r := ?_)
  refine GO ?_
  exact fin2
theorem typ_one {u : Typ} (k2 : u.kind = 2) (hn : u.names = []) (hf : u.fields = []) (x : Typ) (w : World) (us : List Value) (h : Cells w [i64 u.kind, i64 u.lo, i64 u.hi, strsD u.names, sl 8 (fldsC u.fields), sl 6 [typF x]] us) : Cells w (typF (.mk 2 u.lo u.hi [] [] [x])) us := by
  show Cells w [i64 2, i64 u.lo, i64 u.hi, strsD [], sl 8 (fldsC []), sl 6 (typsC [x])] us
  rw [(rowTyps [x]).eq]
  rwa [k2, hn, hf] at h
set_option maxRecDepth 10000 in
theorem leachC (t : Typ) (f : Fld) (s : Lens) (hR : RawH) (ht : t.right = true) (hf : t.find s.a = some f) (hS : StepsC s.subs) : ∀ n, Con Tryz.prog 231 [agD (typF t), agD (fldF f), agD (lensF s)] [] n (recU (if f.typ.kind ≠ 2 ∨ f.typ.of0.kind ≠ 1 then t else t.set s.a (.mk 2 f.typ.lo f.typ.hi [] [] [(Lens.steps s.subs f.typ.of0).1])) (if f.typ.kind ≠ 2 ∨ f.typ.of0.kind ≠ 1 then 7 else (Lens.steps s.subs f.typ.of0).2)) [] n := by
  refine fnI Tryz.func231 Tryz.ntmps231 (h := fun S w0 β0 X => ?_)
  have hr := Typ.find_typ ht hf
  by_cases k2 : f.typ.kind = 2
  · obtain ⟨o, ho, hop⟩ := part_of (Typ.right_parts hr).2.2 (.inl k2)
    have ho0 : f.typ.of[0]? = some o := by rw [ho]; rfl
    have ho1 : f.typ.of0 = o := by rw [Typ.of0, ho]; rfl
    obtain ⟨hn, hfs⟩ := right_bare hr (.inl k2)
    refine GO ?_
    refine W.cond rfl (fun h => ?_) (fun h => ?_)
    · rw [recU_e (t := t) (e := 7) (by grind) (by grind)]
      refine GO ?_
      exact fin2
    have hk : o.kind = 1 := by grind
    have hor : o.right = true := ho1 ▸ (Typ.right_one hr (.inl k2)).2
    rw [recU_e (t := t.set s.a (.mk 2 f.typ.lo f.typ.hi [] [] [(Lens.steps s.subs o).1])) (e := (Lens.steps s.subs o).2) (by grind) (by grind)]
    refine GO ?_
    refine Ch.c (hS o hor hk) (r := ?_)
    refine GO ?_
    refine Ch.p (OpT.slice1' (hs := asAg (l := typF (Lens.steps s.subs o).1) rfl)) ⟨rfl, trivial⟩ ?_
    refine GO ?_
    refine Ch.c (fun n => (setC t s.a (.mk 2 f.typ.lo f.typ.hi [] [] [(Lens.steps s.subs o).1]) hR.del (right_srt ht) (Typ.right_len ht) n).argL (args := [agD (typF t), sT s.a, agD [i64 f.typ.kind, i64 f.typ.lo, i64 f.typ.hi, strsD f.typ.names, sl 8 (fldsC f.typ.fields), sl 6 [typF (Lens.steps s.subs o).1]]]) ⟨.refl _, .refl _, .ag (typ_one k2 hn hfs _), trivial⟩) (r := ?_)
    refine GO ?_
    exact fin2
  · have hz : (if f.typ.kind ≠ 2 ∨ f.typ.of0.kind ≠ 1 then t else t.set s.a (.mk 2 f.typ.lo f.typ.hi [] [] [(Lens.steps s.subs f.typ.of0).1])) = t := if_pos (.inl k2)
    rw [recU_e (t := t) (e := 7) hz (if_pos (.inl k2))]
    cases ho : f.typ.of with
    | cons o l =>
      have ho0 : f.typ.of[0]? = some o := by rw [ho]; rfl
      refine GO ?_
      refine W.cond rfl (fun h => ?_) (fun h => ?_)
      · refine GO ?_
        exact fin2
      · exact absurd h (by simp [k2])
    | nil =>
      refine GO ?_
      refine Ch.g (out := dT (adr (typF (.mk 0 0 0 [] [] [])))) (h := fun hc => absurd hc (by simp [k2])) (r := ?_)
      refine GO ?_
      refine W.cond rfl (fun h => ?_) (fun h => ?_)
      · refine GO ?_
        exact fin2
      · exact absurd h (by simp [k2])
end Go.Proofs.YtelkpflpgpdkdaaGreatDoor
namespace Go.Proofs.YtelkpflpgpdkdaaGreatDoor
open Go.Sv
def lfid (k : Int) : FuncId := if k = 1 then 223 else if k = 3 then 224 else if k = 4 then 225 else if k = 5 then 226 else if k = 6 then 227 else if k = 7 then 228 else if k = 8 then 229 else if k = 9 then 230 else 231
set_option maxRecDepth 10000 in
theorem lknownC (t : Typ) (k : Int) (hb : ¬ (k < 1 ∨ 10 < k)) (h2 : k ≠ 2) : ∀ n, Con Tryz.prog 203 [agD (typF t), iT k] [] n (.one (.mth (lfid k) [.ag (typF t)])) [] n := by
  rcases (by omega : k = 1 ∨ k = 3 ∨ k = 4 ∨ k = 5 ∨ k = 6 ∨ k = 7 ∨ k = 8 ∨ k = 9 ∨ k = 10) with rfl | rfl | rfl | rfl | rfl | rfl | rfl | rfl | rfl
  all_goals
    refine fnI Tryz.func203 Tryz.ntmps203 (h := fun S w0 β0 X => ?_)
    refine GO ?_
    refine Ch.p (OpT.mth (cs := [.ag (typF t)])) ⟨rfl, trivial⟩ ?_
    refine GO ?_
    exact fin1
set_option maxRecDepth 10000 in
theorem lknown0C (t : Typ) (k : Int) (hb : k < 1 ∨ 10 < k) : ∀ n, Con Tryz.prog 203 [agD (typF t), iT k] [] n (dT (lit .nilFunc rfl)) [] n := by
  refine fnI Tryz.func203 Tryz.ntmps203 (h := fun S w0 β0 X => ?_)
  have h1 : k ≠ 1 := by omega
  have h3 : k ≠ 3 := by omega
  have h4 : k ≠ 4 := by omega
  have h5 : k ≠ 5 := by omega
  have h6 : k ≠ 6 := by omega
  have h7 : k ≠ 7 := by omega
  have h8 : k ≠ 8 := by omega
  have h9 : k ≠ 9 := by omega
  have h10 : k ≠ 10 := by omega
  refine GO ?_
  exact fin1
def doT (s : Lens) (t : Typ) (f : Fld) : Typ :=
  if s.kind = 1 then renT t f s.a s.b else if s.kind = 3 then remT t f s.a s.typ else if s.kind = 4 then hoiT t f s.a s.b else if s.kind = 5 then pluT t f s.a s.b else if s.kind = 6 then wrapT t f s.a else if s.kind = 7 then heaT t f s.a else if s.kind = 8 then t else
  if s.kind = 9 then (if f.typ.kind ≠ 1 then t else t.set s.a (Lens.steps s.subs f.typ).1) else (if f.typ.kind ≠ 2 ∨ f.typ.of0.kind ≠ 1 then t else t.set s.a (.mk 2 f.typ.lo f.typ.hi [] [] [(Lens.steps s.subs f.typ.of0).1]))
def doE (s : Lens) (t : Typ) (f : Fld) : Int :=
  if s.kind = 1 then renameE t s.b else if s.kind = 3 then removeE f s.typ s.doc else if s.kind = 4 then hoistE t f s.b else if s.kind = 5 then plungeE t f s.a s.b else if s.kind = 6 then (if scalarB f.typ then 0 else 7) else if s.kind = 7 then headE f else if s.kind = 8 then (if f.typ.kind ≠ 4 then 7 else swapsE s.swaps f.typ) else
  if s.kind = 9 then (if f.typ.kind ≠ 1 then 7 else (Lens.steps s.subs f.typ).2) else (if f.typ.kind ≠ 2 ∨ f.typ.of0.kind ≠ 1 then 7 else (Lens.steps s.subs f.typ.of0).2)
theorem doE_eq {s : Lens} {t : Typ} {f : Fld} (h2 : s.kind ≠ 2) (hb : ¬ (s.kind < 1 ∨ 10 < s.kind)) (hf : t.find s.a = some f) (ho : ¬ (f.opt = true ∧ s.kind ≠ 1)) : (Lens.at1 s t).2 = doE s t f := by
  rw [Lens.at1_some h2 hb hf, if_neg ho, doE]
  simp only [apply_ite Prod.snd]
theorem doT_eq {s : Lens} {t : Typ} {f : Fld} (h2 : s.kind ≠ 2) (hb : ¬ (s.kind < 1 ∨ 10 < s.kind)) (hf : t.find s.a = some f) (ho : ¬ (f.opt = true ∧ s.kind ≠ 1)) (h0 : doE s t f = 0) : (Lens.at1 s t).1 = doT s t f := by
  rw [Lens.at1_some h2 hb hf, if_neg ho, doT]
  rw [doE] at h0
  simp only [apply_ite Prod.fst]
  by_cases k1 : s.kind = 1
  · simp only [if_pos k1] at h0 ⊢
    rw [renT, if_neg (fun e => by rw [renameE, if_pos e] at h0; cases h0), if_neg (fun e => by
      rw [renameE] at h0
      split at h0
      · cases h0
      · cases h0)]
  simp only [if_neg k1] at h0 ⊢
  by_cases k3 : s.kind = 3
  · simp only [if_pos k3] at h0 ⊢
    rw [remT, if_neg (fun e => by rw [removeE, if_pos e] at h0; cases h0)]
  simp only [if_neg k3] at h0 ⊢
  by_cases k4 : s.kind = 4
  · simp only [if_pos k4] at h0 ⊢
    rw [hoiT, if_pos h0]
  simp only [if_neg k4] at h0 ⊢
  by_cases k5 : s.kind = 5
  · simp only [if_pos k5] at h0 ⊢
    rw [pluT, if_pos h0]
  simp only [if_neg k5] at h0 ⊢
  by_cases k6 : s.kind = 6
  · simp only [if_pos k6] at h0 ⊢
    rw [wrapT, if_neg (fun e => by rw [e] at h0; cases h0)]
  simp only [if_neg k6] at h0 ⊢
  by_cases k7 : s.kind = 7
  · simp only [if_pos k7] at h0 ⊢
    rw [heaT, if_pos h0]
  simp only [if_neg k7]
def lstepT (s : Lens) (t : Typ) : Typ := if s.kind = 2 then addT t s.a s.typ else if s.kind < 1 ∨ 10 < s.kind then t else match t.find s.a with
  | none => t
  | some f => if f.opt = true ∧ s.kind ≠ 1 then t else doT s t f
theorem lstepT_eq {s : Lens} {t : Typ} (h0 : (Lens.at1 s t).2 = 0) : lstepT s t = (Lens.at1 s t).1 := by
  by_cases h2 : s.kind = 2
  · rw [Lens.at1_add h2] at h0 ⊢
    rw [lstepT, if_pos h2, addT, if_neg (fun e => by rw [show addE t s.a s.typ s.doc = 1 from if_pos e] at h0; cases h0), if_neg (fun e => by
      simp only [addE] at h0
      split at h0
      · cases h0
      · cases h0)]
  by_cases hb : s.kind < 1 ∨ 10 < s.kind
  · rw [Lens.at1_bad hb] at h0; cases h0
  cases hf : t.find s.a with
  | none => rw [Lens.at1_miss h2 hb hf] at h0; cases h0
  | some f =>
    by_cases ho : f.opt = true ∧ s.kind ≠ 1
    · rw [Lens.at1_some h2 hb hf, if_pos ho] at h0; cases h0
    rw [lstepT, if_neg h2, if_neg hb, hf]
    rw [doE_eq h2 hb hf ho] at h0
    exact (if_neg ho).trans (doT_eq h2 hb hf ho h0).symm
structure LensOk (s : Lens) : Prop where
  typ : s.typ.fit
  doc : s.doc.fit
  len : s.swaps.length ≤ 1000000
  wide : ∀ n ∈ swapNums s.swaps, I64 n
  subs : StepsC s.subs
theorem doC (t : Typ) (f : Fld) (s : Lens) (hR : RawH) (ht : t.right = true) (hk : t.kind = 1) (hf : t.find s.a = some f) (hs : LensOk s) (hb : ¬ (s.kind < 1 ∨ 10 < s.kind)) (h2 : s.kind ≠ 2) : ∀ n, Con Tryz.prog (lfid s.kind) [agD (typF t), agD (fldF f), agD (lensF s)] [] n (recU (doT s t f) (doE s t f)) [] n := by
  rcases (by omega : s.kind = 1 ∨ s.kind = 3 ∨ s.kind = 4 ∨ s.kind = 5 ∨ s.kind = 6 ∨ s.kind = 7 ∨ s.kind = 8 ∨ s.kind = 9 ∨ s.kind = 10) with h | h | h | h | h | h | h | h | h
  · rw [show lfid s.kind = 223 by rw [h]; rfl, show doT s t f = (renT t f s.a s.b) by simp [doT, h], show doE s t f = (renameE t s.b) by simp [doE, h]]
    exact lrenameC t f s hR.del ht hk
  · rw [show lfid s.kind = 224 by rw [h]; rfl, show doT s t f = (remT t f s.a s.typ) by simp [doT, h], show doE s t f = (removeE f s.typ s.doc) by simp [doE, h]]
    exact lremoveC t f s hR.del ht hs.typ hs.doc
  · rw [show lfid s.kind = 225 by rw [h]; rfl, show doT s t f = (hoiT t f s.a s.b) by simp [doT, h], show doE s t f = (hoistE t f s.b) by simp [doE, h]]
    exact lhoistC t f s hR.del ht hf
  · rw [show lfid s.kind = 226 by rw [h]; rfl, show doT s t f = (pluT t f s.a s.b) by simp [doT, h], show doE s t f = (plungeE t f s.a s.b) by simp [doE, h]]
    exact lplungeC t f s hR.del ht hf
  · rw [show lfid s.kind = 227 by rw [h]; rfl, show doT s t f = (wrapT t f s.a) by simp [doT, h], show doE s t f = (if scalarB f.typ then 0 else 7) by simp [doE, h]]
    exact lwrapC t f s hR.del ht
  · rw [show lfid s.kind = 228 by rw [h]; rfl, show doT s t f = (heaT t f s.a) by simp [doT, h], show doE s t f = (headE f) by simp [doE, h]]
    exact lheadC t f s hR.del ht hf
  · rw [show lfid s.kind = 229 by rw [h]; rfl, show doT s t f = (t) by simp [doT, h], show doE s t f = (if f.typ.kind ≠ 4 then 7 else swapsE s.swaps f.typ) by simp [doE, h]]
    exact lconvertC t f s hR hs.len hs.wide
  · rw [show lfid s.kind = 230 by rw [h]; rfl, show doT s t f = (if f.typ.kind ≠ 1 then t else t.set s.a (Lens.steps s.subs f.typ).1) by simp [doT, h], show doE s t f = (if f.typ.kind ≠ 1 then 7 else (Lens.steps s.subs f.typ).2) by simp [doE, h]]
    exact linsideC t f s hR ht hf hs.subs
  · rw [show lfid s.kind = 231 by rw [h]; rfl, show doT s t f = (if f.typ.kind ≠ 2 ∨ f.typ.of0.kind ≠ 1 then t else t.set s.a (.mk 2 f.typ.lo f.typ.hi [] [] [(Lens.steps s.subs f.typ.of0).1])) by simp [doT, h], show doE s t f = (if f.typ.kind ≠ 2 ∨ f.typ.of0.kind ≠ 1 then 7 else (Lens.steps s.subs f.typ.of0).2) by simp [doE, h]]
    exact leachC t f s hR ht hf hs.subs
set_option maxRecDepth 10000 in
theorem lstepC (t : Typ) (s : Lens) (hR : RawH) (ht : t.right = true) (hk : t.kind = 1) (hs : LensOk s) : ∀ n, Con Tryz.prog 189 [agD (typF t), agD (lensF s)] [] n (recU (lstepT s t) (Lens.at1 s t).2) [] n := by
  refine fnI Tryz.func189 Tryz.ntmps189 (h := fun S w0 β0 X => ?_)
  by_cases k2 : s.kind = 2
  · rw [recU_e (t := addT t s.a s.typ) (e := addE t s.a s.typ s.doc) (by rw [lstepT, if_pos k2]) (by rw [Lens.at1_add k2])]
    refine GO ?_
    refine Ch.c (laddC t s ht hk hs.typ hs.doc) (r := ?_)
    refine GO ?_
    exact fin2
  by_cases hb : s.kind < 1 ∨ 10 < s.kind
  · rw [recU_e (t := t) (e := 1) (by rw [lstepT, if_neg k2, if_pos hb]) (by rw [Lens.at1_bad hb])]
    refine GO ?_
    refine Ch.c (lknown0C t s.kind hb) (r := ?_)
    refine GO ?_
    cases hf : t.find s.a with
    | none =>
      refine Ch.c (findNC hf) (r := ?_)
      refine GO ?_
      refine Ch.p (OpT.eqNilN Tryz.underlying275) ⟨rfl, rfl, trivial⟩ ?_
      refine GO ?_
      exact fin2
    | some f =>
      refine Ch.c (findSC hf) (r := ?_)
      refine GO ?_
      refine Ch.p (OpT.eqNilN Tryz.underlying275) ⟨rfl, rfl, trivial⟩ ?_
      refine GO ?_
      exact fin2
  refine GO ?_
  refine Ch.c (lknownC t s.kind hb k2) (r := ?_)
  refine GO ?_
  cases hf : t.find s.a with
  | none =>
    rw [recU_e (t := t) (e := 9) (by rw [lstepT, if_neg k2, if_neg hb, hf]) (by rw [Lens.at1_miss k2 hb hf])]
    refine Ch.c (findNC hf) (r := ?_)
    refine GO ?_
    refine Ch.p (OpT.eqNilM Tryz.underlying275) ⟨rfl, rfl, trivial⟩ ?_
    refine GO ?_
    exact fin2
  | some f =>
    refine Ch.c (findSC hf) (r := ?_)
    refine GO ?_
    refine Ch.p (OpT.eqNilM Tryz.underlying275) ⟨rfl, rfl, trivial⟩ ?_
    refine GO ?_
    refine W.cond rfl (fun h => ?_) (fun h => ?_)
    · have ho : f.opt = true ∧ s.kind ≠ 1 := by grind
      rw [recU_e (t := t) (e := 7) (by rw [lstepT, if_neg k2, if_neg hb, hf]; exact if_pos ho) (by rw [Lens.at1_some k2 hb hf, if_pos ho])]
      refine GO ?_
      exact fin2
    have ho : ¬ (f.opt = true ∧ s.kind ≠ 1) := by grind
    rw [recU_e (t := doT s t f) (e := doE s t f) (by rw [lstepT, if_neg k2, if_neg hb, hf]; exact if_neg ho) (doE_eq k2 hb hf ho)]
    refine GO ?_
    refine Ch.dynM [] (ts := [agD (fldF f), agD (lensF s)]) (cs := [.ag (typF t)]) (doC t f s hR ht hk hf hs hb k2 0) (r := ?_)
    refine GO ?_
    exact fin2
end Go.Proofs.YtelkpflpgpdkdaaGreatDoor
namespace Go.Proofs.YtelkpflpgpdkdaaGreatDoor
open Go.Sv
def lAt (l : List Lens) (t : Typ) : Nat → Typ
  | 0 => t
  | k + 1 => match l[k]? with
    | some s => (Lens.at1 s (lAt l t k)).1
    | none => lAt l t k
def typZ : Typ := .mk 0 0 0 [] [] []
theorem stepsU_e {t u : Typ × Int} (h : t = u) : stepsU t = stepsU u := by rw [h]
set_option maxRecDepth 10000 in
set_option maxHeartbeats 1000000 in
theorem lstepsC (hR : RawH) : ∀ (m : Nat) (l : List Lens), Lens.size l < m → Lens.fit l → Lens.wides l → StepsC l := by
  intro m
  induction m with
  | zero => intro l hz; exact absurd hz (Nat.not_lt_zero _)
  | succ m ih =>
  intro l hz hfit hw t ht hk
  have hlen := hfit.len
  refine fnI Tryz.func163 Tryz.ntmps163 (h := fun S w0 β0 X => ?_)
  refine GO ?_
  refine W.lpG ((fun k => k ≤ l.length ∧ (lAt l t k).right = true ∧ (lAt l t k).kind = 1 ∧ Lens.steps l t = Lens.steps (l.drop k) (lAt l t k))) (fun k => [(5, iT 0), (6, iT 0), (16, iT k)]) [(1, _), (4, _), (7, _), (14, _), (15, _)] (fun k => [(2, .box 257 ((typF (lAt l t k)).map C.d))]) [(0, _), (1, _)] (l.length - ·) 0 (⟨Nat.zero_le _, ht, hk, rfl⟩) (round := fun k hI => ?_)
  obtain ⟨hkl, hr, hk1, hst⟩ := hI
  by_cases hlt : k < l.length
  · have hs := List.getElem?_eq_getElem hlt
    generalize l[k] = s at hs
    have hsm := List.mem_of_getElem? hs
    have hd : l.drop k = s :: l.drop (k + 1) := by rw [List.drop_eq_getElem_cons hlt]; congr 1; exact Option.some.inj ((List.getElem?_eq_getElem hlt).symm.trans hs)
    obtain ⟨f1, f2, f3, f4⟩ := hfit.sub hsm
    obtain ⟨w1, w2⟩ := Lens.wides_mem hw hsm
    have hz2 := Lens.size_mem hsm
    have hO : LensOk s := ⟨f1, f2, f3, w1, ih s.subs (by omega) f4 w2⟩
    have hA : lAt l t (k + 1) = (Lens.at1 s (lAt l t k)).1 := by rw [lAt, hs]
    rw [hd] at hst
    refine GO ?_
    refine Ch.c (lstepC (lAt l t k) s hR hr hk1 hO) (r := ?_)
    refine GO ?_
    by_cases h0 : (Lens.at1 s (lAt l t k)).2 = 0
    · have hT := lstepT_eq h0
      have hfk := Lens.at1_fit s (lAt l t k) hr hk1 h0
      rw [h0, hT]
      refine GO ?_
      refine Ch.gc (hc := fun _ => rightTC (Lens.at1 s (lAt l t k)).1 hfk.1) (r := ?_)
      refine GO ?_
      cases hrr : (Lens.at1 s (lAt l t k)).1.right with
      | false =>
        rw [stepsU_e (hst.trans (steps_full h0 hrr))]
        refine GO ?_
        refine W.nilB 1 3 9 1 (h := ?_)
        refine W.nilB 1 4 206 8 (h := ?_)
        refine W.nilB 1 5 56 6 (h := ?_)
        refine W.frz 5 (h := ?_)
        refine W.frz 6 (h := ?_)
        refine W.frz 7 (h := ?_)
        refine W.less 5 intA rfl int_intA ?_
        exact fin3
      | true =>
        have hon := hst.trans (steps_on h0 hrr)
        refine GO ?_
        rw [← hA]
        exact W.ag (k + 1) (⟨hlt, by rw [hA]; exact hrr, by rw [hA]; exact hfk.2, by rw [hA]; exact hon⟩) (by omega)
    · have hbad := hst.trans (steps_bad h0)
      rw [stepsU_e hbad]
      refine GO ?_
      refine Ch.gc (ts := [agD (typF (lstepT s (lAt l t k)))]) (out := bT false) (hc := fun hc => absurd hc (by simp [h0])) (r := ?_)
      refine GO ?_
      refine W.cond rfl (fun h9 => ?_) (fun h9 => ?_)
      · exact absurd h9 (by simp [h0])
      refine GO ?_
      refine W.nilB 1 3 9 1 (h := ?_)
      refine W.nilB 1 4 206 8 (h := ?_)
      refine W.nilB 1 5 56 6 (h := ?_)
      refine W.frz 5 (h := ?_)
      refine W.frz 6 (h := ?_)
      refine W.frz 7 (h := ?_)
      refine W.less 5 intA rfl int_intA ?_
      exact fin3
  · obtain rfl : k = l.length := by omega
    rw [List.drop_length] at hst
    rw [stepsU_e (show Lens.steps l t = (lAt l t l.length, 0) from hst)]
    refine GO ?_
    refine W.less 5 intA rfl int_intA ?_
    exact fin3
theorem steps_err : ∀ (l : List Lens) (t : Typ), (Lens.steps l t).2 ≠ 0 → (Lens.steps l t).1 = typZ
  | [], _, h => absurd rfl h
  | s :: l, t, h => by
    unfold Lens.steps at h ⊢
    split
    · rfl
    · rename_i h1
      rw [if_neg h1] at h
      split
      · rfl
      · rename_i h2
        rw [if_neg h2] at h
        exact steps_err l _ h
theorem steps_fit (l : List Lens) {t : Typ} (ht : t.right = true) : (Lens.steps l t).1.fit := by
  by_cases h : (Lens.steps l t).2 = 0
  · exact Typ.right_fit (Lens.steps_right l t ht h)
  · rw [steps_err l t h]
    exact ⟨by decide, by decide, trivial, trivial⟩
set_option maxRecDepth 10000 in
theorem ltargetC (t : Typ) (l : List Lens) (hR : RawH) (ht : t.fit) (hfit : Lens.fit l) (hw : Lens.wides l) : ∀ n, Con Tryz.prog 120 [agD (typF t), dT (sl 16 (lensesC l))] [] n (stepsU (Lens.target l t)) [] n := by
  refine fnI Tryz.func120 Tryz.ntmps120 (h := fun S w0 β0 X => ?_)
  refine GO ?_
  refine Ch.c (rightTC t ht) (r := ?_)
  refine GO ?_
  refine W.cond rfl (fun h => ?_) (fun h => ?_)
  · rw [stepsU_e (show Lens.target l t = (typZ, 1) by grind [Lens.target, typZ])]
    refine GO ?_
    refine W.nilB 1 3 9 1 (h := ?_)
    refine W.nilB 1 4 206 8 (h := ?_)
    refine W.nilB 1 5 56 6 (h := ?_)
    refine W.frz 2 (h := ?_)
    refine W.frz 3 (h := ?_)
    refine W.frz 4 (h := ?_)
    refine W.less 5 intA rfl int_intA ?_
    exact fin3
  have hr : t.right = true ∧ t.kind = 1 := by grind
  refine GO ?_
  refine Ch.c (lensSizeC l (by have := hfit.1; omega)) (r := ?_)
  refine GO ?_
  refine W.cond rfl (fun h1 => ?_) (fun h1 => ?_)
  · rw [stepsU_e (show Lens.target l t = (typZ, 2) by grind [Lens.target, typZ])]
    refine GO ?_
    refine W.nilB 1 3 9 1 (h := ?_)
    refine W.nilB 1 4 206 8 (h := ?_)
    refine W.nilB 1 5 56 6 (h := ?_)
    refine W.frz 2 (h := ?_)
    refine W.frz 3 (h := ?_)
    refine W.frz 4 (h := ?_)
    refine W.less 5 intA rfl int_intA ?_
    exact fin3
  refine GO ?_
  refine Ch.c (lensDepthC l (by have := hfit.1; omega)) (r := ?_)
  refine GO ?_
  refine W.cond rfl (fun h2 => ?_) (fun h2 => ?_)
  · rw [stepsU_e (show Lens.target l t = (typZ, 6) by grind [Lens.target, typZ])]
    refine GO ?_
    refine W.nilB 1 3 9 1 (h := ?_)
    refine W.nilB 1 4 206 8 (h := ?_)
    refine W.nilB 1 5 56 6 (h := ?_)
    refine W.frz 2 (h := ?_)
    refine W.frz 3 (h := ?_)
    refine W.frz 4 (h := ?_)
    refine W.less 5 intA rfl int_intA ?_
    exact fin3
  rw [stepsU_e (show Lens.target l t = Lens.steps l t by grind [Lens.target])]
  have hfit2 := steps_fit l hr.1
  refine GO ?_
  refine Ch.c (lstepsC hR _ l (Nat.lt_succ_self _) hfit hw t hr.1 hr.2) (r := ?_)
  refine GO ?_
  refine Ch.c (typCopyC (Lens.steps l t).1 hfit2) (r := ?_)
  refine GO ?_
  exact fin3
end Go.Proofs.YtelkpflpgpdkdaaGreatDoor



namespace Go.Proofs.YtelkpflpgpdkdaaGreatDoor
open Go.Sv
theorem swap_skip {n : Int} {p : Int × Int} {l : List (Int × Int)} (h1 : p.1 ≠ n) (h2 : p.2 ≠ n) : Lens.swap n (p :: l) = Lens.swap n l := by
  rw [Lens.swap, if_neg h1, if_neg h2]
theorem take_up0 {α : Type} {p : α → Prop} {l : List α} {k : Nat} {x : α} (hx : l[k]? = some x) (h : ∀ y ∈ l.take k, p y) (hp : p x) : ∀ y ∈ l.take (k + 1), p y := fun y hy => by
  rw [List.take_add_one, hx] at hy
  rcases List.mem_append.1 hy with h1 | h1
  · exact h y h1
  · simp at h1; rw [h1]; exact hp
set_option maxRecDepth 10000 in
theorem indexIntC (l : List Int) (m : Int) (hl : l.length ≤ 1000000) : ∀ n, Con Tryz.prog 275 [dT (intsD l), iT m] [] n (iT (idxOf (fun x => m == x) l)) [] n := by
  refine fnI Tryz.func275 Tryz.ntmps275 (h := fun S w0 β0 X => ?_)
  refine GO ?_
  refine W.lp (fun k => k ≤ l.length ∧ ∀ y ∈ l.take k, (m == y) = false) (fun k => [(4, iT 0), (8, iT k)]) [(0, _), (1, _), (7, _)] (l.length - ·) 0 (⟨Nat.zero_le _, by simp⟩) (round := fun k hI => ?_)
  by_cases hlt : k < l.length
  · have hx := List.getElem?_eq_getElem hlt
    generalize l[k] = x at hx
    refine GO ?_
    refine W.cond rfl (fun h => ?_) (fun h => ?_)
    · have h := of_decide_eq_true h
      refine GO ?_
      exact finI (he := by rw [idxOf_at hx (by simpa using h) hI.2])
    · have h := of_decide_eq_false h
      refine GO ?_
      exact W.ag (k + 1) (⟨hlt, take_up0 hx hI.2 (by simpa using h)⟩) (by omega)
  · obtain rfl : k = l.length := by omega
    have hn := hI.2
    rw [List.take_length] at hn
    refine GO ?_
    exact finI (he := by rw [idxOf_none hn])
end Go.Proofs.YtelkpflpgpdkdaaGreatDoor
