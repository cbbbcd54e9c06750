/- Part 25 of what TransFills asks: for every input it returns true, and its input reads as it did. No condition. -/
import Derived.Test.YtddddgbboipfeaaGreatDoorPt6
import Derived.Test.YtddddgbboipfeaaGreatDoorPt13
import Derived.Test.YtddddgbboipfeaaGreatDoorPt16
import Derived.Test.YtddddgbboipfeaaGreatDoorPt24
namespace Go.Proofs.YtddddgbboipfeaaGreatDoor
open Go.RowKit Go.Lib
/-- As graph.Path says. -/
noncomputable def pathE (r : Registry) (a b : Int) : List Hop × Int :=
  if regRight r = false then ([], 1) else if ¬ (0 ≤ a ∧ a < r.schemas.length) ∨ ¬ (0 ≤ b ∧ b < r.schemas.length) then ([], 3) else
  match (waysN r.schemas.length r.joins a).bind fun M => M b with
  | none => ([], 12)
  | some l => (l, 0)
end Go.Proofs.YtddddgbboipfeaaGreatDoor
namespace Go.Proofs.YtddddgbboipfeaaGreatDoor
open Go.RowKit Go.Lib
/-- What is asked of a registry whose joins are gone through. -/
structure RegG (r : Registry) : Prop where
  ok : RegOk r
  go : ∀ j ∈ r.joins, ∀ bk, Lens.fit (effs bk j.lens) ∧ Lens.wides (effs bk j.lens) ∧ Lens.size j.lens ≤ 400000
end Go.Proofs.YtddddgbboipfeaaGreatDoor
namespace Go.Proofs.YtddddgbboipfeaaGreatDoor
open Go.RowKit Go.Lib
theorem foldl_snoc {α β : Type} {f : β → α → β} {l : List α} {i : Nat} {x : α} {b : β} (h : l[i]? = some x) : (l.take (i + 1)).foldl f b = f ((l.take i).foldl f b) x := by
  rw [List.take_add_one, h, List.foldl_append]; rfl
end Go.Proofs.YtddddgbboipfeaaGreatDoor
namespace Go.Proofs.YtddddgbboipfeaaGreatDoor
open Go.RowKit Go.Lib
theorem typAt_eq {r : Registry} {k : Nat} {x : Named} (h : r.schemas[k]? = some x) : typAt r (k : Int) = x.typ := by unfold typAt; rw [Int.toNat_natCast, h]; rfl
theorem joinAt_eq {r : Registry} {i : Nat} {j : Join} (h : r.joins[i]? = some j) : joinAt r (i : Int) = j := by unfold joinAt; rw [Int.toNat_natCast, h]; rfl
end Go.Proofs.YtddddgbboipfeaaGreatDoor
namespace Go.Proofs.YtddddgbboipfeaaGreatDoor
open Go.RowKit Go.Lib
theorem over_next {T : Hop → State → State × Int} {come : Int} {h : Hop} {l : List Hop} {s : State} : overHops T come (h :: l) s = if h.join = come then overHops T come l s else if (T h s).2 ≠ 0 then (zeroS, (T h s).2) else overHops T come l (T h s).1 := rfl
end Go.Proofs.YtddddgbboipfeaaGreatDoor
namespace Go.Proofs.YtddddgbboipfeaaGreatDoor
open Go.RowKit Go.Lib
theorem mayE_zero {r : Registry} {k : Int} (h : mayE r k = 0) : regRight r = true ∧ 0 ≤ k ∧ k < r.schemas.length := by
  unfold mayE at h
  split at h
  · cases h
  · rename_i h1
    split at h
    · cases h
    · rename_i h2
      exact ⟨by simpa using h1, by omega⟩
end Go.Proofs.YtddddgbboipfeaaGreatDoor
namespace Go.Proofs.YtddddgbboipfeaaGreatDoor
open Go.RowKit Go.Lib
theorem StS.fit {s : State} (h : StS s) : s.fit := ⟨h.1.doc, by have := h.2; omega, h.1.res⟩
end Go.Proofs.YtddddgbboipfeaaGreatDoor
namespace Go.Proofs.YtddddgbboipfeaaGreatDoor
open Go.RowKit Go.Lib
theorem mayE_eq (r : Registry) (k : Int) : mayE r k = if regRight r = false then 1 else if k < 0 then 3 else if (r.schemas.length : Int) ≤ k then 3 else 0 := by
  unfold mayE
  split
  · rfl
  · split
    · rename_i h
      split
      · rfl
      · rw [if_pos (h.resolve_left (by assumption))]
    · rename_i h
      rw [if_neg (fun h1 => h (.inl h1)), if_neg (fun h1 => h (.inr h1))]
end Go.Proofs.YtddddgbboipfeaaGreatDoor
namespace Go.Proofs.YtddddgbboipfeaaGreatDoor
open Go.RowKit Go.Lib
noncomputable def walkT (r : Registry) : Int → List Hop → State → State × Int
  | _, [], s => (s, 0)
  | k, h :: l, s => if (hopS cvP r k h s).2 ≠ 0 then (zeroS, (hopS cvP r k h s).2) else walkT r (hopEnd (joinAt r h.join) h.back) l (hopS cvP r k h s).1
noncomputable def goT (r : Registry) (a b : Int) (s : State) : State × Int :=
  if (pathE r a b).2 ≠ 0 then (zeroS, (pathE r a b).2) else if fineE (typAt r a) s ≠ 0 ∧ (pathE r a b).1.length = 0 then (zeroS, fineE (typAt r a) s) else walkT r a (pathE r a b).1 s
theorem pathE_in {r : Registry} {a b : Int} (h : (pathE r a b).2 = 0) : regRight r = true ∧ 0 ≤ a ∧ a < r.schemas.length := by
  unfold pathE at h
  split at h
  · cases h
  · rename_i h1
    split at h
    · cases h
    · rename_i h2
      exact ⟨by simpa using h1, by omega⟩
end Go.Proofs.YtddddgbboipfeaaGreatDoor
namespace Go.Proofs.YtddddgbboipfeaaGreatDoor
open Go.RowKit Go.Lib
/-- What may be gone from a to b. -/
def WayOk (r : Registry) (a b : Int) : Prop := (∀ h ∈ (pathE r a b).1, ∃ (i : Nat) (j : Join), h.join = i ∧ r.joins[i]? = some j) ∧ (pathE r a b).1.length ≤ 1000000
theorem walkT_fit (r : Registry) : ∀ (l : List Hop) (k : Int) (s : State), StS s → StS (walkT r k l s).1
  | [], _, _, hs => hs
  | h :: l, k, s, hs => by
    have h1 := goS_fit cvP_ok (t := typAt r k) (l := (joinAt r h.join).lens) (ed := h.join) (bk := h.back) hs.1
    rw [walkT]
    split
    · exact stS_zero
    · exact walkT_fit r l _ _ h1
theorem goT_fit {r : Registry} {a b : Int} {s : State} (hs : StS s) : StS (goT r a b s).1 := by
  unfold goT
  split
  · exact stS_zero
  split
  · exact stS_zero
  · exact walkT_fit r _ _ _ hs
noncomputable def editT (r : Registry) (a b : Int) (s : State) (d : Doc) : State × Int :=
  if (goT r a b s).2 ≠ 0 then (zeroS, (goT r a b s).2) else if (fillS cvP r b ⟨d, (goT r a b s).1.res⟩).2 ≠ 0 then (zeroS, (fillS cvP r b ⟨d, (goT r a b s).1.res⟩).2) else goT r b a (fillS cvP r b ⟨d, (goT r a b s).1.res⟩).1
theorem fillS_fit {r : Registry} {k : Int} {s : State} (hs : StS s) : StS (fillS cvP r k s).1 := by
  unfold fillS
  split
  · exact stS_zero
  split
  · exact stS_zero
  · exact fillN_fit cvP_ok 13 k (-1) _ (fillN_fit cvP_ok 13 k (-1) _ hs)
end Go.Proofs.YtddddgbboipfeaaGreatDoor
namespace Go.Proofs.YtddddgbboipfeaaGreatDoor
open Go.RowKit Go.Lib
theorem fillS_same {r : Registry} {k : Int} {s : State} (hs : StS s) : fillS cvP r k s = fillS cvR r k s := by
  unfold fillS
  rw [fillN_same 13 k (-1) s hs, fillN_same 13 k (-1) _ (fillN_fit cvR_ok 13 k (-1) s hs)]
theorem wholeS_same {r : Registry} {k : Int} {s : State} (hs : StS s) : wholeS cvP r k s = wholeS cvR r k s := by
  unfold wholeS
  rw [fillN_same 13 k (-1) s hs, fillN_same 13 k (-1) ⟨s.doc, []⟩ ⟨⟨hs.1.doc, Nat.zero_le _, nofun⟩, Nat.zero_le _⟩]
theorem fillS_fitR {r : Registry} {k : Int} {s : State} (hs : StS s) : StS (fillS cvR r k s).1 := by
  unfold fillS
  split
  · exact stS_zero
  split
  · exact stS_zero
  · exact fillN_fit cvR_ok 13 k (-1) _ (fillN_fit cvR_ok 13 k (-1) _ hs)
end Go.Proofs.YtddddgbboipfeaaGreatDoor
namespace Go.Proofs.YtddddgbboipfeaaGreatDoor
open Go.RowKit Go.Lib
namespace Lens
theorem fits_append {l m : List Lens} (h1 : fits l) (h2 : fits m) : fits (l ++ m) := by
  induction l with
  | nil => exact h2
  | cons s l ih => exact ⟨h1.1, ih h1.2⟩
theorem wides_append {l m : List Lens} (h1 : wides l) (h2 : wides m) : wides (l ++ m) := by
  induction l with
  | nil => exact h2
  | cons s l ih => exact ⟨h1.1, ih h1.2⟩
mutual
theorem turn_fit1 : ∀ s : Lens, fit1 s → fit1 (turn s)
  | .mk k a b ty d sw subs, ⟨h1, h2, h3, h4⟩ => by
    have h := back_fits subs h4
    unfold turn
    repeat' split
    all_goals first
      | exact ⟨h1, h2, h3, h4⟩
      | exact ⟨h1, h2, h3, h⟩
theorem back_fits : ∀ l : List Lens, fits l → fits (back l)
  | [], _ => trivial
  | s :: l, ⟨h1, h2⟩ => fits_append (back_fits l h2) ⟨turn_fit1 s h1, trivial⟩
end
mutual
theorem turn_wide1 : ∀ s : Lens, wide1 s → wide1 (turn s)
  | .mk k a b ty d sw subs, ⟨h1, h4⟩ => by
    have h := back_wides subs h4
    unfold turn
    repeat' split
    all_goals first
      | exact ⟨h1, h4⟩
      | exact ⟨h1, h⟩
theorem back_wides : ∀ l : List Lens, wides l → wides (back l)
  | [], _ => trivial
  | s :: l, ⟨h1, h2⟩ => wides_append (back_wides l h2) ⟨turn_wide1 s h1, trivial⟩
end
end Lens
theorem few_regG {r : Registry} (h : fewReg r = true) (hw : ∀ j ∈ r.joins, Lens.wides j.lens) : RegG r := by
  obtain ⟨h1, h2, h3, h4⟩ := fewReg_fit h
  have hz : ∀ j ∈ r.joins, Lens.size j.lens ≤ 400000 := fun j hj => by
    simp only [fewReg, Bool.and_eq_true, decide_eq_true_eq] at h
    have h5 := List.all_eq_true.1 h.2.2 j hj
    have h6 : 0 ≤ fewL 13 j.lens := of_decide_eq_true h5
    have h7 := (fewL_size 13 j.lens h6).1
    have h8 := (fewL_le 13 j.lens).2
    omega
  refine ⟨⟨h3, fun j hj => ⟨h4 j hj, hw j hj⟩, by omega⟩, fun j hj bk => ⟨?_, ?_, hz j hj⟩⟩
  · cases bk with
    | false => exact h4 j hj
    | true => exact ⟨by rw [show effs true j.lens = Lens.back j.lens from rfl, back_size]; exact (h4 j hj).1, Lens.back_fits _ (h4 j hj).2⟩
  · cases bk with
    | false => exact hw j hj
    | true => exact Lens.back_wides _ (hw j hj)
end Go.Proofs.YtddddgbboipfeaaGreatDoor
namespace Go.Proofs.YtddddgbboipfeaaGreatDoor
open Go.RowKit Go.Lib
/-- What is told of a registry whose part is right. -/
def addR (r : Registry) (p : Registry × Int) : Registry × Int := if regRight r = false then (zeroR, 1) else p
end Go.Proofs.YtddddgbboipfeaaGreatDoor
namespace Go.Proofs.YtddddgbboipfeaaGreatDoor
open Go.RowKit Go.Lib
def tyB : Typ := .mk 5 0 0 [] [] []
def tyS : Typ := .mk 1 0 0 [] [] []
def tyT : Typ := .mk 1 0 0 [] [.mk ⟨#[99]⟩ false tyB] []
def docB (b : Bool) : Doc := .mk 5 (if b then 1 else 0) ⟨#[]⟩ [] []
def addC : Lens := .mk 2 ⟨#[99]⟩ ⟨#[]⟩ tyB (docB false) [] []
def regS : Registry := ⟨[⟨⟨#[115]⟩, tyS⟩], []⟩
def regT : Registry := ⟨[⟨⟨#[115]⟩, tyS⟩, ⟨⟨#[116]⟩, tyT⟩], []⟩
def regTwo : Registry := ⟨[⟨⟨#[115]⟩, tyS⟩, ⟨⟨#[116]⟩, tyT⟩], [⟨0, 1, [addC]⟩]⟩
theorem two1 : regRight zeroR = true := by kernel_rfl
theorem two1' : addSE zeroR ⟨#[115]⟩ tyS = (regS, 0) := by kernel_rfl
theorem two2 : regRight regS = true := by kernel_rfl
theorem two3 : addSE regS ⟨#[116]⟩ tyT = (regT, 0) := by kernel_rfl
theorem two4 : regRight regT = true := by kernel_rfl
theorem two5 : schemaIdx regT ⟨#[115]⟩ = 0 := by kernel_rfl
theorem two5' : schemaIdx regT ⟨#[116]⟩ = 1 := by kernel_rfl
theorem two6 : addJE regT 0 1 [addC] = (regTwo, 0) := by kernel_rfl
theorem two7 : regRight regTwo = true := by kernel_rfl
theorem p1 : pathE regTwo 0 1 = ([⟨0, false⟩], 0) := by kernel_rfl
theorem p2 : pathE regTwo 1 0 = ([⟨0, true⟩], 0) := by kernel_rfl
theorem p3 : pathE regTwo 0 2 = ([], 3) := by kernel_rfl
def docE : Doc := .mk 1 0 ⟨#[]⟩ [] []
theorem f1 : fineE tyS ⟨docE, []⟩ = 0 := by kernel_rfl
theorem f2 : (Lens.target [addC] tyS).2 = 0 := by kernel_rfl
end Go.Proofs.YtddddgbboipfeaaGreatDoor
namespace Go.Proofs.YtddddgbboipfeaaGreatDoor
open Go.RowKit Go.Lib
abbrev sC : Str := ⟨#[99]⟩
theorem step_fwd {cv : Doc → List (Int × Int) → Doc} {f : Flds} {w : WS} (h : WOk f w [0] []) : wsteps cv 0 false 0 [addC] [] [] f w = (match resGet w.res 0 [0] [] with
    | none => some (fput sC (docB false) f, ⟨w.res, resPut w.needs ⟨0, [0], [], docB false⟩, w.err⟩)
    | some y => some (fput sC y.doc f, ⟨resDrop w.res 0 [0] [], resPut w.needs ⟨0, [0], [], docB false⟩, if isOf tyB y.doc then w.err else 8⟩)) := by
  have ht : tyB.fit ∧ (docB false).fit := ⟨⟨by decide, by simp [tyB, Typ.slim, Typ.slimFs, Typ.slims]⟩, ⟨by decide, by simp [docB, Doc.slim, Doc.slims]⟩⟩
  have h1 : ¬ (¬ WOk f w [0] [] ∨ 256 < sC.size) := fun e => e.elim (fun e => e h) (fun e => absurd e (by decide))
  have h2 : ¬ ¬ (tyB.fit ∧ (docB false).fit) := fun e => e ht
  unfold wsteps addC
  simp only [Bool.false_eq_true, if_false, List.nil_append]
  unfold wstep
  refine (congrArg (fun z => Option.bind z _) ((if_neg h1).trans ((if_neg (by decide)).trans ((if_pos (by decide)).trans (if_neg h2))))).trans ?_
  unfold wsteps
  show Option.bind (match resGet w.res 0 [0] [] with | none => _ | some y => _) _ = _
  cases resGet w.res 0 [0] [] <;> rfl
theorem step_bwd {cv : Doc → List (Int × Int) → Doc} {f : Flds} {w : WS} (h : WOk f w [0] []) : wsteps cv 0 true 0 [addC] [] [] f w = (match fget sC f with
    | none => none
    | some x => some (fdel sC f, ⟨resPut w.res ⟨0, [0], [], x⟩, w.needs, w.err⟩)) := by
  have h1 : ¬ (¬ WOk f w [0] [] ∨ 256 < sC.size) := fun e => e.elim (fun e => e h) (fun e => absurd e (by decide))
  unfold wsteps addC
  simp only [if_true, List.nil_append]
  unfold wsteps
  simp only [Option.bind_some]
  unfold wstep
  refine (if_neg h1).trans ?_
  refine (if_neg (by decide)).trans ?_
  refine (if_neg (by decide)).trans ?_
  show (match fget sC f with | none => _ | some x => _) = _
  cases fget sC f <;> rfl
end Go.Proofs.YtddddgbboipfeaaGreatDoor
namespace Go.Proofs.YtddddgbboipfeaaGreatDoor
open Go.RowKit Go.Lib
def resC (b : Bool) : Res := ⟨0, [0], [], docB b⟩
def docT (b : Bool) : Doc := .mk 1 0 ⟨#[]⟩ [sC] [docB b]
def goEnd : Option (Flds × WS) → (State × List Res) × Int
  | none => ((zeroS, []), 1)
  | some (f, w) => goesEnd f w
theorem goes_eval {cv : Doc → List (Int × Int) → Doc} {t : Typ} {l : List Lens} {bk : Bool} {s : State} {o : Option (Flds × WS)} (h1 : (Lens.target (effs bk l) t).2 = 0) (h2 : resRight s.res = true) (h3 : isOf t s.doc = true) (h4 : wsteps cv 0 bk 0 l [] [] (fOf s.doc) ⟨s.res, [], 0⟩ = o) :
    goesS cv t l 0 bk s = goEnd o := by
  subst h4
  unfold goesS
  rw [if_neg fun h => h h1, if_neg (by rw [h2]; nofun), if_neg (by rw [h3]; nofun)]
  unfold goEnd
  rfl
theorem docB_fit (b : Bool) : (docB b).fit := ⟨by cases b <;> decide, by simp [docB, Doc.slim, Doc.slims]⟩
theorem resC_fit (b : Bool) : (resC b).fit := ⟨by simp [resC], by simp [resC], docB_fit b⟩
theorem wok_e (l : List Res) (hl : l = [] ∨ ∃ b, l = [resC b]) : WOk [] ⟨l, [], 0⟩ [0] [] where
  srt := by simp [FSrt]
  len := by simp
  docs := nofun
  res := by
    rcases hl with rfl | ⟨b, rfl⟩
    · exact ⟨Nat.zero_le _, nofun⟩
    · exact ⟨by simp, fun x hx => by rw [List.mem_singleton.1 hx]; exact resC_fit b⟩
  needs := ⟨Nat.zero_le _, nofun⟩
  place := by simp
theorem goes_a {cv : Doc → List (Int × Int) → Doc} : goesS cv tyS [addC] 0 false ⟨docE, []⟩ = ((⟨docT false, []⟩, [resC false]), 0) := (goes_eval (s := ⟨docE, []⟩) (by kernel_rfl) (by kernel_rfl) (by kernel_rfl) (step_fwd (f := []) (wok_e _ (.inl rfl)))).trans (by kernel_rfl)
theorem goes_b {cv : Doc → List (Int × Int) → Doc} (b : Bool) : goesS cv tyS [addC] 0 false ⟨docE, [resC b]⟩ = ((⟨docT b, []⟩, [resC false]), 0) := (goes_eval (s := ⟨docE, [resC b]⟩) (by kernel_rfl) (by cases b <;> kernel_rfl) (by kernel_rfl) (step_fwd (f := []) (wok_e _ (.inr ⟨b, rfl⟩)))).trans (by cases b <;> kernel_rfl)
theorem wok_c (b : Bool) : WOk [(sC, docB b)] ⟨[], [], 0⟩ [0] [] where
  srt := by cases b <;> simp [FSrt]
  len := by simp
  docs := fun p hp => by rw [List.mem_singleton.1 hp]; exact ⟨(by decide : sC.size ≤ 256), docB_fit b⟩
  res := ⟨Nat.zero_le _, nofun⟩
  needs := ⟨Nat.zero_le _, nofun⟩
  place := by simp
theorem goes_c {cv : Doc → List (Int × Int) → Doc} (b : Bool) : goesS cv tyT [addC] 0 true ⟨docT b, []⟩ = ((⟨docE, [resC b]⟩, []), 0) := (goes_eval (s := ⟨docT b, []⟩) (by kernel_rfl) (by kernel_rfl) (by cases b <;> kernel_rfl) (step_bwd (f := [(sC, docB b)]) (wok_c b))).trans (by cases b <;> kernel_rfl)
end Go.Proofs.YtddddgbboipfeaaGreatDoor
namespace Go.Proofs.YtddddgbboipfeaaGreatDoor
open Go.RowKit Go.Lib
theorem need_0 {cv : Doc → List (Int × Int) → Doc} (l : List Res) (hl : l = [] ∨ ∃ b, l = [resC b]) : needed cv regTwo 0 ⟨0, false⟩ ⟨docE, l⟩ = ⟨docE, if l = [] then [resC false] else l⟩ := by
  have h : needS cv (typAt regTwo 0) (joinAt regTwo 0).lens 0 false docE = [resC false] := by
    show needS cv tyS [addC] 0 false docE = _
    unfold needS
    rw [goes_a]
  unfold needed
  rw [h]
  rcases hl with rfl | ⟨b, rfl⟩
  · exact (by kernel_rfl : [resC false].foldl putN ⟨docE, []⟩ = ⟨docE, [resC false]⟩)
  · exact (by cases b <;> kernel_rfl : [resC false].foldl putN ⟨docE, [resC b]⟩ = ⟨docE, [resC b]⟩)
theorem hop_0 {cv : Doc → List (Int × Int) → Doc} (b : Bool) : hopS cv regTwo 0 ⟨0, false⟩ ⟨docE, [resC b]⟩ = (⟨docT b, []⟩, 0) := by
  show goS cv tyS [addC] 0 false _ = _
  unfold goS
  rw [goes_b]
theorem hop_1 {cv : Doc → List (Int × Int) → Doc} (b : Bool) : hopS cv regTwo 1 ⟨0, true⟩ ⟨docT b, []⟩ = (⟨docE, [resC b]⟩, 0) := by
  show goS cv tyT [addC] 0 true _ = _
  unfold goS
  rw [goes_c]
theorem need_1 {cv : Doc → List (Int × Int) → Doc} (b : Bool) : needed cv regTwo 1 ⟨0, true⟩ ⟨docT b, []⟩ = ⟨docT b, []⟩ := by
  have h : needS cv (typAt regTwo 1) (joinAt regTwo 0).lens 0 true (docT b) = [] := by
    show needS cv tyT [addC] 0 true (docT b) = _
    unfold needS
    rw [goes_c]
  unfold needed
  rw [h]
  rfl
theorem hops_0 : hopsAt regTwo 0 = [⟨0, false⟩] := by kernel_rfl
theorem hops_1 : hopsAt regTwo 1 = [⟨0, true⟩] := by kernel_rfl
theorem fine_0 (b : Bool) : fineE (typAt regTwo 0) ⟨docE, [resC b]⟩ = 0 := by cases b <;> kernel_rfl
theorem fine_e : fineE (typAt regTwo 0) ⟨docE, []⟩ = 0 := by kernel_rfl
theorem fine_1 (b : Bool) : fineE (typAt regTwo 1) ⟨docT b, []⟩ = 0 := by cases b <;> kernel_rfl
variable {cv : Doc → List (Int × Int) → Doc}
theorem there_eval {r : Registry} {F : Int → Int → State → State × Int} {k e : Int} {h : Hop} {s m x y : State} {z : State × Int} (h1 : needed cv r k h s = m) (h2 : hopS cv r k h m = (x, 0)) (he : hopEnd (joinAt r h.join) h.back = e) (h3 : F e h.join x = (y, 0)) (h4 : hopS cv r e ⟨h.join, !h.back⟩ y = z) : thereS cv r F k h s = z := by
  unfold thereS
  simp only [h1, h2, he, h3, h4, ne_eq, not_true_eq_false, if_false]
theorem fill_eval {r : Registry} {n : Nat} {k come : Int} {s : State} (h : fineE (typAt r k) s = 0) : fillN cv r (n + 1) k come s = overHops (thereS cv r (fillN cv r n) k) come (hopsAt r k) s := by
  unfold fillN
  rw [if_neg fun e => e h]
theorem over_eval {T : Hop → State → State × Int} {come : Int} {h : Hop} {s x : State} (hc : h.join ≠ come) (ht : T h s = (x, 0)) : overHops T come [h] s = (x, 0) := by
  unfold overHops
  rw [if_neg hc, ht, if_neg fun e => e rfl]
  rfl
theorem over_skip {T : Hop → State → State × Int} {come : Int} {h : Hop} {s : State} (hc : h.join = come) : overHops T come [h] s = (s, 0) := by
  unfold overHops
  rw [if_pos hc]
  rfl
theorem end_0 : hopEnd (joinAt regTwo 0) false = 1 := by kernel_rfl
theorem end_1 : hopEnd (joinAt regTwo 0) true = 0 := by kernel_rfl
theorem fill_1 (n : Nat) (b : Bool) : fillN cv regTwo (n + 1) 1 0 ⟨docT b, []⟩ = (⟨docT b, []⟩, 0) := (fill_eval (fine_1 b)).trans (by rw [hops_1]; exact over_skip rfl)
theorem fill_0' (n : Nat) (b : Bool) : fillN cv regTwo (n + 1) 0 0 ⟨docE, [resC b]⟩ = (⟨docE, [resC b]⟩, 0) := (fill_eval (fine_0 b)).trans (by rw [hops_0]; exact over_skip rfl)
theorem fill_1' (n : Nat) (b : Bool) : fillN cv regTwo (n + 2) 1 (-1) ⟨docT b, []⟩ = (⟨docT b, []⟩, 0) :=
  (fill_eval (fine_1 b)).trans (by rw [hops_1]; exact over_eval (by decide) (there_eval (need_1 b) (hop_1 b) end_1 (fill_0' n b) (hop_0 b)))
theorem fill_0 (n : Nat) (b : Bool) : fillN cv regTwo (n + 2) 0 (-1) ⟨docE, [resC b]⟩ = (⟨docE, [resC b]⟩, 0) :=
  (fill_eval (fine_0 b)).trans (by rw [hops_0]; exact over_eval (by decide) (there_eval (need_0 _ (.inr ⟨b, rfl⟩)) (by rw [if_neg nofun]; exact hop_0 b) end_0 (fill_1 n b) (hop_1 b)))
theorem fill_e (n : Nat) : fillN cv regTwo (n + 2) 0 (-1) ⟨docE, []⟩ = (⟨docE, [resC false]⟩, 0) :=
  (fill_eval fine_e).trans (by rw [hops_0]; exact over_eval (by decide) (there_eval (need_0 _ (.inl rfl)) (by rw [if_pos rfl]; exact hop_0 false) end_0 (fill_1 n false) (hop_1 false)))
end Go.Proofs.YtddddgbboipfeaaGreatDoor
namespace Go.Proofs.YtddddgbboipfeaaGreatDoor
open Go.RowKit Go.Lib
theorem may_0 : mayE regTwo 0 = 0 := by kernel_rfl
theorem may_1 : mayE regTwo 1 = 0 := by kernel_rfl
theorem fillS_e : fillS cvP regTwo 0 ⟨docE, []⟩ = (⟨docE, [resC false]⟩, 0) := by
  unfold fillS
  rw [if_neg (fun h => h may_0), fill_e 11, if_neg (fun h => h rfl)]
  exact fill_0 11 false
theorem fillS_1 (b : Bool) : fillS cvP regTwo 1 ⟨docT b, []⟩ = (⟨docT b, []⟩, 0) := by
  unfold fillS
  rw [if_neg (fun h => h may_1), fill_1' 11 b, if_neg (fun h => h rfl)]
  exact fill_1' 11 b
theorem goT_01 (b : Bool) : goT regTwo 0 1 ⟨docE, [resC b]⟩ = (⟨docT b, []⟩, 0) := by
  unfold goT
  rw [p1, if_neg (fun h => h rfl), if_neg (fun h => absurd h.2 (by decide))]
  unfold walkT
  rw [hop_0, if_neg (fun h => h rfl)]
  rfl
theorem goT_10 (b : Bool) : goT regTwo 1 0 ⟨docT b, []⟩ = (⟨docE, [resC b]⟩, 0) := by
  unfold goT
  rw [p2, if_neg (fun h => h rfl), if_neg (fun h => absurd h.2 (by decide))]
  unfold walkT
  rw [hop_1, if_neg (fun h => h rfl)]
  rfl
theorem goT_02 (s : State) : goT regTwo 0 2 s = (zeroS, 3) := by
  unfold goT
  rw [p3, if_pos (by decide)]
theorem editT_01 : editT regTwo 0 1 ⟨docE, [resC false]⟩ (docT true) = (⟨docE, [resC true]⟩, 0) := by
  unfold editT
  rw [goT_01, if_neg (fun h => h rfl), fillS_1 true, if_neg (fun h => h rfl)]
  exact goT_10 true
end Go.Proofs.YtddddgbboipfeaaGreatDoor
namespace Go.Proofs.YtddddgbboipfeaaGreatDoor
open Go.RowKit Go.Lib
theorem whole_s : wholeS cvP regTwo 0 ⟨docE, [resC false]⟩ = true := by
  unfold wholeS
  rw [fill_0 11 false, fill_e 11, stateSame_refl, may_0]
  kernel_rfl
theorem whole_e : wholeS cvP regTwo 0 ⟨docE, []⟩ = false := by
  unfold wholeS
  rw [fill_e 11, may_0]
  kernel_rfl
theorem way_01 : WayOk regTwo 0 1 := by
  unfold WayOk
  rw [p1]
  exact ⟨fun h hh => ⟨0, ⟨0, 1, [addC]⟩, by rw [List.mem_singleton.1 hh]; exact ⟨rfl, rfl⟩⟩, by decide⟩
theorem way_10 : WayOk regTwo 1 0 := by
  unfold WayOk
  rw [p2]
  exact ⟨fun h hh => ⟨0, ⟨0, 1, [addC]⟩, by rw [List.mem_singleton.1 hh]; exact ⟨rfl, rfl⟩⟩, by decide⟩
theorem way_02 : WayOk regTwo 0 2 := by
  unfold WayOk
  rw [p3]
  exact ⟨nofun, by decide⟩
theorem wides_c : Lens.wides [addC] := ⟨⟨nofun, trivial⟩, trivial⟩
theorem regG_two : RegG regTwo := few_regG (by kernel_rfl) fun j hj => by rw [List.mem_singleton.1 hj]; exact wides_c
theorem regOk_t : RegOk regT := (few_regG (r := regT) (by kernel_rfl) nofun).ok
theorem regOk_s : RegOk regS := (few_regG (r := regS) (by kernel_rfl) nofun).ok
theorem regOk_z : RegOk zeroR := (few_regG (r := zeroR) (by kernel_rfl) nofun).ok
theorem stS_s (b : Bool) : StS ⟨docE, [resC b]⟩ := ⟨⟨⟨(by decide : docE.size ≤ 1000000), by simp [docE, Doc.slim, Doc.slims]⟩, by simp, fun x hx => by rw [List.mem_singleton.1 hx]; exact resC_fit b⟩, by simp⟩
end Go.Proofs.YtddddgbboipfeaaGreatDoor
namespace Go.Proofs.YtddddgbboipfeaaGreatDoor
open Go.RowKit Go.Lib
theorem fit_S : tyS.fit := ⟨by decide, by simp [tyS, Typ.slim, Typ.slimFs, Typ.slims]⟩
theorem fit_T : tyT.fit := ⟨by decide, by simp [tyT, tyB, Typ.slim, Typ.slimFs, Typ.slimF, Typ.slims]⟩
theorem add_1 : addR zeroR (addSE zeroR ⟨#[115]⟩ tyS) = (regS, 0) := by unfold addR; rw [two1, two1']; rfl
theorem add_2 : addR regS (addSE regS ⟨#[116]⟩ tyT) = (regT, 0) := by unfold addR; rw [two2, two3]; rfl
theorem add_3 : addR regT (addJE regT (schemaIdx regT ⟨#[115]⟩) (schemaIdx regT ⟨#[116]⟩) [addC]) = (regTwo, 0) := by unfold addR; rw [two4, two5, two5', two6]; rfl
end Go.Proofs.YtddddgbboipfeaaGreatDoor
namespace Go.Proofs.YtddddgbboipfeaaGreatDoor
open Go.Sv

def strsD (l : List Str) : D := sl 1 (l.map fun s => [str s])
def intsD (l : List Int) : D := sl 1 (l.map fun n => [i64 n])
mutual
def docC : Doc → List D
  | .mk k n s ks kids => [i64 k, i64 n, str s, strsD ks, sl 5 (docsC kids)]
def docsC : List Doc → List (List D)
  | [] => []
  | d :: l => docC d :: docsC l
end
def docF (d : Doc) : List D := [i64 d.kind, i64 d.num, str d.str, strsD d.keys, sl 5 (docsC d.kids)]
theorem docC_eq (d : Doc) : docC d = docF d := by cases d; simp only [docC, docF, Doc.kind, Doc.num, Doc.str, Doc.keys, Doc.kids]
instance rowDocs (l : List Doc) : Row (docsC l) Doc l docF := ⟨by
  induction l with
  | nil => simp only [docsC, List.map_nil]
  | cons d l ih => simp only [docsC, List.map_cons, docC_eq, ih]⟩
mutual
def typC : Typ → List D
  | .mk k a b ns fs of => [i64 k, i64 a, i64 b, strsD ns, sl 8 (fldsC fs), sl 6 (typsC of)]
def fldC : Fld → List D
  | .mk s o t => str s :: bl o :: typC t
def fldsC : List Fld → List (List D)
  | [] => []
  | f :: l => fldC f :: fldsC l
def typsC : List Typ → List (List D)
  | [] => []
  | t :: l => typC t :: typsC l
end
def typF (t : Typ) : List D := [i64 t.kind, i64 t.lo, i64 t.hi, strsD t.names, sl 8 (fldsC t.fields), sl 6 (typsC t.of)]
def fldF (f : Fld) : List D := str f.name :: bl f.opt :: typF f.typ
theorem typC_eq (t : Typ) : typC t = typF t := by cases t; simp only [typC, typF, Typ.kind, Typ.lo, Typ.hi, Typ.names, Typ.fields, Typ.of]
theorem fldC_eq (f : Fld) : fldC f = fldF f := by cases f; simp only [fldC, fldF, Fld.name, Fld.opt, Fld.typ, typC_eq]
instance rowTyps (l : List Typ) : Row (typsC l) Typ l typF := ⟨by
  induction l with
  | nil => simp only [typsC, List.map_nil]
  | cons d l ih => simp only [typsC, List.map_cons, typC_eq, ih]⟩
instance rowFlds (l : List Fld) : Row (fldsC l) Fld l fldF := ⟨by
  induction l with
  | nil => simp only [fldsC, List.map_nil]
  | cons d l ih => simp only [fldsC, List.map_cons, fldC_eq, ih]⟩
def swapF (p : Int × Int) : List D := [i64 p.1, i64 p.2]
mutual
def lensC : Lens → List D
  | .mk k a b t d ws l => i64 k :: str a :: str b :: (typF t ++ (docF d ++ [sl 2 (ws.map swapF), sl 16 (lensesC l)]))
def lensesC : List Lens → List (List D)
  | [] => []
  | s :: l => lensC s :: lensesC l
end
def lensF (s : Lens) : List D := i64 s.kind :: str s.a :: str s.b :: (typF s.typ ++ (docF s.doc ++ [sl 2 (s.swaps.map swapF), sl 16 (lensesC s.subs)]))
theorem lensC_eq (s : Lens) : lensC s = lensF s := by cases s; simp only [lensC, lensF, Lens.kind, Lens.a, Lens.b, Lens.typ, Lens.doc, Lens.swaps, Lens.subs]
instance rowLens (l : List Lens) : Row (lensesC l) Lens l lensF := ⟨by
  induction l with
  | nil => simp only [lensesC, List.map_nil]
  | cons d l ih => simp only [lensesC, List.map_cons, lensC_eq, ih]⟩
def resF (x : Res) : List D := i64 x.edge :: intsD x.step :: strsD x.at_ :: docF x.doc
def stateF (s : State) : List D := docF s.doc ++ [sl 8 (s.res.map resF)]
def namedF (x : Named) : List D := str x.name :: typF x.typ
def joinF (j : Join) : List D := [i64 j.from_, i64 j.to, sl 16 (lensesC j.lens)]
def regF (r : Registry) : List D := [sl 7 (r.schemas.map namedF), sl 3 (r.joins.map joinF)]
def hopF (h : Hop) : List D := [i64 h.join, bl h.back]
end Go.Proofs.YtddddgbboipfeaaGreatDoor
namespace Go.Proofs.YtddddgbboipfeaaGreatDoor
open Go.Sv
theorem depths_take (l : List Doc) (k : Nat) (x : Doc) (h : l[k]? = some x) : Doc.depths (l.take (k + 1)) = max (Doc.depths (l.take k)) x.depth := by
  rw [List.take_add_one, h]; simp only [Option.toList_some, Doc.depths_append, Doc.depths]; omega
theorem sizes_take (l : List Doc) (k : Nat) (x : Doc) (h : l[k]? = some x) : Doc.sizes (l.take (k + 1)) = Doc.sizes (l.take k) + x.size := by
  rw [List.take_add_one, h]; simp only [Option.toList_some, Doc.sizes_append, Doc.sizes]; omega
theorem sizes_take_le (l : List Doc) (k : Nat) : Doc.sizes (l.take k) ≤ Doc.sizes l := by
  conv => rhs; rw [← List.take_append_drop k l, Doc.sizes_append]
  omega
set_option maxRecDepth 10000 in
theorem depthC (d : Doc) (hd : d.depth ≤ 1000000) : ∀ n, Con Tryz.prog 168 [agD (docF d)] [] n (iT d.depth) [] n := by
  have hd' := d.depth_kids
  refine fnI Tryz.func168 Tryz.ntmps168 (h := fun S w0 β0 X => ?_)
  refine GO ?_
  refine W.len 7 (h := fun hl => ?_)
  refine W.lp (· ≤ d.kids.length) (fun k => [(9, iT k), (3, iT (Doc.depths (d.kids.take k)))]) [(8, _), (7, _), (1, _)] (d.kids.length - ·) 0 (Nat.zero_le _) (round := fun k hk => ?_)
  by_cases hlt : k < d.kids.length
  · have hx := List.getElem?_eq_getElem hlt
    generalize d.kids[k] = x at hx
    have hdx := Doc.depth_le_depths (List.mem_of_getElem? hx)
    refine GO ?_
    refine Ch.c (depthC x (by omega)) (r := ?_)
    refine GO ?_
    rw [show (if (x.depth : Int) > Doc.depths (d.kids.take k) then (x.depth : Int) else Doc.depths (d.kids.take k)) = Doc.depths (d.kids.take (k + 1)) by rw [depths_take _ _ _ hx]; split <;> omega]
    exact W.ag (k + 1) hlt (by omega)
  · obtain rfl : k = d.kids.length := by omega
    rw [List.take_length]
    refine GO ?_
    exact fin1 (he := by rw [hd']; rfl)
termination_by d.depth
decreasing_by omega
set_option maxRecDepth 10000 in
theorem sizeC (d : Doc) (hd : d.size ≤ 1000000000) : ∀ n, Con Tryz.prog 169 [agD (docF d)] [] n (iT d.size) [] n := by
  have hd' := d.size_kids
  refine fnI Tryz.func169 Tryz.ntmps169 (h := fun S w0 β0 X => ?_)
  refine GO ?_
  refine W.len 7 (h := fun hl => ?_)
  refine W.lp (· ≤ d.kids.length) (fun k => [(9, iT k), (3, iT (Doc.sizes (d.kids.take k) + 1 : Nat))]) [(8, _), (7, _), (1, _)] (d.kids.length - ·) 0 (Nat.zero_le _) (round := fun k hk => ?_)
  have hle := sizes_take_le d.kids k
  by_cases hlt : k < d.kids.length
  · have hx := List.getElem?_eq_getElem hlt
    generalize d.kids[k] = x at hx
    have hdx := Doc.size_le_sizes (List.mem_of_getElem? hx)
    refine GO ?_
    refine Ch.c (sizeC x (by omega)) (r := ?_)
    refine GO ?_
    rw [show ((Doc.sizes (d.kids.take k) + 1 : Nat) : Int) + x.size = (Doc.sizes (d.kids.take (k + 1)) + 1 : Nat) by rw [sizes_take _ _ _ hx]; omega]
    exact W.ag (k + 1) hlt (by omega)
  · obtain rfl : k = d.kids.length := by omega
    rw [List.take_length]
    refine GO ?_
    exact fin1 (he := by rw [hd']; rfl)
termination_by d.size
decreasing_by omega
end Go.Proofs.YtddddgbboipfeaaGreatDoor
namespace Go.Proofs.YtddddgbboipfeaaGreatDoor
open Go.Sv
theorem emp (s : ByteArray) : (s.toList == (ByteArray.mk #[]).toList) = decide (s.size = 0) := by
  rw [str_nil2 (s := ByteArray.mk #[]) rfl, ← str_len s]
  cases s.toList <;> simp
theorem finB {cx : Cx} {n : Nat} {F : FL} {H : HL} {fn : Go.Func} {r : Go.ResultVar} {b b' : Bool} (hr : fn.results = #[r] := by rfl) (hu : resU cx.P F H r = some (.one (.d (bl b'))) := by rfl) (he : b' = b) : Wk cx n F H (bodyPost cx.P fn (Post cx (bT b) [] 0) .ret) := fin1 hr hu (by rw [he]; rfl) rfl
theorem finI {cx : Cx} {n : Nat} {F : FL} {H : HL} {fn : Go.Func} {r : Go.ResultVar} {b b' : Int} (hr : fn.results = #[r] := by rfl) (hu : resU cx.P F H r = some (.one (.d (i64 b'))) := by rfl) (he : b' = b) : Wk cx n F H (bodyPost cx.P fn (Post cx (iT b) [] 0) .ret) := fin1 hr hu (by rw [he]; rfl) rfl
set_option maxRecDepth 10000 in
theorem plainC (d : Doc) (h1 : d.keys.length ≤ 1000000) (h2 : d.kids.length ≤ 1000000) : ∀ n, Con Tryz.prog 198 [agD (docF d)] [] n (bT (plain d)) [] n := by
  refine fnI Tryz.func198 Tryz.ntmps198 (h := fun S w0 β0 X => ?_)
  by_cases k1 : d.kind = 1
  · refine GO ?_
    exact finB (he := by rw [emp]; grind [plain])
  by_cases k2 : d.kind = 2
  · refine GO ?_
    exact finB (he := by rw [emp]; grind [plain])
  by_cases k3 : d.kind = 3
  · refine GO ?_
    exact finB (he := by rw [emp]; grind [plain])
  by_cases k0 : (0 : Int) < (d.keys.length : Int) + d.kids.length
  · refine GO ?_
    exact finB (he := by grind [plain])
  by_cases k4 : d.kind = 4
  · refine GO ?_
    exact finB (he := by rw [emp]; grind [plain])
  by_cases k5 : d.kind = 5
  · refine GO ?_
    exact finB (he := by rw [emp]; grind [plain])
  by_cases k6 : d.kind = 6
  · refine GO ?_
    exact finB (he := by grind [plain])
  · refine GO ?_
    exact finB (he := by grind [plain])
end Go.Proofs.YtddddgbboipfeaaGreatDoor
