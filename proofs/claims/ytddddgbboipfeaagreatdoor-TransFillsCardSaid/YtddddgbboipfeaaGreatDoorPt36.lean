/- Part 36 of what TransFills asks: for every input it returns true, and its input reads as it did. No condition. -/
import Derived.Test.YtddddgbboipfeaaGreatDoorPt15
import Derived.Test.YtddddgbboipfeaaGreatDoorPt27
import Derived.Test.YtddddgbboipfeaaGreatDoorPt28
import Derived.Test.YtddddgbboipfeaaGreatDoorPt29
import Derived.Test.YtddddgbboipfeaaGreatDoorPt30
import Derived.Test.YtddddgbboipfeaaGreatDoorPt31
import Derived.Test.YtddddgbboipfeaaGreatDoorPt32
import Derived.Test.YtddddgbboipfeaaGreatDoorPt33
import Derived.Test.YtddddgbboipfeaaGreatDoorPt35
namespace Go.Proofs.YtddddgbboipfeaaGreatDoor
open Go.Sv
theorem fewTs_snoc {f : Typ → Int} (x : Typ) : ∀ (a : List Typ) (v : Int), fewTs f (a ++ [x]) v = (fewTs f a v).bind fun r => if f x = 0 ∨ r - 200 + f x ≤ 1 then none else some (r - 200 + f x)
  | [], v => by
    rw [List.nil_append, fewTs, fewTs]
    rfl
  | y :: a, v => by
    rw [List.cons_append, fewTs, fewTs]
    split
    · rfl
    · exact fewTs_snoc x a _
theorem fewTs_app {f : Typ → Int} (b : List Typ) : ∀ (a : List Typ) (v : Int), fewTs f (a ++ b) v = (fewTs f a v).bind (fewTs f b)
  | [], v => rfl
  | y :: a, v => by
    rw [List.cons_append, fewTs, fewTs]
    split
    · rfl
    · exact fewTs_app b a _
def tAt (f : Typ → Int) (l : List Typ) (k : Nat) : Int := (fewTs f (l.take k) 200).getD 0
theorem few4C : ∀ (n : Nat) (t : Typ), n ≤ 20 → ∀ m, Con Tryz.prog 84 [agD (typF t), iT n] [] m (iT (fewT n t)) [] m
  | 0, t, _ => by
    refine fnI Tryz.func84 Tryz.ntmps84 (h := fun S w0 β0 X => ?_)
    refine GO ?_
    refine GO ?_
    exact finI (he := by rw [fewT])
  | n + 1, t, hn => by
    refine fnI Tryz.func84 Tryz.ntmps84 (h := fun S w0 β0 X => ?_)
    refine GO ?_
    refine W.cond rfl (fun h => ?_) (fun h => ?_)
    · refine GO ?_
      exact finI (he := by rw [fewT, if_pos (by simp at h; omega)])
    have hb : ¬ (60 < t.fields.length ∨ 60 < t.of.length ∨ 60 < t.names.length) := by simp at h; omega
    clear h
    have hF : fewT (n + 1) t = if (t.names.all fun y => decide (y.size ≤ 300)) = true ∧ (t.fields.all fun y => decide (y.name.size ≤ 100)) = true then match fewTs (fewT n) (t.fields.map Fld.typ ++ t.of) 200 with
      | none => 0
      | some v => v - 1
    else 0 := by rw [fewT, if_neg hb]; rfl
    have hB := fewT_le n
    refine GO ?_
    refine W.lp (fun j => j ≤ t.names.length ∧ ((t.names.take j).all fun s => decide (s.size ≤ 300)) = true) (fun j => [(4, iT 0), (5, iT j)]) [(1, _), (2, _)] (t.names.length - ·) 0 (⟨Nat.zero_le _, rfl⟩) (round := fun j hj => ?_)
    by_cases hlj : j < t.names.length
    · have hs := List.getElem?_eq_getElem hlj
      generalize t.names[j] = s at hs
      refine GO ?_
      refine W.cond rfl (fun h => ?_) (fun h => ?_)
      · have h : ¬ s.size ≤ 300 := by simp at h; omega
        have hno : (t.names.all fun s => decide (s.size ≤ 300)) = false := by
          rw [List.all_eq_false]; exact ⟨s, List.mem_of_getElem? hs, by simpa using h⟩
        refine GO ?_
        exact finI (he := by rw [hF, if_neg (by rw [hno]; simp)])
      · have h : s.size ≤ 300 := by simp at h; omega
        refine GO ?_
        exact W.ag (j + 1) (⟨hlj, by rw [List.take_add_one, hs, List.all_append, hj.2]; simpa using h⟩) (by omega)
    obtain rfl : j = t.names.length := by omega
    have hn1 := hj.2
    rw [List.take_length] at hn1
    clear hj hlj
    refine GO ?_
    refine W.lp (fun j => j ≤ t.fields.length ∧ ((t.fields.take j).all fun s => decide (s.name.size ≤ 100)) = true) (fun j => [(4, iT 0), (6, iT j)]) [(1, _), (2, _)] (t.fields.length - ·) 0 (⟨Nat.zero_le _, rfl⟩) (round := fun j hj => ?_)
    by_cases hlj : j < t.fields.length
    · have hs := List.getElem?_eq_getElem hlj
      generalize t.fields[j] = s at hs
      refine GO ?_
      refine W.cond rfl (fun h => ?_) (fun h => ?_)
      · have h : ¬ s.name.size ≤ 100 := by simp at h; omega
        have hno : (t.fields.all fun s => decide (s.name.size ≤ 100)) = false := by
          rw [List.all_eq_false]; exact ⟨s, List.mem_of_getElem? hs, by simpa using h⟩
        refine GO ?_
        exact finI (he := by rw [hF, if_neg (by rw [hno]; simp)])
      · have h : s.name.size ≤ 100 := by simp at h; omega
        refine GO ?_
        exact W.ag (j + 1) (⟨hlj, by rw [List.take_add_one, hs, List.all_append, hj.2]; simpa using h⟩) (by omega)
    obtain rfl : j = t.fields.length := by omega
    have hn2 := hj.2
    rw [List.take_length] at hn2
    clear hj hlj
    rw [if_pos ⟨hn1, hn2⟩] at hF
    have hLl : (t.fields.map Fld.typ ++ t.of).length = t.fields.length + t.of.length := by rw [List.length_append, List.length_map]
    refine GO ?_
    refine W.lp (fun k => k ≤ t.fields.length + t.of.length ∧ fewTs (fewT n) ((t.fields.map Fld.typ ++ t.of).take k) 200 = some (tAt (fewT n) (t.fields.map Fld.typ ++ t.of) k)) (fun k => [(4, iT 0), (7, iT (tAt (fewT n) (t.fields.map Fld.typ ++ t.of) k)), (8, iT k)]) [(1, _), (2, _)] (t.fields.length + t.of.length - ·) 0 (⟨Nat.zero_le _, rfl⟩) (round := fun k hI => ?_)
    obtain ⟨hk, hv⟩ := hI
    have hr := fewTs_le hB _ _ _ (by omega) (by omega) hv
    by_cases hlt : k < t.fields.length + t.of.length
    · have hx := List.getElem?_eq_getElem (show k < (t.fields.map Fld.typ ++ t.of).length by omega)
      generalize (t.fields.map Fld.typ ++ t.of)[k]'(by omega) = x at hx
      have hs := fewTs_snoc (f := fewT n) x ((t.fields.map Fld.typ ++ t.of).take k) 200
      rw [hv, Option.bind_some, show (t.fields.map Fld.typ ++ t.of).take k ++ [x] = (t.fields.map Fld.typ ++ t.of).take (k + 1) by rw [List.take_add_one, hx]; rfl] at hs
      have hbx := hB x
      have hc := few4C n x (by omega)
      have h1n : ((n + 1 : Nat) : Int) - 1 = n := by omega
      have hnone : (fewT n x = 0 ∨ tAt (fewT n) (t.fields.map Fld.typ ++ t.of) k - 200 + fewT n x ≤ 1) → fewTs (fewT n) (t.fields.map Fld.typ ++ t.of) 200 = none := fun h => by
        rw [← List.take_append_drop k (t.fields.map Fld.typ ++ t.of), fewTs_app, hv, Option.bind_some, fewTs_drop hx, if_pos h]
      by_cases hkf : k < t.fields.length
      · have hg := List.getElem?_eq_getElem hkf
        generalize t.fields[k] = f at hg
        have hxf : f.typ = x := by rw [List.getElem?_append_left (by rw [List.length_map]; exact hkf), List.getElem?_map, hg] at hx; exact Option.some.inj hx
        subst hxf
        refine GO ?_
        rw [h1n]
        refine Ch.c (hc) (r := ?_)
        refine GO ?_
        refine W.cond rfl (fun h => ?_) (fun h => ?_)
        · have h : fewT n f.typ = 0 ∨ tAt (fewT n) (t.fields.map Fld.typ ++ t.of) k - 200 + fewT n f.typ ≤ 1 := by simpa using h
          refine GO ?_
          exact finI (he := by rw [hF, hnone h])
        · have h : ¬ (fewT n f.typ = 0 ∨ tAt (fewT n) (t.fields.map Fld.typ ++ t.of) k - 200 + fewT n f.typ ≤ 1) := by simpa using h
          rw [if_neg h] at hs
          have hk1 : tAt (fewT n) (t.fields.map Fld.typ ++ t.of) (k + 1) = tAt (fewT n) (t.fields.map Fld.typ ++ t.of) k - 200 + fewT n f.typ := by rw [tAt, hs, Option.getD_some]
          refine GO ?_
          rw [← hk1]
          exact W.ag (k + 1) (⟨hlt, by rw [hk1]; exact hs⟩) (by omega)
      · have ho : t.of[k - t.fields.length]? = some x := by rw [List.getElem?_append_right (by rw [List.length_map]; omega), List.length_map] at hx; exact hx
        refine GO ?_
        refine Ch.p (OpT.indexR (j := k - t.fields.length) (hij := by omega) (hj := ho)) ⟨rfl, rfl, trivial⟩ ?_
        refine GO ?_
        rw [h1n]
        refine Ch.c (hc) (r := ?_)
        refine GO ?_
        refine W.cond rfl (fun h => ?_) (fun h => ?_)
        · have h : fewT n x = 0 ∨ tAt (fewT n) (t.fields.map Fld.typ ++ t.of) k - 200 + fewT n x ≤ 1 := by simpa using h
          refine GO ?_
          exact finI (he := by rw [hF, hnone h])
        · have h : ¬ (fewT n x = 0 ∨ tAt (fewT n) (t.fields.map Fld.typ ++ t.of) k - 200 + fewT n x ≤ 1) := by simpa using h
          rw [if_neg h] at hs
          have hk1 : tAt (fewT n) (t.fields.map Fld.typ ++ t.of) (k + 1) = tAt (fewT n) (t.fields.map Fld.typ ++ t.of) k - 200 + fewT n x := by rw [tAt, hs, Option.getD_some]
          refine GO ?_
          rw [← hk1]
          exact W.ag (k + 1) (⟨hlt, by rw [hk1]; exact hs⟩) (by omega)
    · obtain rfl : k = t.fields.length + t.of.length := by omega
      rw [List.take_of_length_le (by omega)] at hv
      rw [hv] at hF
      refine GO ?_
      exact finI (he := by rw [hF])
set_option maxRecDepth 10000 in
theorem Few4C (t : Typ) : ∀ n, Con Tryz.prog 43 [agD (typF t)] [] n (bT (fewTyp t)) [] n := by
  refine fnI Tryz.func43 Tryz.ntmps43 (h := fun S w0 β0 X => ?_)
  refine GO ?_
  refine Ch.c (few4C 20 t (Nat.le_refl _)) (r := ?_)
  refine GO ?_
  exact finB (he := by rfl)
end Go.Proofs.YtddddgbboipfeaaGreatDoor
namespace Go.Proofs.YtddddgbboipfeaaGreatDoor
open Go.Sv
theorem fewLs_app {f : List Lens → Int} (b : List Lens) : ∀ (a : List Lens) (v : Int), fewLs f (a ++ b) v = (fewLs f a v).bind (fewLs f b)
  | [], v => rfl
  | y :: a, v => by
    rw [List.cons_append, fewLs, fewLs]
    split
    · rfl
    · exact fewLs_app b a _
def fAt (f : List Lens → Int) (l : List Lens) (k : Nat) : Int := (fewLs f (l.take k) l.length).getD 0
theorem fewStep_eq (x : Lens) (z : Int) : fewStep x z = !(!fewTyp x.typ || !fewDoc x.doc || decide (z < 0) || decide (100 < (x.swaps.length : Int)) || decide (200 < IntKind.i64.wrap ((x.a.size : Int) + (x.b.size : Int)))) := by
  rw [fewStep]
  have : decide (100 < x.swaps.length) = decide (100 < (x.swaps.length : Int)) := by rw [decide_eq_decide]; omega
  rw [this]
  cases fewTyp x.typ <;> cases fewDoc x.doc <;> simp
theorem few7C : ∀ (n : Nat) (l : List Lens), n ≤ 13 → ∀ m, Con Tryz.prog 85 [dT (sl 16 (lensesC l)), iT ((n : Int) - 1)] [] m (iT (fewL n l)) [] m
  | 0, l, _ => by
    refine fnI Tryz.func85 Tryz.ntmps85 (h := fun S w0 β0 X => ?_)
    rw [show ((0 : Nat) : Int) - 1 = -1 from rfl]
    refine GO ?_
    refine W.cond rfl (fun h => ?_) (fun h => ?_)
    · refine GO ?_
      exact finI (he := by rw [fewL])
    · exact absurd h (by simp)
  | n + 1, l, hn => by
    refine fnI Tryz.func85 Tryz.ntmps85 (h := fun S w0 β0 X => ?_)
    rw [show ((n + 1 : Nat) : Int) - 1 = n by omega]
    refine GO ?_
    refine W.cond rfl (fun h => ?_) (fun h => ?_)
    · refine GO ?_
      exact finI (he := by rw [fewL, if_pos (by simp at h; omega)])
    have hb : ¬ 100 < l.length := by simp at h; omega
    clear h
    have hF : fewL (n + 1) l = match fewLs (fewL n) l l.length with
      | none => -1
      | some v => v := by rw [fewL, if_neg hb]; rfl
    have hB := fewL_le n
    refine GO ?_
    refine W.lp (fun k => k ≤ l.length ∧ fewLs (fewL n) (l.take k) l.length = some (fAt (fewL n) l k)) (fun k => [(4, iT 0), (5, iT (fAt (fewL n) l k)), (6, iT k)]) [(0, _), (1, _)] (l.length - ·) 0 (⟨Nat.zero_le _, rfl⟩) (round := fun k hI => ?_)
    obtain ⟨hk, hv⟩ := hI
    have hr := fewLs_le hB _ _ _ (by omega) (by omega) hv
    by_cases hlt : k < l.length
    · have hx := List.getElem?_eq_getElem hlt
      generalize l[k] = x at hx
      have hbx := hB x.subs
      have hc := few7C n x.subs (by omega)
      have hs : fewLs (fewL n) (l.take (k + 1)) l.length = if fewStep x (fewL n x.subs) = false ∨ 100 < fAt (fewL n) l k + fewL n x.subs then none else some (fAt (fewL n) l k + fewL n x.subs) := by
        rw [List.take_add_one, hx, fewLs_app, hv, Option.bind_some, Option.toList_some, fewLs, fewLs]
      have hnone : (fewStep x (fewL n x.subs) = false ∨ 100 < fAt (fewL n) l k + fewL n x.subs) → fewLs (fewL n) l l.length = none := fun h => by
        have e : fewLs (fewL n) l l.length = fewLs (fewL n) (l.take k ++ l.drop k) l.length := by rw [List.take_append_drop]
        rw [e, fewLs_app, hv, Option.bind_some, fewLs_drop hx, if_pos h]
      have hst := fewStep_eq x (fewL n x.subs)
      refine GO ?_
      refine Ch.c (Few4C x.typ) (r := ?_)
      refine GO ?_
      refine Ch.c (Few1C x.doc) (r := ?_)
      refine GO ?_
      refine Ch.c (hc) (r := ?_)
      refine GO ?_
      refine Ch.g (h := fun _ => OpT.addW) (r := ?_)
      refine GO ?_
      refine W.cond rfl (fun h => ?_) (fun h => ?_)
      · refine GO ?_
        exact finI (he := by rw [hF, hnone (.inl (by rw [hst, h]; rfl))])
      · have h1 : fewStep x (fewL n x.subs) = true := by rw [hst, h]; rfl
        have hz : 0 ≤ fewL n x.subs := by simp at h; omega
        refine GO ?_
        refine W.cond rfl (fun h2 => ?_) (fun h2 => ?_)
        · have h2 := of_decide_eq_true h2
          refine GO ?_
          exact finI (he := by rw [hF, hnone (.inr h2)])
        · have h2 := of_decide_eq_false h2
          rw [if_neg (by rw [h1]; simp; omega)] at hs
          have hk1 : fAt (fewL n) l (k + 1) = fAt (fewL n) l k + fewL n x.subs := by rw [fAt, hs, Option.getD_some]
          refine GO ?_
          rw [← hk1]
          exact W.ag (k + 1) (⟨hlt, by rw [hk1]; exact hs⟩) (by omega)
    · obtain rfl : k = l.length := by omega
      rw [List.take_length] at hv
      rw [hv] at hF
      refine GO ?_
      exact finI (he := by rw [hF])
set_option maxRecDepth 10000 in
theorem Few7C (l : List Lens) : ∀ n, Con Tryz.prog 44 [dT (sl 16 (lensesC l))] [] n (bT (fewLens l)) [] n := by
  refine fnI Tryz.func44 Tryz.ntmps44 (h := fun S w0 β0 X => ?_)
  refine GO ?_
  refine Ch.c (few7C 13 l (Nat.le_refl _)) (r := ?_)
  refine GO ?_
  exact finB (he := by rfl)
end Go.Proofs.YtddddgbboipfeaaGreatDoor
namespace Go.Proofs.YtddddgbboipfeaaGreatDoor
open Go.Sv
set_option maxRecDepth 10000 in
theorem Few8C (s : State) : ∀ n, Con Tryz.prog 21 [agD (stateF s)] [] n (bT (fewState s)) [] n := by
  refine fnI Tryz.func21 Tryz.ntmps21 (h := fun S w0 β0 X => ?_)
  refine GO ?_
  refine Ch.c (Few1C s.doc) (r := ?_)
  refine GO ?_
  refine W.cond rfl (fun h => ?_) (fun h => ?_)
  · refine GO ?_
    exact finB (he := by rw [fewState]; simp at h; grind)
  have hb : fewDoc s.doc = true ∧ s.res.length ≤ 60 := by simp at h; exact ⟨h.1, by omega⟩
  clear h
  have hF : fewState s = s.res.all fewRes := by rw [fewState, hb.1, decide_eq_true hb.2]; rfl
  refine GO ?_
  refine W.lp (fun k => k ≤ s.res.length ∧ (s.res.take k).all fewRes = true) (fun k => [(2, bT false), (4, iT k)]) [(1, _)] (s.res.length - ·) 0 (⟨Nat.zero_le _, rfl⟩) (round := fun k hI => ?_)
  by_cases hlt : k < s.res.length
  · have hx := List.getElem?_eq_getElem hlt
    generalize s.res[k] = x at hx
    refine GO ?_
    refine Ch.c (Few1C x.doc) (r := ?_)
    refine GO ?_
    refine W.cond rfl (fun h => ?_) (fun h => ?_)
    · have hno : s.res.all fewRes = false := by
        rw [List.all_eq_false]; exact ⟨x, List.mem_of_getElem? hx, by rw [fewRes]; simp at h; grind⟩
      refine GO ?_
      exact finB (he := by rw [hF, hno])
    · have hyes : fewRes x = true := by rw [fewRes]; simp at h; grind
      refine GO ?_
      exact W.ag (k + 1) (⟨hlt, by rw [List.take_add_one, hx, List.all_append, hI.2]; simpa using hyes⟩) (by omega)
  · obtain rfl : k = s.res.length := by omega
    have hall := hI.2
    rw [List.take_length] at hall
    refine GO ?_
    exact finB (he := by rw [hF, hall])
set_option maxRecDepth 10000 in
theorem Few10C (r : Registry) : ∀ n, Con Tryz.prog 20 [agD (regF r)] [] n (bT (fewReg r)) [] n := by
  refine fnI Tryz.func20 Tryz.ntmps20 (h := fun S w0 β0 X => ?_)
  refine GO ?_
  refine W.cond rfl (fun h => ?_) (fun h => ?_)
  · refine GO ?_
    exact finB (he := by rw [fewReg]; simp at h; grind)
  have hb : r.schemas.length ≤ 20 ∧ r.joins.length ≤ 20 := by simp at h; omega
  clear h
  have hF : fewReg r = (r.schemas.all fewNamed && r.joins.all fewJoin) := by rw [fewReg, decide_eq_true hb.1, decide_eq_true hb.2]; rfl
  refine GO ?_
  refine W.lp (fun k => k ≤ r.schemas.length ∧ (r.schemas.take k).all fewNamed = true) (fun k => [(2, bT false), (3, iT k)]) [(1, _)] (r.schemas.length - ·) 0 (⟨Nat.zero_le _, rfl⟩) (round := fun k hI => ?_)
  by_cases hlt : k < r.schemas.length
  · have hx := List.getElem?_eq_getElem hlt
    generalize r.schemas[k] = x at hx
    refine GO ?_
    refine Ch.c (Few4C x.typ) (r := ?_)
    refine GO ?_
    refine W.cond rfl (fun h => ?_) (fun h => ?_)
    · have hno : r.schemas.all fewNamed = false := by
        rw [List.all_eq_false]; exact ⟨x, List.mem_of_getElem? hx, by rw [fewNamed]; simp at h; grind⟩
      refine GO ?_
      exact finB (he := by rw [hF, hno]; rfl)
    · have hyes : fewNamed x = true := by rw [fewNamed]; simp at h; grind
      refine GO ?_
      exact W.ag (k + 1) (⟨hlt, by rw [List.take_add_one, hx, List.all_append, hI.2]; simpa using hyes⟩) (by omega)
  obtain rfl : k = r.schemas.length := by omega
  have hall := hI.2
  rw [List.take_length] at hall
  rw [hall, Bool.true_and] at hF
  clear hI hlt
  refine GO ?_
  refine W.lp (fun k => k ≤ r.joins.length ∧ (r.joins.take k).all fewJoin = true) (fun k => [(2, bT false), (5, iT k)]) [(1, _)] (r.joins.length - ·) 0 (⟨Nat.zero_le _, rfl⟩) (round := fun k hI => ?_)
  by_cases hlt : k < r.joins.length
  · have hx := List.getElem?_eq_getElem hlt
    generalize r.joins[k] = x at hx
    refine GO ?_
    refine Ch.c (Few7C x.lens) (r := ?_)
    refine GO ?_
    refine W.cond rfl (fun h => ?_) (fun h => ?_)
    · have hno : r.joins.all fewJoin = false := by
        rw [List.all_eq_false]; exact ⟨x, List.mem_of_getElem? hx, by rw [fewJoin]; simp at h; grind⟩
      refine GO ?_
      exact finB (he := by rw [hF, hno])
    · have hyes : fewJoin x = true := by rw [fewJoin]; simp at h; grind
      refine GO ?_
      exact W.ag (k + 1) (⟨hlt, by rw [List.take_add_one, hx, List.all_append, hI.2]; simpa using hyes⟩) (by omega)
  · obtain rfl : k = r.joins.length := by omega
    have hall := hI.2
    rw [List.take_length] at hall
    refine GO ?_
    exact finB (he := by rw [hF, hall])
set_option maxRecDepth 10000 in
theorem Few11C (r : Registry) (s : State) : ∀ n, Con Tryz.prog 5 [agD (regF r), agD (stateF s)] [] n (bT (fewBoth r s)) [] n := by
  refine fnI Tryz.func5 Tryz.ntmps5 (h := fun S w0 β0 X => ?_)
  refine GO ?_
  refine Ch.c (Few10C r) (r := ?_)
  refine GO ?_
  refine Ch.c (Few8C s) (r := ?_)
  refine GO ?_
  exact finB (he := by rfl)
end Go.Proofs.YtddddgbboipfeaaGreatDoor
namespace Go.Proofs.YtddddgbboipfeaaGreatDoor
open Go.Sv
theorem rlessP (x : Res) (ed : Int) (st : List Int) (ks : List Str) (b1 b2 b3 b4 b5 : D) : ∀ n, Con Tryz.prog 27 [agD (resF x), agD [i64 ed, intsD st, strsD ks, b1, b2, b3, b4, b5]] [] n (iT (resLess x (placeRes ed st ks))) [] n := rlessG x.edge ed x.step st x.at_ ks _ _ _ _ _ _ _ _ _ _
set_option maxRecDepth 10000 in
theorem rfindC (l : List Res) (ed : Int) (st : List Int) (ks : List Str) : ∀ n, Con Tryz.prog 57 [dT (sl 8 (l.map resF)), iT ed, dT (intsD st), dT (strsD ks)] [] n (iT (resIdx l ed st ks)) [] n := by
  refine fnI Tryz.func57 Tryz.ntmps57 (h := fun S w0 β0 X => ?_)
  refine GO ?_
  refine W.len 0 (h := fun hl => ?_)
  refine W.lp (fun k => k ≤ l.length ∧ ∀ y ∈ l.take k, (resLess y (placeRes ed st ks) == 0) = false) (fun k => [(9, iT k)]) [(0, _), (1, _), (2, _), (3, _)] (l.length - ·) 0 (⟨Nat.zero_le _, nofun⟩) (round := fun k hk => ?_)
  by_cases hlt : k < l.length
  · have hx := List.getElem?_eq_getElem hlt
    generalize l[k] = x at hx
    refine GO ?_
    refine Ch.c (rlessP x ed st ks _ _ _ _ _) (r := ?_)
    refine GO ?_
    by_cases h1 : resLess x (placeRes ed st ks) = 0
    · refine GO ?_
      exact finI (he := by exact (idxOf_at hx (p := fun x => resLess x (placeRes ed st ks) == 0) (by simpa using h1) hk.2).symm)
    · refine GO ?_
      exact W.ag (k + 1) (⟨hlt, take_all_succ (p := fun x => resLess x (placeRes ed st ks) == 0) hx (by simpa using h1) hk.2⟩) (by omega)
  · obtain rfl : k = l.length := by omega
    refine GO ?_
    exact finI (he := by exact (idxOf_none fun y hy => hk.2 y (by rwa [List.take_length])).symm)
theorem filter_take {α : Type} {l : List α} {k : Nat} {x : α} {q : α → Bool} (h : l[k]? = some x) : (l.take (k + 1)).filter q = (l.take k).filter q ++ if q x then [x] else [] := by
  rw [List.take_add_one, h, List.filter_append]
  simp only [Option.toList_some, List.filter_cons, List.filter_nil]
theorem drop_take {l : List Res} {k : Nat} (ed : Int) (st : List Int) (ks : List Str) : (resDrop (l.take k) ed st ks).length ≤ k := Nat.le_trans (List.length_filter_le ..) (by rw [List.length_take]; omega)
set_option maxRecDepth 10000 in
theorem rdropC (l : List Res) (ed : Int) (st : List Int) (ks : List Str) (hl : l.length ≤ 1000000) : Con Tryz.prog 99 [dT (sl 8 (l.map resF)), iT ed, dT (intsD st), dT (strsD ks)] [] 0 (.one (.key 0)) [(0, .row 50 8 ((resDrop l ed st ks).map resF))] 1 := by
  refine fnH Tryz.func99 Tryz.ntmps99 (h := fun S w0 β0 X => ?_)
  have sp : Stop 2 := ⟨⟩
  refine GO ?_
  clear sp
  refine W.nilT 9 50 8 (h := ?_)
  refine GO ?_
  refine W.lpG ((· ≤ l.length)) (fun k => [(10, iT k)]) [(0, _), (1, _), (2, _), (3, _), (9, _)] (fun k => [(0, .row 50 8 ((resDrop (l.take k) ed st ks).map resF))]) [] (l.length - ·) 0 (Nat.zero_le _) (round := fun k hk => ?_)
  have hle := drop_take (l := l) (k := k) ed st ks
  by_cases hlt : k < l.length
  · have hx := List.getElem?_eq_getElem hlt
    generalize l[k] = x at hx
    have hf := filter_take (q := fun x => !(resLess x (placeRes ed st ks) == 0)) hx
    have hl2 : ((resDrop (l.take k) ed st ks).map resF).length ≤ k := by rw [List.length_map]; exact hle
    refine GO ?_
    refine Ch.c (rlessP x ed st ks _ _ _ _ _) (r := ?_)
    refine GO ?_
    by_cases h1 : resLess x (placeRes ed st ks) = 0
    · have h2 : resDrop (l.take (k + 1)) ed st ks = resDrop (l.take k) ed st ks := by rw [resDrop, hf, if_neg (by simpa using h1), List.append_nil]; rfl
      refine GO ?_
      rw [← h2]
      exact W.ag (k + 1) (hlt) (by omega)
    · have h2 : resDrop (l.take (k + 1)) ed st ks = resDrop (l.take k) ed st ks ++ [x] := by rw [resDrop, hf, if_pos (by simpa using h1)]; rfl
      refine GO ?_
      rw [show (resDrop (l.take k) ed st ks).map resF ++ [(resF x).take 8] = (resDrop (l.take (k + 1)) ed st ks).map resF by rw [h2, List.map_append]; rfl]
      refine W.swap 0 1 (h := ?_)
      exact W.ag (k + 1) (hlt) (by omega)
  · obtain rfl : k = l.length := by omega
    rw [List.take_length]
    refine GO ?_
    exact finH

set_option maxRecDepth 10000 in
theorem rputC (l : List Res) (x : Res) (hl : l.length ≤ 1000000) : ∀ n, Con Tryz.prog 58 [dT (sl 8 (l.map resF)), agD (resF x)] [] n (dT (sl 8 ((resPut l x).map resF))) [] n := by
  have hr : (resDrop l x.edge x.step x.at_).length ≤ 1000000 := Nat.le_trans (List.length_filter_le ..) hl
  refine fnI Tryz.func58 Tryz.ntmps58 (hk := by rw [List.flatMap_cons, List.flatMap_singleton]; exact agD_keys) (h := fun S w0 β0 X => ?_)
  refine GO ?_
  refine Ch.c ((rdropC l x.edge x.step x.at_ hl).data) (r := ?_)
  unfold resPut
  generalize resDrop l x.edge x.step x.at_ = r at hr
  refine GO ?_
  refine W.lp (fun k => k ≤ r.length ∧ ∀ j y, j < k → r[j]? = some y → resLess y x < 0) (fun k => [(6, iT k)]) [(3, _), (4, _), (5, _)] (r.length - ·) 0 (⟨Nat.zero_le _, fun j y hj => by omega⟩) (round := fun k hk => ?_)
  refine GO ?_
  refine Ch.g (h := fun hg => OpT.indexR (xs := r) (j := k) (v := (r[k]?).getD x) (hj := by simp at hg; simp [hg])) (r := ?_)
  refine GO ?_
  refine Ch.gc (hc := fun _ => rlessC ((r[k]?).getD x) x) (r := ?_)
  refine GO ?_
  refine W.cond rfl (fun h1 => ?_) (fun h1 => ?_)
  · simp only [Bool.and_eq_true, decide_eq_true_eq] at h1
    have hn : ∀ j y, j < k + 1 → r[j]? = some y → resLess y x < 0 := fun j y hj hy => by
      rcases (by omega : j < k ∨ j = k) with h | rfl
      · exact hk.2 j y h hy
      · rw [hy] at h1; exact h1.2
    refine GO ?_
    exact W.ag (k + 1) (⟨by omega, hn⟩) (by omega)
  · have hs := resIns_stop x r k hk.1 hk.2 fun y hy h => by
      have hlt := (List.getElem?_eq_some_iff.1 hy).1
      rw [hy] at h1
      simp at h1
      exact absurd h (by have := h1 hlt; omega)
    refine GO ?_
    refine Ch.p (OpT.upto k (by rw [List.length_map]; exact hk.1)) ⟨rfl, rfl, trivial⟩ ?_
    refine Ch.apA (hb := by simp; omega) (r := ?_)
    refine GO ?_
    refine Ch.p (OpT.slice1' (hs := asAg (l := resF x) rfl)) ⟨rfl, trivial⟩ ?_
    refine Ch.apA (hb := by simp; omega) (r := ?_)
    refine GO ?_
    refine Ch.p (OpT.from k (by rw [List.length_map]; exact hk.1)) ⟨rfl, rfl, trivial⟩ ?_
    refine Ch.apA (hb := by simp; omega) (r := ?_)
    refine GO ?_
    refine W.frz 4 (h := ?_)
    rw [hs]
    exact fin1 (he := by simp only [List.map_append, List.map_take, List.map_drop, List.nil_append]; rfl)
end Go.Proofs.YtddddgbboipfeaaGreatDoor
namespace Go.Proofs.YtddddgbboipfeaaGreatDoor
open Go.Sv
theorem eqF_false {α : Type} {g : α → α → Bool} {l m : List α} (h : l.length ≠ m.length) : eqF g l m = false := by
  cases h1 : eqF g l m
  · rfl
  · exact absurd (eqF_len h1) h
set_option maxRecDepth 10000 in
theorem rresRightC (l : List Res) (hf : ∀ x ∈ l, x.doc.fit) : ∀ n, Con Tryz.prog 97 [dT (sl 8 (l.map resF))] [] n (bT (resRight l)) [] n := by
  refine fnI Tryz.func97 Tryz.ntmps97 (h := fun S w0 β0 X => ?_)
  refine GO ?_
  refine W.len 0 (h := fun hl => ?_)
  by_cases h0 : (256 : Int) < l.length
  · refine GO ?_
    exact finB (he := by rw [resRight]; grind)
  refine GO ?_
  refine W.lp (fun k => k ≤ l.length ∧ resTo l k = true) (fun k => [(3, iT k)]) [(0, _)] (l.length - ·) 0 (⟨Nat.zero_le _, rfl⟩) (round := fun k hk => ?_)
  by_cases hlt : k < l.length
  · have hx := List.getElem?_eq_getElem hlt
    generalize l[k] = x at hx
    have hp : l[k - 1]? = some (l[k - 1]'(by omega)) := List.getElem?_eq_getElem (by omega)
    generalize l[k - 1]'(by omega) = p at hp
    have hs : resStep l k = (x.doc.right && !(decide (0 < k) && decide (0 ≤ resLess p x))) := by rw [resStep, hx, hp]
    have hs2 := resTo_succ l k
    refine GO ?_
    refine Ch.c (rdocRightC x.doc (hf x (List.mem_of_getElem? hx))) (r := ?_)
    refine GO ?_
    refine Ch.g (h := fun hg => OpT.indexR (j := k - 1) (hij := by grind) (hj := hp)) (r := ?_)
    refine GO ?_
    refine Ch.gc (hc := fun _ => rlessC p x) (r := ?_)
    refine GO ?_
    have hle := resLess_le p x
    refine W.cond rfl (fun h1 => ?_) (fun h1 => ?_)
    · refine GO ?_
      exact finB (he := by rw [resTo_false hlt]; rw [hs]; grind)
    · refine GO ?_
      exact W.ag (k + 1) (⟨hlt, by rw [hs2, hk.2, hs]; grind⟩) (by omega)
  · obtain rfl : k = l.length := by omega
    refine GO ?_
    exact finB (he := by rw [resRight, hk.2]; grind)
set_option maxRecDepth 10000 in
theorem rstSameC (s u : State) (hl : s.res.length ≤ 1000000) : ∀ n, Con Tryz.prog 10 [agD (stateF s), agD (stateF u)] [] n (bT (stateSame s u)) [] n := by
  refine fnI Tryz.func10 Tryz.ntmps10 (hk := by rw [List.flatMap_cons, List.flatMap_singleton, agD_keys, agD_keys]; rfl) (h := fun S w0 β0 X => ?_)
  by_cases h0 : (s.res.length : Int) = u.res.length
  case neg =>
    refine GO ?_
    exact finB (he := by rw [stateSame, eqF_false (fun h => h0 (by omega)), Bool.and_false])
  refine GO ?_
  refine W.lp (fun k => k ≤ s.res.length ∧ eqF resSame (s.res.drop k) (u.res.drop k) = eqF resSame s.res u.res) (fun k => [(5, iT k)]) [(2, _), (3, _)] (s.res.length - ·) 0 (⟨Nat.zero_le _, rfl⟩) (round := fun k hk => ?_)
  by_cases hlt : k < s.res.length
  · have hx := List.getElem?_eq_getElem hlt
    generalize s.res[k] = x at hx
    have hy := List.getElem?_eq_getElem (show k < u.res.length by omega)
    generalize u.res[k]'(by omega) = y at hy
    have he := eqF_drop (g := resSame) hx hy
    refine GO ?_
    refine Ch.c (rdocSameC x.doc y.doc) (r := ?_)
    refine GO ?_
    refine Ch.c (rlessC x y) (r := ?_)
    refine GO ?_
    refine W.cond rfl (fun h1 => ?_) (fun h1 => ?_)
    · refine GO ?_
      exact finB (he := by rw [stateSame, ← hk.2, he, resSame]; grind)
    · refine GO ?_
      exact W.ag (k + 1) (⟨hlt, by rw [← hk.2, he, resSame]; grind⟩) (by omega)
  · obtain rfl : k = s.res.length := by omega
    have h3 := hk.2
    rw [List.drop_length, show s.res.length = u.res.length by omega, List.drop_length] at h3
    refine GO ?_
    refine Ch.c (rdocSameC s.doc u.doc) (r := ?_)
    refine GO ?_
    exact finB (he := by rw [stateSame, ← h3]; simp [eqF])
end Go.Proofs.YtddddgbboipfeaaGreatDoor
namespace Go.Proofs.YtddddgbboipfeaaGreatDoor
open Go.Sv
theorem take_up1 {α : Type} {p : α → Prop} {l : List α} {k : Nat} {x : α} (hx : l[k]? = some x) (h : ∀ y ∈ l.take k, p y) (hp : p x) : ∀ y ∈ l.take (k + 1), p y := fun y hy => by
  rw [List.take_add_one, hx] at hy
  rcases List.mem_append.1 hy with h1 | h1
  · exact h y h1
  · simp at h1; rw [h1]; exact hp
set_option maxRecDepth 10000 in
theorem r10findC (r : Registry) (s : Str) (hr : r.schemas.length ≤ 1000000) : ∀ n, Con Tryz.prog 92 [agD (regF r), sT s] [] n (iT (schemaIdx r s)) [] n := by
  refine fnI Tryz.func92 Tryz.ntmps92 (h := fun S w0 β0 X => ?_)
  refine GO ?_
  refine W.lp (fun k => k ≤ r.schemas.length ∧ ∀ y ∈ r.schemas.take k, (y.name.toList == s.toList) = false) (fun k => [(4, iT 0), (5, iT k)]) [(1, _), (2, _)] (r.schemas.length - ·) 0 (⟨Nat.zero_le _, by simp⟩) (round := fun k hI => ?_)
  by_cases hlt : k < r.schemas.length
  · have hx := List.getElem?_eq_getElem hlt
    generalize r.schemas[k] = x at hx
    refine GO ?_
    refine W.cond rfl (fun h => ?_) (fun h => ?_)
    · refine GO ?_
      exact finI (he := by rw [schemaIdx, idxOf_at hx h hI.2])
    · refine GO ?_
      exact W.ag (k + 1) (⟨hlt, take_up1 hx hI.2 h⟩) (by omega)
  · obtain rfl : k = r.schemas.length := by omega
    have hn := hI.2
    rw [List.take_length] at hn
    refine GO ?_
    exact finI (he := by rw [schemaIdx, idxOf_none hn])
set_option maxRecDepth 10000 in
theorem r11endC (r : Registry) (h : Hop) (j : Nat) (x : Join) (hj : h.join = j) (hx : r.joins[j]? = some x) : ∀ n, Con Tryz.prog 60 [agD (regF r), agD (hopF h)] [] n (iT (hopEnd x h.back)) [] n := by
  refine fnI Tryz.func60 Tryz.ntmps60 (h := fun S w0 β0 X => ?_)
  cases hb : h.back
  all_goals
    refine GO ?_
    refine Ch.p (OpT.indexR (hij := hj) (hj := hx)) ⟨rfl, rfl, trivial⟩ ?_
    refine GO ?_
    exact fin1
set_option maxRecDepth 10000 in
theorem r11typC (r : Registry) (k : Int) (j : Nat) (x : Named) (hj : k = j) (hx : r.schemas[j]? = some x) : ∀ n, Con Tryz.prog 56 [agD (regF r), iT k] [] n (agD (typF x.typ)) [] n := by
  refine fnI Tryz.func56 Tryz.ntmps56 (h := fun S w0 β0 X => ?_)
  refine GO ?_
  refine Ch.p (OpT.indexR (hij := hj) (hj := hx)) ⟨rfl, rfl, trivial⟩ ?_
  refine GO ?_
  exact fin1
set_option maxRecDepth 10000 in
theorem r11fineC (r : Registry) (k : Int) (s : State) (j : Nat) (x : Named) (hj : k = j) (hx : r.schemas[j]? = some x) (ht : x.typ.fit) (hs : s.fit) : ∀ n, Con Tryz.prog 53 [agD (regF r), iT k, agD (stateF s)] [] n (iT (fineE x.typ s)) [] n := by
  refine fnI Tryz.func53 Tryz.ntmps53 (h := fun S w0 β0 X => ?_)
  refine GO ?_
  refine Ch.c (r11typC r k j x hj hx) (r := ?_)
  refine GO ?_
  refine Ch.c (risC x.typ s.doc ht hs.1) (r := ?_)
  refine GO ?_
  refine W.cond rfl (fun h => ?_) (fun h => ?_)
  · refine GO ?_
    exact finI (he := by rw [fineE, if_pos (by simpa using h)])
  have h : ¬ isOf x.typ s.doc = false := by simpa using h
  refine GO ?_
  refine Ch.c (rresRightC s.res (fun y hy => (hs.2.2 y hy).2.2)) (r := ?_)
  refine GO ?_
  refine W.cond rfl (fun h2 => ?_) (fun h2 => ?_)
  · refine GO ?_
    exact finI (he := by rw [fineE, if_neg h, if_pos (by simpa using h2)])
  refine GO ?_
  exact finI (he := by rw [fineE, if_neg h, if_neg (by simpa using h2)])
set_option maxRecDepth 10000 in
theorem tfineC (r : Registry) (k : Int) (s : State) (j : Nat) (x : Named) (hj : k = j) (hx : r.schemas[j]? = some x) (ht : x.typ.fit) (hs : s.fit) : ∀ n, Con Tryz.prog 38 [agD (regF r), iT k, agD (stateF s)] [] n (iT (fineE x.typ s)) [] n := by
  refine fnI Tryz.func38 Tryz.ntmps38 (h := fun S w0 β0 X => ?_)
  refine GO ?_
  refine Ch.p (OpT.indexR (hij := hj) (hj := hx)) ⟨rfl, rfl, trivial⟩ ?_
  refine GO ?_
  refine Ch.c (isC x.typ s.doc itoaC ht hs.1) (r := ?_)
  refine GO ?_
  refine W.cond rfl (fun h => ?_) (fun h => ?_)
  · refine GO ?_
    exact finI (he := by rw [fineE, if_pos (by simpa using h)])
  have h : ¬ isOf x.typ s.doc = false := by simpa using h
  refine GO ?_
  refine Ch.c (resRightC s.res hs.2.2) (r := ?_)
  refine GO ?_
  refine W.cond rfl (fun h2 => ?_) (fun h2 => ?_)
  · refine GO ?_
    exact finI (he := by rw [fineE, if_neg h, if_pos (by simpa using h2)])
  refine GO ?_
  exact finI (he := by rw [fineE, if_neg h, if_neg (by simpa using h2)])
end Go.Proofs.YtddddgbboipfeaaGreatDoor
