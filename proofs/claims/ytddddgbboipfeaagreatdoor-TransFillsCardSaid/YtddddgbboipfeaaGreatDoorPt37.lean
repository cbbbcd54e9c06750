/- Part 37 of what TransFills asks: for every input it returns true, and its input reads as it did. No condition. -/
import Derived.Test.YtddddgbboipfeaaGreatDoorPt15
import Derived.Test.YtddddgbboipfeaaGreatDoorPt26
import Derived.Test.YtddddgbboipfeaaGreatDoorPt27
import Derived.Test.YtddddgbboipfeaaGreatDoorPt28
import Derived.Test.YtddddgbboipfeaaGreatDoorPt31
import Derived.Test.YtddddgbboipfeaaGreatDoorPt32
import Derived.Test.YtddddgbboipfeaaGreatDoorPt35
import Derived.Test.YtddddgbboipfeaaGreatDoorPt36
namespace Go.Proofs.YtddddgbboipfeaaGreatDoor
open Go.Sv
def waysU (w : List Hop) : U := .one (.d (sl 2 (w.map hopF)))
def wayG (M : Ways) : Value → Option U := intM fun n => (M n).map waysU
def supp (n : Nat) (M : Ways) : Prop := ∀ v, M v ≠ none → 0 ≤ v ∧ v < n
theorem supp_put {n : Nat} {M : Ways} {k : Int} {w : List Hop} (h : supp n M) (hk : 0 ≤ k ∧ k < n) : supp n (M.put k w) := fun v hv => by
  unfold Ways.put at hv
  split at hv
  · rename_i e; rw [e]; exact hk
  · exact h v hv
theorem goHops_supp {V : Ways → Int → List Hop → Option Ways} {n : Nat} {js : List Join} {way : List Hop} (hV : ∀ (M : Ways) (v : Int) (w : List Hop) (M' : Ways), supp n M → 0 ≤ v ∧ v < n → V M v w = some M' → supp n M') : ∀ (l : List Hop) (M M' : Ways), supp n M → goHops V n js way l M = some M' → supp n M'
  | [], M, M', h, e => by unfold goHops at e; cases e; exact h
  | x :: l, M, M', h, e => by
    unfold goHops at e
    split at e
    · rename_i hc
      obtain ⟨M1, e1, e2⟩ := Option.bind_eq_some_iff.1 e
      exact goHops_supp hV l M1 M' (hV _ _ _ _ h hc.2 e1) e2
    · exact goHops_supp hV l M M' h e
theorem visit_supp {n : Nat} {js : List Join} : ∀ (f : Nat) (M : Ways) (k : Int) (w : List Hop) (M' : Ways), supp n M → 0 ≤ k ∧ k < n → visitN n js f M k w = some M' → supp n M'
  | 0, _, _, _, _, _, _, e => by unfold visitN at e; cases e
  | f + 1, M, k, w, M', h, hk, e => by
    unfold visitN at e
    exact goHops_supp (fun M v w M' h1 h2 h3 => visit_supp f M v w M' h1 h2 h3) _ _ _ (supp_put h hk) e
theorem wayG_put (M : Ways) (k : Int) (w : List Hop) : wayG (M.put k w) (.int .i64 k) = some (waysU w) ∧ ∀ x, x ≠ .int .i64 k → wayG (M.put k w) x = wayG M x := by
  refine ⟨by rw [wayG, intM, Ways.put, if_pos rfl]; rfl, fun x hx => ?_⟩
  cases x <;> try rfl
  rename_i q u
  cases q <;> try rfl
  rw [wayG, intM, Ways.put, if_neg (fun e => hx (by rw [e]))]; rfl
def wayL (n : Nat) : List Value := (List.range n).map fun i : Nat => .int .i64 (i : Int)
theorem wayG_keys {n : Nat} {M : Ways} (h : supp n M) (x : Value) (hx : wayG M x ≠ none) : x ∈ wayL n := by
  cases x <;> try exact absurd rfl hx
  rename_i q u
  cases q <;> try exact absurd rfl hx
  have h1 : M u ≠ none := fun e => hx (by rw [wayG, intM, e]; rfl)
  obtain ⟨h2, h3⟩ := h u h1
  exact List.mem_map.2 ⟨u.toNat, List.mem_range.2 (by omega), by rw [show ((u.toNat : Nat) : Int) = u by omega]⟩
theorem wf64 {k : Int} (h : 0 ≤ k) (h2 : k ≤ 1000000) : (Lit.int .i64 k).wf = true := by simp [Lit.wf, IntKind.min, IntKind.max, IntKind.signed, IntKind.bits]; omega
abbrev visCs (r : Registry) : List Cap := [.key 0, .one (adr (regF r)), .key 2]
abbrev visH (r : Registry) (M : Ways) : HL := [(0, .box 119 [.key 1]), (1, .map (mapM Tryz.prog 3 (wayG M))), (2, .box 148 [.clo 116 (visCs r)])]
theorem visitC (r : Registry) (hr : InR r.schemas.length r.joins) (hn : r.schemas.length ≤ 1000) (hj : r.joins.length ≤ 1000) : ∀ (f : Nat) (M M' : Ways) (k : Int) (way : List Hop), supp r.schemas.length M → way.length + f ≤ 100000 → 0 ≤ k ∧ k < r.schemas.length → visitN r.schemas.length r.joins f M k way = some M' → Con Tryz.prog 116 ([iT k, dT (sl 2 (way.map hopF))] ++ (visCs r).map capU) (visH r M) 3 (.tup []) (visH r M') 3
  | 0, _, _, _, _, _, _, _, e => by unfold visitN at e; cases e
  | f + 1, M, M', k, way, hs, hw, hk, e => by
    unfold visitN at e
    obtain ⟨g1, g2⟩ := wayG_put M k way
    have hs1 := supp_put (w := way) hs hk
    refine fnH Tryz.func116 Tryz.ntmps116 (h := fun S w0 β0 X => ?_)
    refine GO ?_
    refine Ch.put (f := wayG M) (u := waysU way) (wayG (M.put k way)) (wayL r.schemas.length) (wayG_keys hs) (by rw [wayL, List.length_map, List.length_range]; omega) (keyI (k := 3) (wf64 hk.1 (by omega))) g1 g2 (r := ?_)
    refine GO ?_
    refine Ch.c (garoundC r k (by omega)) (r := ?_)
    refine GO ?_
    rw [show hopsAt r k = arnd (hopsG k) 0 r.joins from rfl]
    have hL : ∀ h ∈ arnd (hopsG k) 0 r.joins, ∃ m j, h.join = (m : Nat) ∧ r.joins[m]? = some j ∧ j.between k (hopTo r.joins h) := fun h hh => hopsG_mem hh
    generalize arnd (hopsG k) 0 r.joins = L at *
    refine W.len 17 (h := fun hl => ?_)
    refine W.lpG (fun a : Nat × Ways => a.1 ≤ L.length ∧ supp r.schemas.length a.2 ∧ goHops (visitN r.schemas.length r.joins f) r.schemas.length r.joins way (L.drop a.1) a.2 = some M') (fun a => [(19, iT a.1)]) [(1, _), (2, _), (3, _), (4, _), (17, _), (18, _)] (fun a => [(1, .map (mapM Tryz.prog 3 (wayG a.2)))]) [(0, _), (2, _)] (fun a => L.length - a.1) (0, M.put k way) (⟨Nat.zero_le _, hs1, e⟩) (round := fun a hI => ?_)
    obtain ⟨i, M1⟩ := a
    obtain ⟨hi, hs2, e2⟩ := hI
    simp only at hi hs2 e2 ⊢
    by_cases hlt : i < L.length
    · have hh := List.getElem?_eq_getElem hlt
      generalize L[i] = h at hh
      obtain ⟨m, j, hm, hjm, hbt⟩ := hL h (List.mem_of_getElem? hh)
      have hd : L.drop i = h :: L.drop (i + 1) := by
        obtain ⟨h1, h2⟩ := List.getElem?_eq_some_iff.1 hh
        rw [List.drop_eq_getElem_cons h1, h2]
      rw [hd] at e2
      unfold goHops at e2
      have hto : hopTo r.joins h = hopEnd j h.back := by unfold hopTo hopEnd; rw [hm, Int.toNat_natCast, hjm]
      have hin : 0 ≤ hopEnd j h.back ∧ hopEnd j h.back < r.schemas.length := by
        have := hr j (List.mem_of_getElem? hjm)
        unfold hopEnd; split <;> omega
      rw [hto] at e2
      have hend := gendC r h m j hm hjm
      generalize hopEnd j h.back = v at *
      have hkey : KeyOk Tryz.prog 3 (.int .i64 v) := keyI (wf64 hin.1 (by omega))
      have hth : (decide (0 ≤ v) && decide (v < r.schemas.length)) = true := by simp only [Bool.and_eq_true, decide_eq_true_eq]; exact hin
      have hgt := gthereC r v
      rw [hth] at hgt
      refine GO ?_
      refine Ch.c (hend) (r := ?_)
      refine GO ?_
      cases hM : M1 v with
      | none =>
        rw [if_pos ⟨hM, hin⟩] at e2
        obtain ⟨M2, e3, e4⟩ := Option.bind_eq_some_iff.1 e2
        refine Ch.look (f := wayG M1) (key := .int .i64 v) (o := none) (by rw [wayG, intM, hM]; rfl) hkey (r := ?_)
        refine GO ?_
        refine Ch.gc (hc := fun _ => hgt) (r := ?_)
        refine GO ?_
        refine Ch.ch [] (cloneHopC (way.map hopF) (by rw [List.length_map]; omega)) (r := ?_)
        refine GO ?_
        refine Ch.p (OpT.slice1' (hs := asAg (l := hopF h) rfl)) ⟨rfl, trivial⟩ ?_
        refine Ch.ap ⟨rfl, rfl, trivial⟩ (hb := by rw [List.length_map]; simp; omega) (r := ?_)
        rw [show way.map hopF ++ [hopF h] = (way ++ [h]).map hopF by rw [List.map_append]; rfl]
        refine Ch.dyn [0, 1, 2, 5] (ts := [iT v, .one (.key 3)]) (cs := visCs r) (Con.give (visitC r hr hn hj f M1 M2 v (way ++ [h]) hs2 (by rw [List.length_append, List.length_singleton]; omega) hin e3) (.there .here)) (r := ?_)
        refine GO ?_
        exact W.ag ((i + 1, M2)) (⟨hlt, visit_supp f M1 v (way ++ [h]) M2 hs2 hin e3, e4⟩) (by simp only; omega)
      | some w =>
        rw [if_neg (fun hc => by rw [hM] at hc; exact nomatch hc.1)] at e2
        refine Ch.look (f := wayG M1) (key := .int .i64 v) (o := some (waysU w)) (by rw [wayG, intM, hM]; rfl) hkey (r := ?_)
        refine GO ?_
        refine Ch.gc (ts := [agD (regF r), iT v]) (out := bT false) (hc := fun hc => absurd hc (by simp)) (r := ?_)
        refine GO ?_
        exact W.ag ((i + 1, M1)) (⟨hlt, hs2, e2⟩) (by simp only; omega)
    · obtain rfl : i = L.length := by omega
      rw [List.drop_length] at e2
      unfold goHops at e2
      cases e2
      refine GO ?_
      exact finH0n
end Go.Proofs.YtddddgbboipfeaaGreatDoor
namespace Go.Proofs.YtddddgbboipfeaaGreatDoor
open Go.Sv
theorem gwaysC (r : Registry) (k : Int) (M : Ways) (hr : InR r.schemas.length r.joins) (hn : r.schemas.length ≤ 1000) (hj : r.joins.length ≤ 1000) (hk : 0 ≤ k ∧ k < r.schemas.length) (hM : waysN r.schemas.length r.joins k = some M) : Con Tryz.prog 78 [agD (regF r), iT k] [] 0 (.one (.key 0)) [(0, .map (mapM Tryz.prog 3 (wayG M)))] 1 := by
  unfold waysN at hM
  rw [if_pos hk] at hM
  have hth : (decide (0 ≤ k) && decide (k < r.schemas.length)) = true := by simp only [Bool.and_eq_true, decide_eq_true_eq]; exact hk
  have hgt := gthereC r k
  rw [hth] at hgt
  have hv := (visitC r hr hn hj r.schemas.length (fun _ => none) M k [] (fun v hv => absurd rfl hv) (by simp; omega) hk hM).argL (args := [iT k, dT nilD] ++ (visCs r).map capU) ⟨.refl _, fun _ _ _ h => nil_sl 2 _ _ h, .refl _, .refl _, .refl _, trivial⟩
  have hz : (fun _ => none : Value → Option U) = wayG fun _ => none := by funext v; cases v <;> first | rfl | (rename_i q u; cases q <;> rfl)
  refine fnH Tryz.func78 Tryz.ntmps78 (h := fun S w0 β0 X => ?_)
  have st : Stop 4 := ⟨⟩
  refine GO ?_
  refine Ch.nw (OpT.makeMap 3) trivial ?_
  rw [hz]
  refine GO ?_
  refine Ch.c (hgt) (r := ?_)
  refine GO ?_
  refine W.frzB 0 (regF r) (h := ?_)
  clear st
  refine GO ?_
  refine Ch.p (OpT.clo' (cs := [.key 2, .one (adr (regF r)), .key 3])) ⟨rfl, rfl, rfl, trivial⟩ ?_
  refine GO ?_
  refine Ch.dyn [2, 1, 3] (ts := [iT k, dT nilD]) (cs := visCs r) hv (r := ?_)
  refine GO ?_
  refine W.swap 0 1 (h := ?_)
  exact finH
end Go.Proofs.YtddddgbboipfeaaGreatDoor
namespace Go.Proofs.YtddddgbboipfeaaGreatDoor
open Go.Sv
def lfid (k : Int) : FuncId := if k = 1 then 256 else if k = 3 then 257 else if k = 4 then 258 else if k = 5 then 259 else if k = 6 then 260 else if k = 7 then 261 else if k = 8 then 262 else if k = 9 then 263 else 264
set_option maxRecDepth 10000 in
theorem lknownC (t : Typ) (k : Int) (hb : ¬ (k < 1 ∨ 10 < k)) (h2 : k ≠ 2) : ∀ n, Con Tryz.prog 228 [agD (typF t), iT k] [] n (.one (.mth (lfid k) [.ag (typF t)])) [] n := by
  rcases (by omega : k = 1 ∨ k = 3 ∨ k = 4 ∨ k = 5 ∨ k = 6 ∨ k = 7 ∨ k = 8 ∨ k = 9 ∨ k = 10) with rfl | rfl | rfl | rfl | rfl | rfl | rfl | rfl | rfl
  all_goals
    refine fnI Tryz.func228 Tryz.ntmps228 (h := fun S w0 β0 X => ?_)
    refine GO ?_
    refine Ch.p (OpT.mth (cs := [.ag (typF t)])) ⟨rfl, trivial⟩ ?_
    refine GO ?_
    exact fin1
set_option maxRecDepth 10000 in
theorem lknown0C (t : Typ) (k : Int) (hb : k < 1 ∨ 10 < k) : ∀ n, Con Tryz.prog 228 [agD (typF t), iT k] [] n (dT (lit .nilFunc rfl)) [] n := by
  refine fnI Tryz.func228 Tryz.ntmps228 (h := fun S w0 β0 X => ?_)
  have h1 : k ≠ 1 := by omega
  have h3 : k ≠ 3 := by omega
  have h4 : k ≠ 4 := by omega
  have h5 : k ≠ 5 := by omega
  have h6 : k ≠ 6 := by omega
  have h7 : k ≠ 7 := by omega
  have h8 : k ≠ 8 := by omega
  have h9 : k ≠ 9 := by omega
  have h10 : k ≠ 10 := by omega
  refine GO ?_
  exact fin1
def doT (s : Lens) (t : Typ) (f : Fld) : Typ :=
  if s.kind = 1 then renT t f s.a s.b else if s.kind = 3 then remT t f s.a s.typ else if s.kind = 4 then hoiT t f s.a s.b else if s.kind = 5 then pluT t f s.a s.b else if s.kind = 6 then wrapT t f s.a else if s.kind = 7 then heaT t f s.a else if s.kind = 8 then t else
  if s.kind = 9 then (if f.typ.kind ≠ 1 then t else t.set s.a (Lens.steps s.subs f.typ).1) else (if f.typ.kind ≠ 2 ∨ f.typ.of0.kind ≠ 1 then t else t.set s.a (.mk 2 f.typ.lo f.typ.hi [] [] [(Lens.steps s.subs f.typ.of0).1]))
def doE (s : Lens) (t : Typ) (f : Fld) : Int :=
  if s.kind = 1 then renameE t s.b else if s.kind = 3 then removeE f s.typ s.doc else if s.kind = 4 then hoistE t f s.b else if s.kind = 5 then plungeE t f s.a s.b else if s.kind = 6 then (if scalarB f.typ then 0 else 7) else if s.kind = 7 then headE f else if s.kind = 8 then (if f.typ.kind ≠ 4 then 7 else swapsE s.swaps f.typ) else
  if s.kind = 9 then (if f.typ.kind ≠ 1 then 7 else (Lens.steps s.subs f.typ).2) else (if f.typ.kind ≠ 2 ∨ f.typ.of0.kind ≠ 1 then 7 else (Lens.steps s.subs f.typ.of0).2)
theorem doE_eq {s : Lens} {t : Typ} {f : Fld} (h2 : s.kind ≠ 2) (hb : ¬ (s.kind < 1 ∨ 10 < s.kind)) (hf : t.find s.a = some f) (ho : ¬ (f.opt = true ∧ s.kind ≠ 1)) : (Lens.at1 s t).2 = doE s t f := by
  rw [Lens.at1_some h2 hb hf, if_neg ho, doE]
  simp only [apply_ite Prod.snd]
theorem doT_eq {s : Lens} {t : Typ} {f : Fld} (h2 : s.kind ≠ 2) (hb : ¬ (s.kind < 1 ∨ 10 < s.kind)) (hf : t.find s.a = some f) (ho : ¬ (f.opt = true ∧ s.kind ≠ 1)) (h0 : doE s t f = 0) : (Lens.at1 s t).1 = doT s t f := by
  rw [Lens.at1_some h2 hb hf, if_neg ho, doT]
  rw [doE] at h0
  simp only [apply_ite Prod.fst]
  by_cases k1 : s.kind = 1
  · simp only [if_pos k1] at h0 ⊢
    rw [renT, if_neg (fun e => by rw [renameE, if_pos e] at h0; cases h0), if_neg (fun e => by
      rw [renameE] at h0
      split at h0
      · cases h0
      · cases h0)]
  simp only [if_neg k1] at h0 ⊢
  by_cases k3 : s.kind = 3
  · simp only [if_pos k3] at h0 ⊢
    rw [remT, if_neg (fun e => by rw [removeE, if_pos e] at h0; cases h0)]
  simp only [if_neg k3] at h0 ⊢
  by_cases k4 : s.kind = 4
  · simp only [if_pos k4] at h0 ⊢
    rw [hoiT, if_pos h0]
  simp only [if_neg k4] at h0 ⊢
  by_cases k5 : s.kind = 5
  · simp only [if_pos k5] at h0 ⊢
    rw [pluT, if_pos h0]
  simp only [if_neg k5] at h0 ⊢
  by_cases k6 : s.kind = 6
  · simp only [if_pos k6] at h0 ⊢
    rw [wrapT, if_neg (fun e => by rw [e] at h0; cases h0)]
  simp only [if_neg k6] at h0 ⊢
  by_cases k7 : s.kind = 7
  · simp only [if_pos k7] at h0 ⊢
    rw [heaT, if_pos h0]
  simp only [if_neg k7]
def lstepT (s : Lens) (t : Typ) : Typ := if s.kind = 2 then addT t s.a s.typ else if s.kind < 1 ∨ 10 < s.kind then t else match t.find s.a with
  | none => t
  | some f => if f.opt = true ∧ s.kind ≠ 1 then t else doT s t f
theorem lstepT_eq {s : Lens} {t : Typ} (h0 : (Lens.at1 s t).2 = 0) : lstepT s t = (Lens.at1 s t).1 := by
  by_cases h2 : s.kind = 2
  · rw [Lens.at1_add h2] at h0 ⊢
    rw [lstepT, if_pos h2, addT, if_neg (fun e => by rw [show addE t s.a s.typ s.doc = 1 from if_pos e] at h0; cases h0), if_neg (fun e => by
      simp only [addE] at h0
      split at h0
      · cases h0
      · cases h0)]
  by_cases hb : s.kind < 1 ∨ 10 < s.kind
  · rw [Lens.at1_bad hb] at h0; cases h0
  cases hf : t.find s.a with
  | none => rw [Lens.at1_miss h2 hb hf] at h0; cases h0
  | some f =>
    by_cases ho : f.opt = true ∧ s.kind ≠ 1
    · rw [Lens.at1_some h2 hb hf, if_pos ho] at h0; cases h0
    rw [lstepT, if_neg h2, if_neg hb, hf]
    rw [doE_eq h2 hb hf ho] at h0
    exact (if_neg ho).trans (doT_eq h2 hb hf ho h0).symm
structure LensOk (s : Lens) : Prop where
  typ : s.typ.fit
  doc : s.doc.fit
  len : s.swaps.length ≤ 1000000
  wide : ∀ n ∈ swapNums s.swaps, I64 n
  subs : StepsC s.subs
theorem doC (t : Typ) (f : Fld) (s : Lens) (hR : RawH) (ht : t.right = true) (hk : t.kind = 1) (hf : t.find s.a = some f) (hs : LensOk s) (hb : ¬ (s.kind < 1 ∨ 10 < s.kind)) (h2 : s.kind ≠ 2) : ∀ n, Con Tryz.prog (lfid s.kind) [agD (typF t), agD (fldF f), agD (lensF s)] [] n (recU (doT s t f) (doE s t f)) [] n := by
  rcases (by omega : s.kind = 1 ∨ s.kind = 3 ∨ s.kind = 4 ∨ s.kind = 5 ∨ s.kind = 6 ∨ s.kind = 7 ∨ s.kind = 8 ∨ s.kind = 9 ∨ s.kind = 10) with h | h | h | h | h | h | h | h | h
  · rw [show lfid s.kind = 256 by rw [h]; rfl, show doT s t f = (renT t f s.a s.b) by simp [doT, h], show doE s t f = (renameE t s.b) by simp [doE, h]]
    exact lrenameC t f s hR.del ht hk
  · rw [show lfid s.kind = 257 by rw [h]; rfl, show doT s t f = (remT t f s.a s.typ) by simp [doT, h], show doE s t f = (removeE f s.typ s.doc) by simp [doE, h]]
    exact lremoveC t f s hR.del ht hs.typ hs.doc
  · rw [show lfid s.kind = 258 by rw [h]; rfl, show doT s t f = (hoiT t f s.a s.b) by simp [doT, h], show doE s t f = (hoistE t f s.b) by simp [doE, h]]
    exact lhoistC t f s hR.del ht hf
  · rw [show lfid s.kind = 259 by rw [h]; rfl, show doT s t f = (pluT t f s.a s.b) by simp [doT, h], show doE s t f = (plungeE t f s.a s.b) by simp [doE, h]]
    exact lplungeC t f s hR.del ht hf
  · rw [show lfid s.kind = 260 by rw [h]; rfl, show doT s t f = (wrapT t f s.a) by simp [doT, h], show doE s t f = (if scalarB f.typ then 0 else 7) by simp [doE, h]]
    exact lwrapC t f s hR.del ht
  · rw [show lfid s.kind = 261 by rw [h]; rfl, show doT s t f = (heaT t f s.a) by simp [doT, h], show doE s t f = (headE f) by simp [doE, h]]
    exact lheadC t f s hR.del ht hf
  · rw [show lfid s.kind = 262 by rw [h]; rfl, show doT s t f = (t) by simp [doT, h], show doE s t f = (if f.typ.kind ≠ 4 then 7 else swapsE s.swaps f.typ) by simp [doE, h]]
    exact lconvertC t f s hR hs.len hs.wide
  · rw [show lfid s.kind = 263 by rw [h]; rfl, show doT s t f = (if f.typ.kind ≠ 1 then t else t.set s.a (Lens.steps s.subs f.typ).1) by simp [doT, h], show doE s t f = (if f.typ.kind ≠ 1 then 7 else (Lens.steps s.subs f.typ).2) by simp [doE, h]]
    exact linsideC t f s hR ht hf hs.subs
  · rw [show lfid s.kind = 264 by rw [h]; rfl, show doT s t f = (if f.typ.kind ≠ 2 ∨ f.typ.of0.kind ≠ 1 then t else t.set s.a (.mk 2 f.typ.lo f.typ.hi [] [] [(Lens.steps s.subs f.typ.of0).1])) by simp [doT, h], show doE s t f = (if f.typ.kind ≠ 2 ∨ f.typ.of0.kind ≠ 1 then 7 else (Lens.steps s.subs f.typ.of0).2) by simp [doE, h]]
    exact leachC t f s hR ht hf hs.subs
set_option maxRecDepth 10000 in
theorem lstepC (t : Typ) (s : Lens) (hR : RawH) (ht : t.right = true) (hk : t.kind = 1) (hs : LensOk s) : ∀ n, Con Tryz.prog 189 [agD (typF t), agD (lensF s)] [] n (recU (lstepT s t) (Lens.at1 s t).2) [] n := by
  refine fnI Tryz.func189 Tryz.ntmps189 (h := fun S w0 β0 X => ?_)
  by_cases k2 : s.kind = 2
  · rw [recU_e (t := addT t s.a s.typ) (e := addE t s.a s.typ s.doc) (by rw [lstepT, if_pos k2]) (by rw [Lens.at1_add k2])]
    refine GO ?_
    refine Ch.c (laddC t s ht hk hs.typ hs.doc) (r := ?_)
    refine GO ?_
    exact fin2
  by_cases hb : s.kind < 1 ∨ 10 < s.kind
  · rw [recU_e (t := t) (e := 1) (by rw [lstepT, if_neg k2, if_pos hb]) (by rw [Lens.at1_bad hb])]
    refine GO ?_
    refine Ch.c (lknown0C t s.kind hb) (r := ?_)
    refine GO ?_
    cases hf : t.find s.a with
    | none =>
      refine Ch.c (findNC hf) (r := ?_)
      refine GO ?_
      refine Ch.p (OpT.eqNilN Tryz.underlying240) ⟨rfl, rfl, trivial⟩ ?_
      refine GO ?_
      exact fin2
    | some f =>
      refine Ch.c (findSC hf) (r := ?_)
      refine GO ?_
      refine Ch.p (OpT.eqNilN Tryz.underlying240) ⟨rfl, rfl, trivial⟩ ?_
      refine GO ?_
      exact fin2
  refine GO ?_
  refine Ch.c (lknownC t s.kind hb k2) (r := ?_)
  refine GO ?_
  cases hf : t.find s.a with
  | none =>
    rw [recU_e (t := t) (e := 9) (by rw [lstepT, if_neg k2, if_neg hb, hf]) (by rw [Lens.at1_miss k2 hb hf])]
    refine Ch.c (findNC hf) (r := ?_)
    refine GO ?_
    refine Ch.p (OpT.eqNilM Tryz.underlying240) ⟨rfl, rfl, trivial⟩ ?_
    refine GO ?_
    exact fin2
  | some f =>
    refine Ch.c (findSC hf) (r := ?_)
    refine GO ?_
    refine Ch.p (OpT.eqNilM Tryz.underlying240) ⟨rfl, rfl, trivial⟩ ?_
    refine GO ?_
    refine W.cond rfl (fun h => ?_) (fun h => ?_)
    · have ho : f.opt = true ∧ s.kind ≠ 1 := by grind
      rw [recU_e (t := t) (e := 7) (by rw [lstepT, if_neg k2, if_neg hb, hf]; exact if_pos ho) (by rw [Lens.at1_some k2 hb hf, if_pos ho])]
      refine GO ?_
      exact fin2
    have ho : ¬ (f.opt = true ∧ s.kind ≠ 1) := by grind
    rw [recU_e (t := doT s t f) (e := doE s t f) (by rw [lstepT, if_neg k2, if_neg hb, hf]; exact if_neg ho) (doE_eq k2 hb hf ho)]
    refine GO ?_
    refine Ch.dynM [] (ts := [agD (fldF f), agD (lensF s)]) (cs := [.ag (typF t)]) (doC t f s hR ht hk hf hs hb k2 0) (r := ?_)
    refine GO ?_
    exact fin2
end Go.Proofs.YtddddgbboipfeaaGreatDoor
namespace Go.Proofs.YtddddgbboipfeaaGreatDoor
open Go.Sv
def lAt (l : List Lens) (t : Typ) : Nat → Typ
  | 0 => t
  | k + 1 => match l[k]? with
    | some s => (Lens.at1 s (lAt l t k)).1
    | none => lAt l t k
def typZ : Typ := .mk 0 0 0 [] [] []
theorem typZ_cells : typF typZ = [i64 0, i64 0, i64 0, sl 1 [], sl 8 [], sl 6 []] := rfl
theorem stepsU_e {t u : Typ × Int} (h : t = u) : stepsU t = stepsU u := by rw [h]
set_option maxRecDepth 10000 in
set_option maxHeartbeats 1000000 in
theorem lstepsC (hR : RawH) : ∀ (m : Nat) (l : List Lens), Lens.size l < m → Lens.fit l → Lens.wides l → StepsC l := by
  intro m
  induction m with
  | zero => intro l hz; exact absurd hz (Nat.not_lt_zero _)
  | succ m ih =>
  intro l hz hfit hw t ht hk
  have hlen := hfit.len
  refine fnI Tryz.func151 Tryz.ntmps151 (h := fun S w0 β0 X => ?_)
  refine GO ?_
  refine W.lpG ((fun k => k ≤ l.length ∧ (lAt l t k).right = true ∧ (lAt l t k).kind = 1 ∧ Lens.steps l t = Lens.steps (l.drop k) (lAt l t k))) (fun k => [(5, iT 0), (6, iT 0), (16, iT k)]) [(1, _), (4, _), (7, _), (14, _), (15, _)] (fun k => [(2, .box 205 ((typF (lAt l t k)).map C.d))]) [(0, _), (1, _)] (l.length - ·) 0 (⟨Nat.zero_le _, ht, hk, rfl⟩) (round := fun k hI => ?_)
  obtain ⟨hkl, hr, hk1, hst⟩ := hI
  by_cases hlt : k < l.length
  · have hs := List.getElem?_eq_getElem hlt
    generalize l[k] = s at hs
    have hsm := List.mem_of_getElem? hs
    have hd : l.drop k = s :: l.drop (k + 1) := by rw [List.drop_eq_getElem_cons hlt]; congr 1; exact Option.some.inj ((List.getElem?_eq_getElem hlt).symm.trans hs)
    obtain ⟨f1, f2, f3, f4⟩ := hfit.sub hsm
    obtain ⟨w1, w2⟩ := Lens.wides_mem hw hsm
    have hz2 := Lens.size_mem hsm
    have hO : LensOk s := ⟨f1, f2, f3, w1, ih s.subs (by omega) f4 w2⟩
    have hA : lAt l t (k + 1) = (Lens.at1 s (lAt l t k)).1 := by rw [lAt, hs]
    rw [hd] at hst
    refine GO ?_
    refine Ch.c (lstepC (lAt l t k) s hR hr hk1 hO) (r := ?_)
    refine GO ?_
    by_cases h0 : (Lens.at1 s (lAt l t k)).2 = 0
    · have hT := lstepT_eq h0
      have hfk := Lens.at1_fit s (lAt l t k) hr hk1 h0
      rw [h0, hT]
      refine GO ?_
      refine Ch.gc (hc := fun _ => rightTC (Lens.at1 s (lAt l t k)).1 hfk.1) (r := ?_)
      refine GO ?_
      cases hrr : (Lens.at1 s (lAt l t k)).1.right with
      | false =>
        rw [stepsU_e (hst.trans (steps_full h0 hrr))]
        refine GO ?_
        refine W.nilB 1 3 9 1 (h := ?_)
        refine W.nilB 1 4 66 8 (h := ?_)
        refine W.nilB 1 5 62 6 (h := ?_)
        refine W.frz 5 (h := ?_)
        refine W.frz 6 (h := ?_)
        refine W.frz 7 (h := ?_)
        refine W.less 5 intA rfl int_intA ?_
        exact fin3
      | true =>
        have hon := hst.trans (steps_on h0 hrr)
        refine GO ?_
        rw [← hA]
        exact W.ag (k + 1) (⟨hlt, by rw [hA]; exact hrr, by rw [hA]; exact hfk.2, by rw [hA]; exact hon⟩) (by omega)
    · have hbad := hst.trans (steps_bad h0)
      rw [stepsU_e hbad]
      refine GO ?_
      refine Ch.gc (ts := [agD (typF (lstepT s (lAt l t k)))]) (out := bT false) (hc := fun hc => absurd hc (by simp [h0])) (r := ?_)
      refine GO ?_
      refine W.cond rfl (fun h9 => ?_) (fun h9 => ?_)
      · exact absurd h9 (by simp [h0])
      refine GO ?_
      refine W.nilB 1 3 9 1 (h := ?_)
      refine W.nilB 1 4 66 8 (h := ?_)
      refine W.nilB 1 5 62 6 (h := ?_)
      refine W.frz 5 (h := ?_)
      refine W.frz 6 (h := ?_)
      refine W.frz 7 (h := ?_)
      refine W.less 5 intA rfl int_intA ?_
      exact fin3
  · obtain rfl : k = l.length := by omega
    rw [List.drop_length] at hst
    rw [stepsU_e (show Lens.steps l t = (lAt l t l.length, 0) from hst)]
    refine GO ?_
    refine W.less 5 intA rfl int_intA ?_
    exact fin3
theorem steps_err : ∀ (l : List Lens) (t : Typ), (Lens.steps l t).2 ≠ 0 → (Lens.steps l t).1 = typZ
  | [], _, h => absurd rfl h
  | s :: l, t, h => by
    unfold Lens.steps at h ⊢
    split
    · rfl
    · rename_i h1
      rw [if_neg h1] at h
      split
      · rfl
      · rename_i h2
        rw [if_neg h2] at h
        exact steps_err l _ h
theorem steps_fit (l : List Lens) {t : Typ} (ht : t.right = true) : (Lens.steps l t).1.fit := by
  by_cases h : (Lens.steps l t).2 = 0
  · exact Typ.right_fit (Lens.steps_right l t ht h)
  · rw [steps_err l t h]
    exact ⟨by decide, by decide, trivial, trivial⟩
set_option maxRecDepth 10000 in
theorem ltargetC (t : Typ) (l : List Lens) (hR : RawH) (ht : t.fit) (hfit : Lens.fit l) (hw : Lens.wides l) : ∀ n, Con Tryz.prog 108 [agD (typF t), dT (sl 16 (lensesC l))] [] n (stepsU (Lens.target l t)) [] n := by
  refine fnI Tryz.func108 Tryz.ntmps108 (h := fun S w0 β0 X => ?_)
  refine GO ?_
  refine Ch.c (rightTC t ht) (r := ?_)
  refine GO ?_
  refine W.cond rfl (fun h => ?_) (fun h => ?_)
  · rw [stepsU_e (show Lens.target l t = (typZ, 1) by grind [Lens.target, typZ])]
    refine GO ?_
    refine W.nilB 1 3 9 1 (h := ?_)
    refine W.nilB 1 4 66 8 (h := ?_)
    refine W.nilB 1 5 62 6 (h := ?_)
    refine W.frz 2 (h := ?_)
    refine W.frz 3 (h := ?_)
    refine W.frz 4 (h := ?_)
    refine W.less 5 intA rfl int_intA ?_
    exact fin3
  have hr : t.right = true ∧ t.kind = 1 := by grind
  refine GO ?_
  refine Ch.c (lensSizeC l (by have := hfit.1; omega)) (r := ?_)
  refine GO ?_
  refine W.cond rfl (fun h1 => ?_) (fun h1 => ?_)
  · rw [stepsU_e (show Lens.target l t = (typZ, 2) by grind [Lens.target, typZ])]
    refine GO ?_
    refine W.nilB 1 3 9 1 (h := ?_)
    refine W.nilB 1 4 66 8 (h := ?_)
    refine W.nilB 1 5 62 6 (h := ?_)
    refine W.frz 2 (h := ?_)
    refine W.frz 3 (h := ?_)
    refine W.frz 4 (h := ?_)
    refine W.less 5 intA rfl int_intA ?_
    exact fin3
  refine GO ?_
  refine Ch.c (lensDepthC l (by have := hfit.1; omega)) (r := ?_)
  refine GO ?_
  refine W.cond rfl (fun h2 => ?_) (fun h2 => ?_)
  · rw [stepsU_e (show Lens.target l t = (typZ, 6) by grind [Lens.target, typZ])]
    refine GO ?_
    refine W.nilB 1 3 9 1 (h := ?_)
    refine W.nilB 1 4 66 8 (h := ?_)
    refine W.nilB 1 5 62 6 (h := ?_)
    refine W.frz 2 (h := ?_)
    refine W.frz 3 (h := ?_)
    refine W.frz 4 (h := ?_)
    refine W.less 5 intA rfl int_intA ?_
    exact fin3
  rw [stepsU_e (show Lens.target l t = Lens.steps l t by grind [Lens.target])]
  have hfit2 := steps_fit l hr.1
  refine GO ?_
  refine Ch.c (lstepsC hR _ l (Nat.lt_succ_self _) hfit hw t hr.1 hr.2) (r := ?_)
  refine GO ?_
  refine Ch.c (typCopyC (Lens.steps l t).1 hfit2) (r := ?_)
  refine GO ?_
  exact fin3
end Go.Proofs.YtddddgbboipfeaaGreatDoor
namespace Go.Proofs.YtddddgbboipfeaaGreatDoor
open Go.Sv
set_option maxRecDepth 10000 in
set_option maxHeartbeats 1000000 in
theorem taroundC (r : Registry) (c : Int) (hr : r.joins.length ≤ 1000000) : ∀ n, Con Tryz.prog 50 [agD (regF r), iT c] [] n (dT (sl 2 ((arnd (hopsT c) 0 r.joins).map hopF))) [] n := by
  refine fnI Tryz.func50 Tryz.ntmps50 (h := fun S w0 β0 X => ?_)
  have st : Stop 2 := ⟨⟩
  refine GO ?_
  clear st
  refine W.nilT 5 84 2 (h := ?_)
  refine GO ?_
  refine W.lpG ((fun k => k ≤ r.joins.length ∧ (arnd (hopsT c) 0 (r.joins.take k)).length ≤ k)) (fun k => [(11, iT k), (5, .one (.key 1))]) [(1, _), (4, _), (9, _), (10, _)] (fun k => [(1, .row 84 2 ((arnd (hopsT c) 0 (r.joins.take k)).map hopF))]) [(0, _)] (r.joins.length - ·) 0 (⟨Nat.zero_le _, Nat.le_refl _⟩) (round := fun k hk => ?_)
  have hle := hk.2
  by_cases hlt : k < r.joins.length
  · have hx := List.getElem?_eq_getElem hlt
    generalize r.joins[k] = x at hx
    have ha := arnd_succ (F := hopsT c) hx
    have hl : ((arnd (hopsT c) 0 (r.joins.take k)).map hopF).length ≤ k := by rw [List.length_map]; exact hle
    refine GO ?_
    refine W.cond rfl (fun h => ?_) (fun h => ?_)
    · have h : x.from_ = c ∨ x.to = c := by simpa using h
      rw [hopsT, if_pos h] at ha
      refine GO ?_
      refine Ch.p (OpT.slice1' (hs := asAg (l := hopF ⟨k, decide (x.to = c)⟩) rfl)) ⟨rfl, trivial⟩ ?_
      refine GO ?_
      rw [show ((arnd (hopsT c) 0 (r.joins.take k)).map hopF) ++ [hopF ⟨k, decide (x.to = c)⟩] = (arnd (hopsT c) 0 (r.joins.take (k + 1))).map hopF by rw [ha, List.map_append]; rfl]
      refine W.swap 1 3 (h := ?_)
      exact W.ag (k + 1) (⟨hlt, by rw [ha, List.length_append, List.length_singleton]; omega⟩) (by omega)
    · have h : ¬ (x.from_ = c ∨ x.to = c) := by simpa using h
      rw [hopsT, if_neg h, List.append_nil] at ha
      refine GO ?_
      rw [← ha]
      exact W.ag (k + 1) (⟨hlt, by rw [ha]; omega⟩) (by omega)
  · obtain rfl : k = r.joins.length := by omega
    rw [List.take_length]
    refine GO ?_
    refine W.frz 1 (h := ?_)
    exact fin1
set_option maxRecDepth 10000 in
set_option maxHeartbeats 1000000 in
theorem rhopsC (r : Registry) (c : Int) (hr : r.joins.length ≤ 1000000) : ∀ n, Con Tryz.prog 54 [agD (regF r), iT c] [] n (dT (sl 2 ((arnd (hopsR c) 0 r.joins).map hopF))) [] n := by
  refine fnI Tryz.func54 Tryz.ntmps54 (h := fun S w0 β0 X => ?_)
  have st : Stop 2 := ⟨⟩
  refine GO ?_
  clear st
  refine W.nilT 5 84 2 (h := ?_)
  refine GO ?_
  refine W.lpG ((fun k => k ≤ r.joins.length ∧ (arnd (hopsR c) 0 (r.joins.take k)).length ≤ 2 * k)) (fun k => [(6, iT k), (5, .one (.key 1))]) [(1, _), (2, _), (4, _)] (fun k => [(1, .row 84 2 ((arnd (hopsR c) 0 (r.joins.take k)).map hopF))]) [(0, _)] (r.joins.length - ·) 0 (⟨Nat.zero_le _, Nat.le_refl _⟩) (round := fun k hk => ?_)
  have hle := hk.2
  by_cases hlt : k < r.joins.length
  · have hx := List.getElem?_eq_getElem hlt
    generalize r.joins[k] = x at hx
    have ha := arnd_succ (F := hopsR c) hx
    have hl : ((arnd (hopsR c) 0 (r.joins.take k)).map hopF).length ≤ 2 * k := by rw [List.length_map]; exact hle
    by_cases h1 : x.from_ = c
    · by_cases h2 : x.to = c
      · rw [hopsR, if_pos h1, if_pos h2] at ha
        refine GO ?_
        refine Ch.p (OpT.slice1' (hs := asAg (l := hopF ⟨k, false⟩) rfl)) ⟨rfl, trivial⟩ ?_
        refine GO ?_
        refine Ch.p (OpT.slice1' (hs := asAg (l := hopF ⟨k, true⟩) rfl)) ⟨rfl, trivial⟩ ?_
        refine Ch.apA (hb := by rw [List.length_append]; simp only [List.length_singleton]; omega) (r := ?_)
        refine GO ?_
        rw [show ((arnd (hopsR c) 0 (r.joins.take k)).map hopF) ++ [hopF ⟨k, false⟩] ++ [hopF ⟨k, true⟩] = (arnd (hopsR c) 0 (r.joins.take (k + 1))).map hopF by rw [ha, List.map_append, List.append_assoc]; rfl]
        refine W.swap 1 3 (h := ?_)
        exact W.ag (k + 1) (⟨hlt, by rw [ha, List.length_append]; simp only [List.length_append, List.length_singleton]; omega⟩) (by omega)
      · rw [hopsR, if_pos h1, if_neg h2, List.append_nil] at ha
        refine GO ?_
        refine Ch.p (OpT.slice1' (hs := asAg (l := hopF ⟨k, false⟩) rfl)) ⟨rfl, trivial⟩ ?_
        refine GO ?_
        rw [show ((arnd (hopsR c) 0 (r.joins.take k)).map hopF) ++ [hopF ⟨k, false⟩] = (arnd (hopsR c) 0 (r.joins.take (k + 1))).map hopF by rw [ha, List.map_append]; rfl]
        refine W.swap 1 2 (h := ?_)
        exact W.ag (k + 1) (⟨hlt, by rw [ha, List.length_append, List.length_singleton]; omega⟩) (by omega)
    · by_cases h2 : x.to = c
      · rw [hopsR, if_neg h1, if_pos h2, List.nil_append] at ha
        refine GO ?_
        refine Ch.p (OpT.slice1' (hs := asAg (l := hopF ⟨k, true⟩) rfl)) ⟨rfl, trivial⟩ ?_
        refine GO ?_
        rw [show ((arnd (hopsR c) 0 (r.joins.take k)).map hopF) ++ [hopF ⟨k, true⟩] = (arnd (hopsR c) 0 (r.joins.take (k + 1))).map hopF by rw [ha, List.map_append]; rfl]
        refine W.swap 1 2 (h := ?_)
        exact W.ag (k + 1) (⟨hlt, by rw [ha, List.length_append, List.length_singleton]; omega⟩) (by omega)
      · rw [hopsR, if_neg h1, if_neg h2, List.append_nil, List.append_nil] at ha
        refine GO ?_
        rw [← ha]
        exact W.ag (k + 1) (⟨hlt, by rw [ha]; omega⟩) (by omega)
  · obtain rfl : k = r.joins.length := by omega
    rw [List.take_length]
    refine GO ?_
    refine W.frz 1 (h := ?_)
    exact fin1
end Go.Proofs.YtddddgbboipfeaaGreatDoor
namespace Go.Proofs.YtddddgbboipfeaaGreatDoor
open Go.Sv
set_option maxRecDepth 10000 in
theorem raddSC (r : Registry) (s : Str) (t : Typ) (hf : t.fit) (hr : r.schemas.length ≤ 1000000) : ∀ n, Con Tryz.prog 51 [agD (regF r), sT s, agD (typF t)] [] n (regU (addSE r s t)) [] n := by
  refine fnI Tryz.func51 Tryz.ntmps51 (h := fun S w0 β0 X => ?_)
  refine GO ?_
  refine Ch.c (rnameC s) (r := ?_)
  refine GO ?_
  refine Ch.c (rrightTC t hf) (r := ?_)
  refine GO ?_
  refine W.cond rfl (fun h1 => ?_) (fun h1 => ?_)
  · refine GO ?_
    refine W.nilB 2 0 89 7 (h := ?_)
    refine W.nilB 2 1 92 3 (h := ?_)
    refine W.frz 3 (h := ?_)
    refine W.frz 4 (h := ?_)
    rw [show addSE r s t = (zeroR, 1) by rw [addSE, if_pos (by grind)]]
    exact fin2
  have a1 : ¬ (nameOk s = false ∨ t.right = false ∨ t.kind ≠ 1) := by grind
  refine GO ?_
  refine Ch.c (r10findC r s hr) (r := ?_)
  by_cases h2 : 0 ≤ schemaIdx r s
  · refine GO ?_
    refine W.nilB 2 0 89 7 (h := ?_)
    refine W.nilB 2 1 92 3 (h := ?_)
    refine W.frz 3 (h := ?_)
    refine W.frz 4 (h := ?_)
    rw [show addSE r s t = (zeroR, 5) by rw [addSE, if_neg a1, if_pos h2]]
    exact fin2
  by_cases h3 : 12 ≤ r.schemas.length
  · refine GO ?_
    refine W.nilB 2 0 89 7 (h := ?_)
    refine W.nilB 2 1 92 3 (h := ?_)
    refine W.frz 3 (h := ?_)
    refine W.frz 4 (h := ?_)
    rw [show addSE r s t = (zeroR, 2) by rw [addSE, if_neg a1, if_neg h2, if_pos h3]]
    exact fin2
  refine GO ?_
  refine Ch.apA (hb := by simp; omega) (r := ?_)
  refine GO ?_
  refine Ch.p (OpT.slice1' (hs := asAg (l := namedF ⟨s, t⟩) rfl)) ⟨rfl, trivial⟩ ?_
  refine Ch.apA (hb := by simp; omega) (r := ?_)
  refine GO ?_
  refine W.frz 5 (h := ?_)
  rw [show addSE r s t = (⟨r.schemas ++ [⟨s, t⟩], r.joins⟩, 0) by rw [addSE, if_neg a1, if_neg h2, if_neg h3]]
  rw [show regU (⟨r.schemas ++ [⟨s, t⟩], r.joins⟩, 0) = .tup [.ag [.d (sl 7 ([] ++ r.schemas.map namedF ++ [namedF ⟨s, t⟩])), .d (sl 3 (r.joins.map joinF))], .one (.d (i64 0))] by simp only [regU, regF, List.map_append, List.map_cons, List.map_nil, List.nil_append]]
  exact fin2
end Go.Proofs.YtddddgbboipfeaaGreatDoor
