/- Part 46 of what TransFills asks: for every input it returns true, and its input reads as it did. No condition. -/
import Derived.Test.YtddddgbboipfeaaGreatDoorPt31
import Derived.Test.YtddddgbboipfeaaGreatDoorPt32
import Derived.Test.YtddddgbboipfeaaGreatDoorPt33
import Derived.Test.YtddddgbboipfeaaGreatDoorPt35
import Derived.Test.YtddddgbboipfeaaGreatDoorPt36
import Derived.Test.YtddddgbboipfeaaGreatDoorPt39
import Derived.Test.YtddddgbboipfeaaGreatDoorPt41
import Derived.Test.YtddddgbboipfeaaGreatDoorPt45
namespace Go.Proofs.YtddddgbboipfeaaGreatDoor
open Go.Sv
theorem kat {f : Flds} {k : Nat} {p : Str × Doc} (h : k < f.length) : (f.map (·.1))[k]? = some ((f[k]?).getD p).1 := by
  rw [List.getElem?_map, List.getElem?_eq_getElem h]; rfl
set_option maxRecDepth 10000 in
set_option maxHeartbeats 2000000 in
theorem r1recC (ks : List Str) (kids : List Doc) (hlen : ks.length = kids.length) (hl : ks.length ≤ 500000) : ∀ n, Con Tryz.prog 253 [dT (strsD ks), dT (sl 5 (docsC kids))] [] n (agD (docF (recOf (fputs (ks.zip kids) [])))) [] n := by
  refine fnI Tryz.func253 Tryz.ntmps253 (h := fun S w0 β0 X => ?_)
  have hlen2 : (ks.length : Int) = kids.length := by omega
  have s4 : Stop 4 := ⟨⟩
  refine GO ?_
  clear s4
  refine W.nilB 1 3 9 1 (h := ?_)
  refine W.nilB 1 4 29 5 (h := ?_)
  refine W.frz 2 (h := ?_)
  refine W.frz 3 (h := ?_)
  refine GO ?_
  refine W.lpG ((· ≤ ks.length)) (fun i => [(6, iT i)]) [(0, _), (1, _), (4, _), (5, _)] (fun i => [(1, .box 29 ((docF (recOf (fputs ((ks.zip kids).take i) []))).map C.d))]) [(0, _)] (ks.length - ·) 0 (Nat.zero_le _) (round := fun i hi => ?_)
  by_cases hlt : i < ks.length
  · have hs := List.getElem?_eq_getElem hlt
    generalize ks[i] = s at hs
    have hx := List.getElem?_eq_getElem (show i < kids.length by omega)
    generalize kids[i]'(by omega) = x at hx
    have hz : (ks.zip kids)[i]? = some (s, x) := by rw [List.getElem?_zip_eq_some]; exact ⟨hs, hx⟩
    have hup := fputs_succ hz
    have hfl : (fputs ((ks.zip kids).take i) []).length ≤ 500000 := Nat.le_trans (fputs_len _ _) (by rw [List.length_take]; simp; omega)
    have hsr : FSrt (fputs ((ks.zip kids).take i) []) := FSrt.puts List.Pairwise.nil
    generalize fputs ((ks.zip kids).take i) [] = f at *
    have hfl2 := recOf_keys f
    have hc := rfindF (s := s) hsr (Nat.le_trans hfl (by decide))
    have hw := recOf_with s x hsr
    refine GO ?_
    cases hg : fget s f with
    | some y =>
      rw [hg] at hc hw
      have hj0 : ¬ ((fpos s f : Int) < 0) := by omega
      have hp := (List.getElem?_eq_some_iff.1 (fget_pos hsr hg)).1
      refine Ch.c (hc) (r := ?_)
      refine GO ?_
      refine Ch.c (r1withC (recOf f) x (fpos s f) s false rfl (recOf_len f) (by omega) (by simp; omega)) (r := ?_)
      refine GO ?_
      rw [show docWith (recOf f) (fpos s f) (if false = true then fpos s f else fpos s f + 1) s x = recOf (fputs ((ks.zip kids).take (i + 1)) []) by rw [hup, hw]; rfl]
      exact W.ag (i + 1) (hlt) (by omega)
    | none =>
      rw [hg] at hc hw
      refine Ch.c (hc) (r := ?_)
      refine GO ?_
      refine W.lp (fun k => k ≤ f.length ∧ ∀ j p, j < k → f[j]? = some p → sLt p.1 s = true) (fun k => [(7, iT k)]) [(0, _), (1, _), (4, _), (5, _), (6, _)] (f.length - ·) 0 (⟨Nat.zero_le _, fun j p hj => by omega⟩) (round := fun k hk => ?_)
      refine GO ?_
      refine Ch.g (h := fun hg => OpT.indexR (xs := f.map (·.1)) (j := k) (v := ((f[k]?).getD (s, x)).1) (hj := kat (by have hg := of_decide_eq_true hg; rw [hfl2] at hg; omega))) (r := ?_)
      refine GO ?_
      refine Ch.g (h := fun _ => OpT.indexR (hj := hs)) (r := ?_)
      refine GO ?_
      refine W.cond rfl (fun h1 => ?_) (fun h1 => ?_)
      · simp only [Bool.and_eq_true, decide_eq_true_eq, hfl2] at h1
        have hn : ∀ j p, j < k + 1 → f[j]? = some p → sLt p.1 s = true := fun j p hj hp => by
          rcases (by omega : j < k ∨ j = k) with h | rfl
          · exact hk.2 j p h hp
          · rw [hp] at h1; exact h1.2
        refine GO ?_
        exact W.ag (k + 1) (⟨by omega, hn⟩) (by omega)
      · have hst : fpos s f = k := fpos_stop hk.1 hk.2 fun p hp => by
          have hlt := (List.getElem?_eq_some_iff.1 hp).1
          rw [hp, hfl2] at h1
          simp [hlt] at h1
          exact h1
        rw [hst] at hw
        refine GO ?_
        refine Ch.c (r1withC (recOf f) x k s true rfl (recOf_len f) (by omega) (by simp; omega)) (r := ?_)
        refine GO ?_
        rw [show docWith (recOf f) k (if true = true then k else k + 1) s x = recOf (fputs ((ks.zip kids).take (i + 1)) []) by rw [hup, hw]; rfl]
        exact W.ag (i + 1) (hlt) (by omega)
  · obtain rfl : i = ks.length := by omega
    rw [List.take_of_length_le (by rw [List.length_zip]; omega)]
    refine GO ?_
    exact fin1
end Go.Proofs.YtddddgbboipfeaaGreatDoor
namespace Go.Proofs.YtddddgbboipfeaaGreatDoor
open Go.Sv
theorem r1recO (ks : List Str) (kids : List Doc) (hlen : ks.length = kids.length) (hl : ks.length ≤ 500000) : Con Tryz.prog 253 [.one (.key 0), .one (.key 1)] [(0, .row 9 1 (ks.map fun s => [str s])), (1, .row 29 5 (kids.map docF))] 2 (agD (docF (recOf (fputs (ks.zip kids) [])))) [] 2 := by
  have h := r1recC ks kids hlen hl
  rw [(rowDocs kids).eq] at h
  exact Con.lend h (.row (.row .nil))
theorem zip_last (f : Flds) (s : Str) (x : Doc) : (f.map (·.1) ++ [s]).zip (f.map (·.2) ++ [x]) = f ++ [(s, x)] := by
  induction f with
  | nil => rfl
  | cons p f ih => simpa using ih
set_option maxRecDepth 10000 in
set_option maxHeartbeats 1000000 in
theorem r8withC (f : Flds) (s : Str) (x : Doc) (hs : FSrt f) (hl : f.length ≤ 400000) : ∀ n, Con Tryz.prog 223 [agD (docF (recOf f)), sT s, agD (docF x)] [] n (agD (docF (recOf (fput s x f)))) [] n := by
  refine fnI Tryz.func223 Tryz.ntmps223 (h := fun S w0 β0 X => ?_)
  have hfl := recOf_keys f
  have hfk : (recOf f).kids.length = f.length := by rw [← recOf_len, hfl]
  refine GO ?_
  refine Ch.apA (hb := by simp; omega) (r := ?_)
  refine GO ?_
  refine Ch.apA (hb := by simp; omega) (r := ?_)
  refine GO ?_
  rw [(rowDocs (recOf f).kids).eq]
  refine Ch.apA (hb := by simp; omega) (r := ?_)
  refine GO ?_
  refine Ch.p (OpT.slice1' (hs := asAg (l := docF x) rfl)) ⟨rfl, trivial⟩ ?_
  refine Ch.apA (hb := by simp; omega) (r := ?_)
  refine GO ?_
  rw [show [] ++ (recOf f).kids.map docF ++ [docF x] = (f.map (·.2) ++ [x]).map docF by rw [List.map_append]; rfl, show [] ++ (recOf f).keys.map (fun s => [str s]) ++ [[str s]] = (f.map (·.1) ++ [s]).map fun s => [str s] by rw [List.map_append]; rfl]
  refine Ch.ch [5, 8] (r1recO (f.map (·.1) ++ [s]) (f.map (·.2) ++ [x]) (by simp) (by simp; omega)) (r := ?_)
  rw [zip_last, fput_last hs]
  refine GO ?_
  exact fin1
set_option maxRecDepth 10000 in
set_option maxHeartbeats 1000000 in
theorem r8withoutC (f : Flds) (s : Str) (hl : f.length ≤ 1000000) : ∀ n, Con Tryz.prog 224 [agD (docF (recOf f)), sT s] [] n (agD (docF (recOf (fdel s f)))) [] n := by
  refine fnI Tryz.func224 Tryz.ntmps224 (h := fun S w0 β0 X => ?_)
  have hfl := recOf_keys f
  have s2 : Stop 2 := ⟨⟩
  refine GO ?_
  clear s2
  refine W.nilB 2 3 9 1 (h := ?_)
  refine W.nilB 2 4 29 5 (h := ?_)
  refine GO ?_
  refine W.lpG ((· ≤ f.length)) (fun k => [(6, iT k)]) [(1, _), (2, _), (4, _), (5, _)] (fun k => [(3, .row 9 1 (((fdel s (f.take k)).map (·.1)).map fun s => [str s])), (4, .row 29 5 (((fdel s (f.take k)).map (·.2)).map docF))]) [(0, _), (1, _), (2, _)] (f.length - ·) 0 (Nat.zero_le _) (round := fun k hk => ?_)
  by_cases hlt : k < f.length
  · have hp := List.getElem?_eq_getElem hlt
    generalize f[k] = p at hp
    have hx : (recOf f).keys[k]? = some p.1 := by rw [recOf, Doc.keys, List.getElem?_map, hp]; rfl
    have hy : (recOf f).kids[k]? = some p.2 := by rw [recOf, Doc.kids, List.getElem?_map, hp]; rfl
    have hft : fdel s (f.take (k + 1)) = fdel s (f.take k) ++ if decide (p.1 ≠ s) = true then [p] else [] := filt_succ hp
    have hle : (fdel s (f.take k)).length ≤ 1000000 := Nat.le_trans (List.length_filter_le ..) (by rw [List.length_take]; omega)
    refine GO ?_
    refine W.cond rfl (fun h => ?_) (fun h => ?_)
    · have hd : decide (p.1 ≠ s) = true := by rw [toList_beq] at h; simpa using h
      rw [hd, if_pos rfl] at hft
      refine GO ?_
      rw [show ((fdel s (f.take k)).map (·.1)).map (fun s => [str s]) ++ [[str p.1]] = ((fdel s (f.take (k + 1))).map (·.1)).map fun s => [str s] by rw [hft, List.map_append, List.map_append]; rfl, show ((fdel s (f.take k)).map (·.2)).map docF ++ [List.take 5 (docF p.2)] = ((fdel s (f.take (k + 1))).map (·.2)).map docF by rw [hft, List.map_append, List.map_append]; rfl]
      refine W.swap 3 5 (h := ?_)
      refine W.swap 4 6 (h := ?_)
      exact W.ag (k + 1) (hlt) (by omega)
    · have hd : decide (p.1 ≠ s) = false := by rw [toList_beq] at h; simpa using h
      rw [hd, if_neg (by decide), List.append_nil] at hft
      refine GO ?_
      rw [← hft]
      exact W.ag (k + 1) (hlt) (by omega)
  · obtain rfl : k = f.length := by omega
    rw [List.take_length]
    refine GO ?_
    refine W.frz 3 (h := ?_)
    refine W.frz 4 (h := ?_)
    exact fin1 (he := by exact Eq.trans rfl (docM_eq 1 0 ⟨#[]⟩ (recOf (fdel s f)).keys (recOf (fdel s f)).kids).symm)
end Go.Proofs.YtddddgbboipfeaaGreatDoor
namespace Go.Proofs.YtddddgbboipfeaaGreatDoor
open Go.Sv
abbrev rwkO (e : Int) (bk : Bool) (rs ns : List Res) (er : Int) : Own := .box 166 ((wkF e bk rs ns er).map C.d)
def R8StepsC (e : Int) (bk : Bool) (l : List Lens) : Prop := ∀ (f : Flds) (st : List Int) (ks : List Str) (w w' : WS) (g : Flds), FSrt f → f.length ≤ 1000 → st.length ≤ 1000 → ks.length ≤ 1001 → (w.err = 0 ∨ w.err = 8) → wsteps cvR e bk 0 l st ks f w = some (g, w') → FOk g → Con Tryz.prog 140 [.one (.key 0), dT (sl 16 (lensesC l)), agD (docF (recOf f)), dT (intsD st), dT (strsD ks)] [(0, rwkO e bk w.res w.needs w.err)] 1 (agD (docF (recOf g))) [(0, rwkO e bk w'.res w'.needs w'.err)] 1
set_option maxRecDepth 10000 in
set_option maxHeartbeats 1000000 in
theorem rstep1C (e : Int) (bk : Bool) (w : WS) (f : Flds) (s : Lens) (st : List Int) (ks : List Str) (hk : s.kind = 1) (hf : FSrt f) (hl : f.length ≤ 1000) : Con Tryz.prog 182 [.one (.key 0), agD (lensF s), agD (docF (recOf f)), dT (intsD st), dT (strsD ks)] [(0, rwkO e bk w.res w.needs w.err)] 1 (agD (docF (recOf (moveF f s.a s.b)))) [(0, rwkO e bk w.res w.needs w.err)] 1 := by
  refine fnH Tryz.func182 Tryz.ntmps182 (h := fun S w0 β0 X => ?_)
  have hc := r8kidC f s.a hf (by omega)
  unfold moveF
  cases hx : fget s.a f with
  | none =>
    rw [hx] at hc
    refine GO ?_
    refine Ch.c (hc) (r := ?_)
    refine GO ?_
    exact finH (hk := bel0 agD_keys)
  | some x =>
    rw [hx] at hc
    refine GO ?_
    refine Ch.c (hc) (r := ?_)
    refine GO ?_
    refine Ch.c (r8withoutC f s.a (by omega)) (r := ?_)
    refine GO ?_
    refine Ch.c (r8withC (fdel s.a f) s.b x hf.del (by have := fdel_len s.a f; omega)) (r := ?_)
    refine GO ?_
    exact finH (hk := bel0 agD_keys)
end Go.Proofs.YtddddgbboipfeaaGreatDoor
namespace Go.Sv
open Go
open Go.RowKit
theorem Ch.gnk {P : Program} {ops : Array Oper} {n : Nat} {d : Tmp} {ty : TypeId} {pos : String} {af : Array Edge} {F : FL} {H : HL} {acc : List Acc} {l : List Oper} {tin0 : TL} {Fin : Nat → FL → HL → List Acc → Prop} {x : Operand} {κ : Nat} {j tj : Nat} {want cc : Bool} {g : T} {o : Nat} {c : C} {t' : TypeId} {cs : List C} (hj : (ops[j]?).bind (·.dst) = some tj := by rfl) (hg : Gd F tj want cc g := by first | exact .t rfl | exact .f rfl | exact .ot rfl | exact .of rfl) (hs : TinS cc F tin0 [(x, .one c)] := by (repeat (first | exact TinS.nil | apply TinS.strip rfl | apply TinS.and rfl | apply TinS.same rfl))) (hc : offC c = some (κ, o) := by rfl) (hH : Sv.look H κ = some (.box t' cs) := by rfl)
    (r : Ch P ops Fin l n ((d, .opt cc (.one c)) :: F) H (acc ++ [Rec.acc ⟨(.tmp tj, g) :: tin0, [(κ, .box t' cs)], [], .opt cc (.one c), [], n, n⟩ (some d)])) : Ch P ops Fin (⟨some d, .nilCheck x, ty, pos, af, some (j, want)⟩ :: l) n F H acc :=
  .gr hj hg (fun _ => .nilChk hc) hs hH (fun h _ => h _ (List.mem_singleton.2 rfl)) r
theorem Ch.gmk {P : Program} {ops : Array Oper} {n : Nat} {d : Tmp} {ty : TypeId} {pos : String} {af : Array Edge} {F : FL} {H : HL} {acc : List Acc} {l : List Oper} {tin0 : TL} {Fin : Nat → FL → HL → List Acc → Prop} {x : Operand} {j tj : Nat} {want cc : Bool} {g s : T} (hj : (ops[j]?).bind (·.dst) = some tj := by rfl) (hg : Gd F tj want cc g := by first | exact .t rfl | exact .f rfl | exact .ot rfl | exact .of rfl) (hs : TinS cc F tin0 [(x, s)] := by (repeat (first | exact TinS.nil | apply TinS.strip rfl | apply TinS.and rfl | apply TinS.same rfl)))
    (r : Ch P ops Fin l n ((d, .opt cc s) :: F) H (acc ++ [Rec.acc ⟨(.tmp tj, g) :: tin0, [], [], .opt cc s, [], n, n⟩ (some d)])) : Ch P ops Fin (⟨some d, .move x, ty, pos, af, some (j, want)⟩ :: l) n F H acc :=
  .step _ [] [] _ [] n (.guard hj hg.is.1 (fun _ => .move) hs.all.1 fun h _ => h _ (List.mem_singleton.2 rfl)) (fun e he => by
    rcases List.mem_cons.1 he with rfl | he
    · exact hg.is.2
    · exact hs.all.2 e he) nofun H (fun _ => by rw [upd_nil]) r
theorem Ch.gro {P : Program} {ops : Array Oper} {n : Nat} {d : Tmp} {op : Op} {ty : TypeId} {pos : String} {af : Array Edge} {F : FL} {H : HL} {acc : List Acc} {l : List Oper} {tin0 tin1 : TL} {out : T} {Fin : Nat → FL → HL → List Acc → Prop} {κ : Nat} {o' : Own} {j tj : Nat} {want c : Bool} {g : T} (h : c = true → OpT P ops (mkO (some d) op ty pos af) n tin1 [(κ, o')] [] out [] n) (hj : (ops[j]?).bind (·.dst) = some tj := by rfl) (hg : Gd F tj want c g := by first | exact .t rfl | exact .f rfl | exact .ot rfl | exact .of rfl) (hs : TinS c F tin0 tin1 := by (repeat (first | exact TinS.nil | apply TinS.strip rfl | apply TinS.and rfl | apply TinS.same rfl))) (hH : Sv.look H κ = some o' := by rfl) (hk : (∀ e ∈ tin1, Bel n e.2.keys) → Bel n (ownKeys [(κ, o')]) → Bel n out.keys := by first | exact fun _ _ => bel0 rfl | exact fun _ h q hq => by rw [List.mem_singleton.1 hq]; exact bel1 h)
    (r : Ch P ops Fin l n ((d, .opt c out) :: F) H (acc ++ [Rec.acc ⟨(.tmp tj, g) :: tin0, [(κ, o')], [], .opt c out, [], n, n⟩ (some d)])) : Ch P ops Fin (⟨some d, op, ty, pos, af, some (j, want)⟩ :: l) n F H acc := .gr hj hg h hs hH hk r
end Go.Sv
namespace Go.Proofs.YtddddgbboipfeaaGreatDoor
open Go.Sv
theorem dF_e {t u : Doc} (h : t = u) : agD (docF t) = agD (docF u) := by rw [h]
set_option maxRecDepth 10000 in
set_option maxHeartbeats 2000000 in
theorem rstep2NC (e : Int) (bk : Bool) (w : WS) (f : Flds) (s : Lens) (st : List Int) (ks : List Str) (hk : s.kind = 2) (hf : FSrt f) (hl : f.length ≤ 1000) (hi : resIdx w.res e st ks = -1) (hn : w.needs.length ≤ 1000000) : Con Tryz.prog 182 [.one (.key 0), agD (lensF s), agD (docF (recOf f)), dT (intsD st), dT (strsD ks)] [(0, rwkO e bk w.res w.needs w.err)] 1 (agD (docF (recOf (fput s.a s.doc f)))) [(0, rwkO e bk w.res (resPut w.needs ⟨e, st, ks, s.doc⟩) w.err)] 1 := by
  refine fnH Tryz.func182 Tryz.ntmps182 (h := fun S w0 β0 X => ?_)
  have hc := r8kidC f s.a hf (by omega)
  have hfi := rfindC w.res e st ks
  rw [hi] at hfi
  cases hx : fget s.a f
  all_goals
    rw [hx] at hc
    refine GO ?_
    refine Ch.c (hc) (r := ?_)
    refine GO ?_
    refine Ch.c (hfi) (r := ?_)
    refine GO ?_
    refine Ch.c (rputC w.needs ⟨e, st, ks, s.doc⟩ hn) (r := ?_)
    refine GO ?_
    refine Ch.c (r8withC f s.a s.doc hf (by omega)) (r := ?_)
    refine GO ?_
    exact finH (hk := bel0 agD_keys)
set_option maxRecDepth 10000 in
set_option maxHeartbeats 2000000 in
theorem rstep2SC (e : Int) (bk : Bool) (w : WS) (f : Flds) (s : Lens) (st : List Int) (ks : List Str) (j : Nat) (y : Res) (hk : s.kind = 2) (hf : FSrt f) (hl : f.length ≤ 1000) (hi : resIdx w.res e st ks = j) (hy : w.res[j]? = some y) (hyf : y.doc.fit) (ht : s.typ.fit) (hr : w.res.length ≤ 1000000) (hn : w.needs.length ≤ 1000000) (he : w.err = 0 ∨ w.err = 8) : Con Tryz.prog 182 [.one (.key 0), agD (lensF s), agD (docF (recOf f)), dT (intsD st), dT (strsD ks)] [(0, rwkO e bk w.res w.needs w.err)] 1 (agD (docF (recOf (fput s.a y.doc f)))) [(0, rwkO e bk (resDrop w.res e st ks) (resPut w.needs ⟨e, st, ks, s.doc⟩) (if isOf s.typ y.doc then w.err else 8))] 1 := by
  refine fnH Tryz.func182 Tryz.ntmps182 (h := fun S w0 β0 X => ?_)
  have hc := r8kidC f s.a hf (by omega)
  have hfi := rfindC w.res e st ks
  rw [hi] at hfi
  have hj : (0 : Int) ≤ j := by omega
  have hlt : j < w.res.length := (List.getElem?_eq_some_iff.1 hy).1
  have his := risC s.typ y.doc ht hyf
  obtain ⟨res, needs, err⟩ := w
  simp only at *
  have hd := (rdropC res e st ks hr).data
  have hp := rputC needs ⟨e, st, ks, s.doc⟩ hn
  cases hx : fget s.a f
  all_goals
    rw [hx] at hc
    refine GO ?_
    refine Ch.c (hc) (r := ?_)
    refine GO ?_
    refine Ch.c (hfi) (r := ?_)
    refine GO ?_
    refine Ch.c (his) (r := ?_)
    cases hb : isOf s.typ y.doc
    all_goals
      rcases he with rfl | rfl
    all_goals
      refine GO ?_
      refine Ch.gmk (r := ?_)
      refine Ch.gnk (r := ?_)
      refine GO ?_
      refine Ch.c (hd) (r := ?_)
      refine GO ?_
      refine Ch.c (hp) (r := ?_)
      refine GO ?_
      refine Ch.c (r8withC f s.a y.doc hf (by omega)) (r := ?_)
      refine GO ?_
      exact finH (hk := bel0 agD_keys)
end Go.Proofs.YtddddgbboipfeaaGreatDoor
namespace Go.Proofs.YtddddgbboipfeaaGreatDoor
open Go.Sv
set_option maxRecDepth 10000 in
set_option maxHeartbeats 2000000 in
theorem rstep3C (e : Int) (bk : Bool) (w : WS) (f : Flds) (s : Lens) (st : List Int) (ks : List Str) (hk : s.kind = 3) (hf : FSrt f) (hl : f.length ≤ 1000) (x : Doc) (hx : fget s.a f = some x) (hr : w.res.length ≤ 1000000) : Con Tryz.prog 182 [.one (.key 0), agD (lensF s), agD (docF (recOf f)), dT (intsD st), dT (strsD ks)] [(0, rwkO e bk w.res w.needs w.err)] 1 (agD (docF (recOf (fdel s.a f)))) [(0, rwkO e bk (resPut w.res ⟨e, st, ks, x⟩) w.needs w.err)] 1 := by
  refine fnH Tryz.func182 Tryz.ntmps182 (h := fun S w0 β0 X => ?_)
  have hc := r8kidC f s.a hf (by omega)
  rw [hx] at hc
  have hp := rputC w.res ⟨e, st, ks, x⟩ hr
  refine GO ?_
  refine Ch.c (hc) (r := ?_)
  refine GO ?_
  refine Ch.c (hp) (r := ?_)
  refine GO ?_
  refine Ch.c (r8withoutC f s.a (by omega)) (r := ?_)
  refine GO ?_
  exact finH (hk := bel0 agD_keys)
set_option maxRecDepth 10000 in
set_option maxHeartbeats 2000000 in
theorem rstep4C (e : Int) (bk : Bool) (w : WS) (f : Flds) (s : Lens) (st : List Int) (ks : List Str) (hk : s.kind = 4) (hf : FSrt f) (hl : f.length ≤ 1000) (Y : Flds) (y : Doc) (hx : fget s.a f = some (recOf Y)) (hX : FSrt Y) (hXl : Y.length ≤ 1000) (hy : fget s.b Y = some y) : Con Tryz.prog 182 [.one (.key 0), agD (lensF s), agD (docF (recOf f)), dT (intsD st), dT (strsD ks)] [(0, rwkO e bk w.res w.needs w.err)] 1 (agD (docF (recOf (fput s.b y (fput s.a (recOf (fdel s.b Y)) f))))) [(0, rwkO e bk w.res w.needs w.err)] 1 := by
  refine fnH Tryz.func182 Tryz.ntmps182 (h := fun S w0 β0 X => ?_)
  have e1 : fput s.a (recOf (fdel s.b Y)) f = fput s.a (recOf (fdel s.b Y)) (fdel s.a f) := fput_del hf
  rw [e1]
  have hc := r8kidC f s.a hf (by omega)
  rw [hx] at hc
  have hc2 := r8kidC Y s.b hX (by omega)
  rw [hy] at hc2
  refine GO ?_
  refine Ch.c (hc) (r := ?_)
  refine GO ?_
  refine Ch.c (hc2) (r := ?_)
  refine GO ?_
  refine Ch.c (r8withoutC f s.a (by omega)) (r := ?_)
  refine GO ?_
  refine Ch.c (r8withoutC Y s.b (by omega)) (r := ?_)
  refine GO ?_
  refine Ch.c (r8withC (fdel s.a f) s.a (recOf (fdel s.b Y)) hf.del (by have := fdel_len s.a f; omega)) (r := ?_)
  refine GO ?_
  refine Ch.c (r8withC (fput s.a (recOf (fdel s.b Y)) (fdel s.a f)) s.b y hf.del.put (by have := fdel_len s.a f; have := fput_more s.a (recOf (fdel s.b Y)) (fdel s.a f); omega)) (r := ?_)
  refine GO ?_
  exact finH (hk := bel0 agD_keys)
set_option maxRecDepth 10000 in
set_option maxHeartbeats 2000000 in
theorem rstep5C (e : Int) (bk : Bool) (w : WS) (f : Flds) (s : Lens) (st : List Int) (ks : List Str) (hk : s.kind = 5) (hf : FSrt f) (hl : f.length ≤ 1000) (Y : Flds) (y : Doc) (hx : fget s.a f = some (recOf Y)) (hX : FSrt Y) (hXl : Y.length ≤ 1000) (hy : fget s.b f = some y) : Con Tryz.prog 182 [.one (.key 0), agD (lensF s), agD (docF (recOf f)), dT (intsD st), dT (strsD ks)] [(0, rwkO e bk w.res w.needs w.err)] 1 (agD (docF (recOf (fput s.a (recOf (fput s.b y Y)) (fdel s.b f))))) [(0, rwkO e bk w.res w.needs w.err)] 1 := by
  refine fnH Tryz.func182 Tryz.ntmps182 (h := fun S w0 β0 X => ?_)
  have e1 : fput s.a (recOf (fput s.b y Y)) (fdel s.b f) = fput s.a (recOf (fput s.b y Y)) (fdel s.a (fdel s.b f)) := fput_del hf.del
  rw [e1]
  have hc := r8kidC f s.a hf (by omega)
  rw [hx] at hc
  have hc2 := r8kidC f s.b hf (by omega)
  rw [hy] at hc2
  refine GO ?_
  refine Ch.c (hc) (r := ?_)
  refine GO ?_
  refine Ch.c (hc2) (r := ?_)
  refine GO ?_
  refine Ch.c (r8withoutC f s.b (by omega)) (r := ?_)
  refine GO ?_
  refine Ch.c (r8withoutC (fdel s.b f) s.a (by have := fdel_len s.b f; omega)) (r := ?_)
  refine GO ?_
  refine Ch.c (r8withC Y s.b y hX (by omega)) (r := ?_)
  refine GO ?_
  refine Ch.c (r8withC (fdel s.a (fdel s.b f)) s.a (recOf (fput s.b y Y)) hf.del.del (by have := fdel_len s.b f; have := fdel_len s.a (fdel s.b f); omega)) (r := ?_)
  refine GO ?_
  exact finH (hk := bel0 agD_keys)
theorem nil_list (x : Doc) (w : World) (us : List Value) (h : Cells w [i64 3, i64 0, str ⟨#[]⟩, nilD, sl 5 [docF x]] us) : Cells w (docF (.mk 3 0 ⟨#[]⟩ [] [x])) us := by
  rw [show docF (.mk 3 0 ⟨#[]⟩ [] [x]) = [i64 3, i64 0, str ⟨#[]⟩, sl 1 [], sl 5 [docF x]] by rw [show docF (.mk 3 0 ⟨#[]⟩ [] [x]) = [i64 3, i64 0, str ⟨#[]⟩, strsD [], sl 5 (docsC [x])] from rfl, docsC, docsC, docC_eq]; rfl]
  match us, h with
  | [_, _, _, _, _], h => exact ⟨h.1, h.2.1, h.2.2.1, nil_sl 1 _ _ h.2.2.2.1, h.2.2.2.2.1, trivial⟩
set_option maxRecDepth 10000 in
set_option maxHeartbeats 2000000 in
theorem rstep6C (e : Int) (bk : Bool) (w : WS) (f : Flds) (s : Lens) (st : List Int) (ks : List Str) (hk : s.kind = 6) (hf : FSrt f) (hl : f.length ≤ 1000) (x : Doc) (hx : fget s.a f = some x) : Con Tryz.prog 182 [.one (.key 0), agD (lensF s), agD (docF (recOf f)), dT (intsD st), dT (strsD ks)] [(0, rwkO e bk w.res w.needs w.err)] 1 (agD (docF (recOf (fput s.a (.mk 3 0 ⟨#[]⟩ [] [x]) f)))) [(0, rwkO e bk w.res w.needs w.err)] 1 := by
  refine fnH Tryz.func182 Tryz.ntmps182 (h := fun S w0 β0 X => ?_)
  have e1 : fput s.a (.mk 3 0 ⟨#[]⟩ [] [x]) f = fput s.a (.mk 3 0 ⟨#[]⟩ [] [x]) (fdel s.a f) := fput_del hf
  rw [e1]
  have hc := r8kidC f s.a hf (by omega)
  rw [hx] at hc
  have hw := fun n => (r8withC (fdel s.a f) s.a (.mk 3 0 ⟨#[]⟩ [] [x]) hf.del (by have := fdel_len s.a f; omega) n).argL (args := [agD (docF (recOf (fdel s.a f))), sT s.a, agD [i64 3, i64 0, str ⟨#[]⟩, nilD, sl 5 [docF x]]]) ⟨.refl _, .refl _, .ag (nil_list x), trivial⟩
  refine GO ?_
  refine Ch.c (hc) (r := ?_)
  refine GO ?_
  refine Ch.c (r8withoutC f s.a (by omega)) (r := ?_)
  refine GO ?_
  refine Ch.p (OpT.slice1' (hs := asAg (l := docF x) rfl)) ⟨rfl, trivial⟩ ?_
  refine GO ?_
  refine Ch.c (hw) (r := ?_)
  refine GO ?_
  exact finH (hk := bel0 agD_keys)
set_option maxRecDepth 10000 in
set_option maxHeartbeats 2000000 in
theorem rstep7C (e : Int) (bk : Bool) (w : WS) (f : Flds) (s : Lens) (st : List Int) (ks : List Str) (hk : s.kind = 7) (hf : FSrt f) (hl : f.length ≤ 1000) (x y : Doc) (ys : List Doc) (hx : fget s.a f = some x) (hy : x.kids = y :: ys) : Con Tryz.prog 182 [.one (.key 0), agD (lensF s), agD (docF (recOf f)), dT (intsD st), dT (strsD ks)] [(0, rwkO e bk w.res w.needs w.err)] 1 (agD (docF (recOf (fput s.a y f)))) [(0, rwkO e bk w.res w.needs w.err)] 1 := by
  refine fnH Tryz.func182 Tryz.ntmps182 (h := fun S w0 β0 X => ?_)
  have e1 : fput s.a y f = fput s.a y (fdel s.a f) := fput_del hf
  rw [e1]
  have h0 : x.kids[0]? = some y := by rw [hy]; rfl
  have hc := r8kidC f s.a hf (by omega)
  rw [hx] at hc
  refine GO ?_
  refine Ch.c (hc) (r := ?_)
  refine GO ?_
  refine Ch.c (r8withoutC f s.a (by omega)) (r := ?_)
  refine GO ?_
  refine Ch.c (r8withC (fdel s.a f) s.a y hf.del (by have := fdel_len s.a f; omega)) (r := ?_)
  refine GO ?_
  exact finH (hk := bel0 agD_keys)
set_option maxRecDepth 10000 in
set_option maxHeartbeats 2000000 in
theorem rstep8C (e : Int) (bk : Bool) (w : WS) (f : Flds) (s : Lens) (st : List Int) (ks : List Str) (hk : s.kind = 8) (hf : FSrt f) (hl : f.length ≤ 1000) (x : Doc) (hx : fget s.a f = some x) (hsw : s.swaps.length ≤ 1000000) : Con Tryz.prog 182 [.one (.key 0), agD (lensF s), agD (docF (recOf f)), dT (intsD st), dT (strsD ks)] [(0, rwkO e bk w.res w.needs w.err)] 1 (agD (docF (recOf (fput s.a (cvR x s.swaps) f)))) [(0, rwkO e bk w.res w.needs w.err)] 1 := by
  refine fnH Tryz.func182 Tryz.ntmps182 (h := fun S w0 β0 X => ?_)
  have e1 : fput s.a (cvR x s.swaps) f = fput s.a (cvR x s.swaps) (fdel s.a f) := fput_del hf
  rw [e1]
  have hc := r8kidC f s.a hf (by omega)
  rw [hx] at hc
  have hw := r8withC (fdel s.a f) s.a (cvR x s.swaps) hf.del (by have := fdel_len s.a f; omega)
  refine GO ?_
  refine Ch.c (hc) (r := ?_)
  refine GO ?_
  refine Ch.c (r7SwapC x.num s.swaps hsw) (r := ?_)
  refine GO ?_
  refine Ch.c (r8withoutC f s.a (by omega)) (r := ?_)
  refine GO ?_
  refine Ch.c (hw) (r := ?_)
  refine GO ?_
  exact finH (hk := bel0 agD_keys)
set_option maxRecDepth 10000 in
set_option maxHeartbeats 2000000 in
theorem rstep9C (e : Int) (bk : Bool) (w : WS) (f : Flds) (s : Lens) (st : List Int) (ks : List Str) (hk : s.kind = 9) (hf : FSrt f) (hl : f.length ≤ 1000) (Y : Flds) (g : Flds) (w' : WS) (hx : fget s.a f = some (recOf Y)) (hX : FSrt Y) (hXl : Y.length ≤ 1000) (hS : R8StepsC e bk s.subs) (hst : st.length ≤ 1000) (hks : ks.length ≤ 1000) (he : w.err = 0 ∨ w.err = 8) (hg : wsteps cvR e bk 0 s.subs st ks Y w = some (g, w')) (hgo : FOk g) : Con Tryz.prog 182 [.one (.key 0), agD (lensF s), agD (docF (recOf f)), dT (intsD st), dT (strsD ks)] [(0, rwkO e bk w.res w.needs w.err)] 1 (agD (docF (recOf (fput s.a (recOf g) f)))) [(0, rwkO e bk w'.res w'.needs w'.err)] 1 := by
  refine fnH Tryz.func182 Tryz.ntmps182 (h := fun S w0 β0 X => ?_)
  have e1 : fput s.a (recOf g) f = fput s.a (recOf g) (fdel s.a f) := fput_del hf
  rw [e1]
  have hc := r8kidC f s.a hf (by omega)
  rw [hx] at hc
  have hc2 := hS Y st ks w w' g hX hXl hst (by omega) he hg hgo
  have hw := r8withC (fdel s.a f) s.a (recOf g) hf.del (by have := fdel_len s.a f; omega)
  refine GO ?_
  refine Ch.c (hc) (r := ?_)
  refine GO ?_
  refine Ch.c (r8withoutC f s.a (by omega)) (r := ?_)
  refine GO ?_
  refine Ch.ch [0] hc2 (r := ?_)
  refine GO ?_
  refine Ch.c (hw) (r := ?_)
  refine GO ?_
  exact finH (hk := bel0 agD_keys)
end Go.Proofs.YtddddgbboipfeaaGreatDoor
namespace Go.Proofs.YtddddgbboipfeaaGreatDoor
open Go.Sv
set_option maxRecDepth 10000 in
set_option maxHeartbeats 4000000 in
theorem rstep10C (e : Int) (bk : Bool) (w : WS) (f : Flds) (s : Lens) (st : List Int) (ks : List Str) (hk : s.kind = 10) (hf : FSrt f) (hl : f.length ≤ 1000) (x : Doc) (ds : List Doc) (w' : WS) (hx : fget s.a f = some x) (hok : OkKeys 2 x) (hS : R8StepsC e bk s.subs) (hst : st.length ≤ 1000) (hks : ks.length ≤ 1000) (he : w.err = 0 ∨ w.err = 8) (hq : foldKids (fun u g w => wsteps cvR e bk 0 s.subs st (ks ++ [u]) g w) (x.keys.zip x.kids) w = some (ds, w')) : Con Tryz.prog 182 [.one (.key 0), agD (lensF s), agD (docF (recOf f)), dT (intsD st), dT (strsD ks)] [(0, rwkO e bk w.res w.needs w.err)] 1 (agD (docF (recOf (fput s.a (.mk 2 0 ⟨#[]⟩ x.keys ds) f)))) [(0, rwkO e bk w'.res w'.needs w'.err)] 1 := by
  refine fnH Tryz.func182 Tryz.ntmps182 (h := fun S w0 β0 X => ?_)
  rw [show fput s.a (.mk 2 0 ⟨#[]⟩ x.keys ds) f = fput s.a (.mk 2 0 ⟨#[]⟩ x.keys ds) (fdel s.a f) from fput_del hf]
  have hc := r8kidC f s.a hf (by omega)
  rw [hx] at hc
  have hw := r8withC (fdel s.a f) s.a (.mk 2 0 ⟨#[]⟩ x.keys ds) hf.del (by have := fdel_len s.a f; omega)
  have hlen : x.keys.length = x.kids.length := hok.2.2.2.1
  have hln : x.keys.length ≤ 1000 := hok.2.2.2.2.2.2
  refine GO ?_
  refine Ch.c (hc) (r := ?_)
  refine GO ?_
  refine W.nilB 5 3 9 1 (h := ?_)
  refine W.nilB 5 4 29 5 (h := ?_)
  refine GO ?_
  refine W.lpG (fun a : Nat × WS × List Doc => a.1 ≤ x.keys.length ∧ a.2.2.length = a.1 ∧ (a.2.1.err = 0 ∨ a.2.1.err = 8) ∧ ∃ d2, foldKids (fun u g w => wsteps cvR e bk 0 s.subs st (ks ++ [u]) g w) ((x.keys.zip x.kids).drop a.1) a.2.1 = some (d2, w') ∧ ds = a.2.2 ++ d2) (fun a => [(21, iT a.1)]) [(0, _), (3, _), (4, _), (6, _), (7, _), (10, _), (11, _), (20, _)] (fun a => [(0, rwkO e bk a.2.1.res a.2.1.needs a.2.1.err), (6, .row 9 1 ((x.keys.take a.1).map fun s => [str s])), (7, .row 29 5 (docsC a.2.2))]) [(1, _), (2, _), (3, _), (4, _), (5, _)] (fun a => x.keys.length - a.1) (0, w, []) (⟨Nat.zero_le _, rfl, he, ds, hq, rfl⟩) (round := fun a hI => ?_)
  obtain ⟨k, wk, dk⟩ := a
  obtain ⟨hk2, hdk, hew, d2, hf2, hd⟩ := hI
  simp only at hk2 hdk hew hf2 hd ⊢
  by_cases hlt : k < x.keys.length
  · have hs2 := List.getElem?_eq_getElem hlt
    generalize x.keys[k] = s2 at hs2
    have hy := List.getElem?_eq_getElem (show k < x.kids.length by omega)
    generalize x.kids[k]'(by omega) = y at hy
    have hz : (x.keys.zip x.kids)[k]? = some (s2, y) := by rw [List.getElem?_zip_eq_some]; exact ⟨hs2, hy⟩
    rw [drop_at hz] at hf2
    obtain ⟨hoy, g, w1, d3, h1, h2, h3, rfl⟩ := foldKids_cons hf2
    have hew1 : w1.err = 0 ∨ w1.err = 8 := by
      rcases wsteps_err _ _ (Nat.le_refl _) _ _ _ _ _ _ h1 with h | h
      · have h' : w1.err = wk.err := h
        rw [h']; exact hew
      · exact .inr h
    have hkl : (ks ++ [s2]).length ≤ 1001 := by rw [List.length_append, List.length_singleton]; omega
    have hlk : (x.keys.take k).length = k := by rw [List.length_take]; omega
    have hkk : (k : Int) < (x.kids.length : Int) := by omega
    have hc2 := hS (fOf y) st (ks ++ [s2]) wk w1 g (fOf_srt y) (fOf_len hoy) hst hkl hew h1 h2
    rw [dF_e (okRec hoy).symm, show strsD (ks ++ [s2]) = sl 1 (ks.map (fun s => [str s]) ++ [[str s2]]) by rw [strsD, List.map_append]; rfl] at hc2
    refine GO ?_
    rw [show (x.keys.take k).map (fun s => [str s]) ++ [[str s2]] = (x.keys.take (k + 1)).map fun s => [str s] by rw [List.take_add_one, hs2, List.map_append]; rfl]
    refine GO ?_
    refine Ch.apA (hb := by simp; omega) (r := ?_)
    rw [List.nil_append]
    refine GO ?_
    refine Ch.ch [0, 11] (Con.give hc2 (.there (.there (.there (.there .here))))) (r := ?_)
    refine GO ?_
    refine Ch.p (OpT.slice1' (hs := asAg (l := docF (recOf g)) rfl)) ⟨rfl, trivial⟩ ?_
    refine GO ?_
    refine Ch.ap ⟨rfl, rfl, trivial⟩ (hb := by rw [docsC_len, hdk]; simp; omega) (r := ?_)
    refine GO ?_
    rw [show docsC dk ++ [docF (recOf g)] = docsC (dk ++ [recOf g]) by rw [(rowDocs dk).eq, (rowDocs (dk ++ [recOf g])).eq, List.map_append]; rfl]
    refine W.swap 6 8 (h := ?_)
    refine W.swap 7 12 (h := ?_)
    exact W.ag ((k + 1, w1, dk ++ [recOf g])) (⟨hlt, by simp [hdk], hew1, d3, h3, by rw [hd, List.append_assoc]; rfl⟩) (by simp only; omega)
  · obtain rfl : k = x.keys.length := by omega
    rw [List.drop_eq_nil_of_le (by rw [List.length_zip]; omega), foldKids] at hf2
    cases hf2
    rw [List.append_nil] at hd
    subst hd
    have hkk : ¬ (x.keys.length : Int) < (x.kids.length : Int) := by omega
    rw [List.take_length]
    refine W.frz 6 (h := ?_)
    refine W.frz 7 (h := ?_)
    refine GO ?_
    refine Ch.c (r8withoutC f s.a (by omega)) (r := ?_)
    refine GO ?_
    refine Ch.c (hw) (r := ?_)
    refine GO ?_
    exact finH (hk := bel0 agD_keys)
end Go.Proofs.YtddddgbboipfeaaGreatDoor
