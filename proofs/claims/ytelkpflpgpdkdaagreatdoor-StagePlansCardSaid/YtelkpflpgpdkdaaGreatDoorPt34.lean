/- Part 34 of what StageOrder and StagePlans ask: for every input each returns true, and its input reads as it did. No condition. -/
import Derived.Test.YtelkpflpgpdkdaaGreatDoorPt24
import Derived.Test.YtelkpflpgpdkdaaGreatDoorPt25
import Derived.Test.YtelkpflpgpdkdaaGreatDoorPt28
import Derived.Test.YtelkpflpgpdkdaaGreatDoorPt32
import Derived.Test.YtelkpflpgpdkdaaGreatDoorPt33
namespace Go.Proofs.YtelkpflpgpdkdaaGreatDoor
open Go.Sv
theorem idx2 (m a b : Int) : idxOf (fun x => m == x) [a, b] = if a = m then 0 else if b = m then 1 else -1 := by
  by_cases h1 : a = m
  · rw [if_pos h1, idxOf_at (k := 0) (x := a) rfl (by simp [h1]) (by simp)]; rfl
  rw [if_neg h1]
  by_cases h2 : b = m
  · rw [if_pos h2, idxOf_at (k := 1) (x := b) rfl (by simp [h2]) (by simp; exact fun e => h1 e.symm)]; rfl
  rw [if_neg h2]
  exact idxOf_none (by simp; exact ⟨fun e => h1 e.symm, fun e => h2 e.symm⟩)
set_option maxRecDepth 10000 in
theorem lSwapC (m : Int) (l : List (Int × Int)) (hl : l.length ≤ 1000000) : ∀ n, Con Tryz.prog 268 [iT m, dT (sl 2 (l.map swapF))] [] n (iT (Lens.swap m l)) [] n := by
  refine fnI Tryz.func268 Tryz.ntmps268 (h := fun S w0 β0 X => ?_)
  refine GO ?_
  refine W.lp (fun k => k ≤ l.length ∧ Lens.swap m l = Lens.swap m (l.drop k)) (fun k => [(4, iT 0), (10, iT k)]) [(0, _), (8, _), (9, _)] (l.length - ·) 0 (⟨Nat.zero_le _, rfl⟩) (round := fun k hk => ?_)
  obtain ⟨hkl, hsw⟩ := hk
  by_cases hlt : k < l.length
  · have hp := List.getElem?_eq_getElem hlt
    generalize l[k] = p at hp
    have hd : l.drop k = p :: l.drop (k + 1) := by rw [List.drop_eq_getElem_cons hlt]; congr 1; exact Option.some.inj ((List.getElem?_eq_getElem hlt).symm.trans hp)
    rw [hd] at hsw
    have hi := indexIntC [p.1, p.2] m (by simp)
    rw [idx2] at hi
    have s4 : Stop 4 := ⟨⟩
    refine GO ?_
    clear s4
    refine W.frzB 0 [i64 p.1, i64 p.2] (h := ?_)
    refine GO ?_
    refine Ch.p (OpT.sliceArr (len := 2) (l := [i64 p.1, i64 p.2]) rfl (by decide) Tryz.underlying212) ⟨rfl, trivial⟩ ?_
    refine GO ?_
    by_cases h1 : p.1 = m
    · rw [if_pos h1] at hi
      refine Ch.c (hi) (r := ?_)
      refine GO ?_
      refine Ch.p (OpT.idxArr 1 rfl (by decide) rfl Tryz.underlying212) ⟨rfl, rfl, trivial⟩ ?_
      refine GO ?_
      exact finI (he := by rw [hsw, Lens.swap, if_pos h1])
    rw [if_neg h1] at hi
    by_cases h2 : p.2 = m
    · rw [if_pos h2] at hi
      refine Ch.c (hi) (r := ?_)
      refine GO ?_
      refine Ch.p (OpT.idxArr 0 rfl (by decide) rfl Tryz.underlying212) ⟨rfl, rfl, trivial⟩ ?_
      refine GO ?_
      exact finI (he := by rw [hsw, Lens.swap, if_neg h1, if_pos h2])
    · rw [if_neg h2] at hi
      refine Ch.c (hi) (r := ?_)
      refine GO ?_
      exact W.ag (k + 1) (⟨hlt, hsw.trans (swap_skip h1 h2)⟩) (by omega)
  · obtain rfl : k = l.length := by omega
    refine GO ?_
    exact finI (he := by rw [hsw, List.drop_length]; rfl)
theorem kinds11 (k : Int) : k = 1 ∨ k = 2 ∨ k = 4 ∨ k = 6 ∨ k = 3 ∨ k = 5 ∨ k = 7 ∨ k = 9 ∨ k = 10 ∨ (k ≠ 1 ∧ k ≠ 2 ∧ k ≠ 3 ∧ k ≠ 4 ∧ k ≠ 5 ∧ k ≠ 6 ∧ k ≠ 7 ∧ k ≠ 9 ∧ k ≠ 10) := by omega
end Go.Proofs.YtelkpflpgpdkdaaGreatDoor
namespace Go.Proofs.YtelkpflpgpdkdaaGreatDoor
open Go.Sv
def BackC (l : List Lens) : Prop := ∀ n, Con Tryz.prog 199 [dT (sl 16 (lensesC l))] [] n (dT (sl 16 (lensesC (Lens.back l)))) [] n
set_option maxRecDepth 10000 in
set_option maxHeartbeats 4000000 in
theorem lturnedC (s : Lens) (hb : BackC s.subs) : ∀ n, Con Tryz.prog 215 [agD (lensF s)] [] n (agD (lensF (Lens.turn s))) [] n := by
  refine fnI Tryz.func215 Tryz.ntmps215 (h := fun S w0 β0 X => ?_)
  rcases kinds11 s.kind with h | h | h | h | h | h | h | h | h | h
  · rw [show Lens.turn s = .mk s.kind s.b s.a s.typ s.doc s.swaps s.subs by rw [turn_kind, if_pos h]]
    refine GO ?_
    exact fin1
  iterate 3
    · rw [show Lens.turn s = .mk (s.kind + 1) s.a s.b s.typ s.doc s.swaps s.subs by rw [turn_kind, if_neg (by omega), if_pos (by omega)]]
      refine GO ?_
      exact fin1
  iterate 3
    · rw [show Lens.turn s = .mk (s.kind - 1) s.a s.b s.typ s.doc s.swaps s.subs by rw [turn_kind, if_neg (by omega), if_neg (by omega), if_pos (by omega)]]
      refine GO ?_
      exact fin1
  iterate 2
    · rw [show Lens.turn s = .mk s.kind s.a s.b s.typ s.doc s.swaps (Lens.back s.subs) by rw [turn_kind, if_neg (by omega), if_neg (by omega), if_neg (by omega), if_pos (by omega)]]
      refine GO ?_
      refine Ch.c (hb) (r := ?_)
      refine GO ?_
      exact fin1
  · obtain ⟨k1, k2, k3, k4, k5, k6, k7, k9, k10⟩ := h
    rw [show Lens.turn s = s by rw [turn_kind, if_neg (by omega), if_neg (by omega), if_neg (by omega), if_neg (by omega)]]
    refine GO ?_
    exact fin1
theorem lens16 (l : List Lens) : ∀ x ∈ lensesC l, x.length = 16 := by
  rw [(rowLens l).eq]
  intro x hx
  obtain ⟨s, _, rfl⟩ := List.mem_map.1 hx
  rfl
def RevLensH : Prop := ∀ ls : List (List D), ls.length ≤ 1000000 → (∀ x ∈ ls, x.length = 16) → Con Tryz.prog 214 [.one (.key 0)] [(0, .row 210 16 ls)] 1 (.tup []) [(0, .row 210 16 ls.reverse)] 1
def mixB (l : List Lens) (k : Nat) : List Lens := (l.reverse.take k).map Lens.turn ++ l.reverse.drop k
theorem mixB_at {l : List Lens} {k : Nat} {x : Lens} (hx : l.reverse[k]? = some x) : (mixB l k)[k]? = some x ∧ (mixB l k).set k (Lens.turn x) = mixB l (k + 1) := by
  have hlt := (List.getElem?_eq_some_iff.1 hx).1
  have hA : ((l.reverse.take k).map Lens.turn).length = k := by rw [List.length_map, List.length_take]; omega
  have hd : l.reverse.drop k = x :: l.reverse.drop (k + 1) := by rw [List.drop_eq_getElem_cons hlt]; congr 1; exact Option.some.inj ((List.getElem?_eq_getElem hlt).symm.trans hx)
  have hm : mixB l k = (l.reverse.take k).map Lens.turn ++ x :: l.reverse.drop (k + 1) := by rw [mixB, hd]
  refine ⟨?_, ?_⟩
  · rw [hm, List.getElem?_append_right (by omega), hA, Nat.sub_self]; rfl
  · rw [hm, List.set_append_right _ _ (by omega), hA, Nat.sub_self, mixB, List.take_add_one, hx]
    simp
set_option maxRecDepth 10000 in
set_option maxHeartbeats 4000000 in
theorem lbackC (hR : RevLensH) : ∀ (m : Nat) (l : List Lens), Lens.size l < m → Lens.fit l → BackC l := by
  intro m
  induction m with
  | zero => intro l hz; exact absurd hz (Nat.not_lt_zero _)
  | succ m ih =>
  intro l hz hfit
  have hlen := hfit.len
  have hll := lensesC_len l
  refine fnI Tryz.func199 Tryz.ntmps199 (h := fun S w0 β0 X => ?_)
  refine GO ?_
  refine Ch.ch [] (lensCopyC l hfit) (r := ?_)
  refine GO ?_
  refine Ch.ch [0] (hR (lensesC l) (by omega) (lens16 l)) (r := ?_)
  refine GO ?_
  rw [show (lensesC l).reverse.length = l.length by rw [List.length_reverse, hll], show (lensesC l).reverse = (mixB l 0).map lensF by rw [(rowLens l).eq, ← List.map_reverse]; rfl]
  refine W.lpG ((· ≤ l.length)) (fun k => [(12, iT k)]) [(2, _), (3, _), (10, _), (11, _)] (fun k => [(0, .row 210 16 ((mixB l k).map lensF))]) [] (l.length - ·) 0 (Nat.zero_le _) (round := fun k hk => ?_)
  by_cases hlt : k < l.length
  · have hrl : k < l.reverse.length := by rw [List.length_reverse]; exact hlt
    have hx := List.getElem?_eq_getElem hrl
    generalize l.reverse[k] = x at hx
    have hsm : x ∈ l := List.mem_reverse.1 (List.mem_of_getElem? hx)
    obtain ⟨f1, f2, f3, f4⟩ := hfit.sub hsm
    have hz2 := Lens.size_mem hsm
    obtain ⟨hg, hset⟩ := mixB_at hx
    have hgm : ((mixB l k).map lensF)[k]? = some (lensF x) := by rw [List.getElem?_map, hg]; rfl
    have hlt' : k < ((mixB l k).map lensF).length := (List.getElem?_eq_some_iff.1 hgm).1
    have hsm2 : ((mixB l k).map lensF).set k (lensF (Lens.turn x)) = (mixB l (k + 1)).map lensF := by rw [← List.map_set, hset]
    refine GO ?_
    refine Ch.r (OpT.indexW hlt') ⟨rfl, rfl, trivial⟩ rfl ?_
    refine Ch.r (OpT.loadW hgm) ⟨rfl, trivial⟩ rfl ?_
    refine GO ?_
    refine Ch.c (lturnedC x (ih x.subs (by omega) f4)) (r := ?_)
    refine GO ?_
    refine Ch.r (OpT.indexW hlt') ⟨rfl, rfl, trivial⟩ rfl ?_
    refine Ch.storeW (hs := .ag (lensF (Lens.turn x))) (hj := hlt') (r := ?_)
    rw [hsm2]
    refine GO ?_
    exact W.ag (k + 1) (hlt) (by omega)
  · obtain rfl : k = l.length := by omega
    refine GO ?_
    refine W.frz 0 (h := ?_)
    rw [show mixB l l.length = Lens.back l by rw [mixB, List.take_of_length_le (by simp), List.drop_of_length_le (by simp), List.append_nil, Lens.back_eq, List.map_reverse], (rowLens (Lens.back l)).eq]
    exact fin1
end Go.Proofs.YtelkpflpgpdkdaaGreatDoor
namespace Go.Proofs.YtelkpflpgpdkdaaGreatDoor
open Go.Sv
set_option maxRecDepth 10000 in
theorem put1C (x y : Res) : ∀ n, Con Tryz.prog 191 [agD (resF y), dT (adr (resF x))] [] n (bT (decide (0 ≤ resLess y x))) [] n := by
  refine fnI Tryz.func191 Tryz.ntmps191 (h := fun S w0 β0 X => ?_)
  refine GO ?_
  refine Ch.c (lessC y x) (r := ?_)
  refine GO ?_
  exact fin1
set_option maxRecDepth 10000 in
theorem asame1C (x y : Res) : ∀ n, Con Tryz.prog 127 [agD (resF x), agD (resF y)] [] n (bT (resSame x y)) [] n := by
  refine fnI Tryz.func127 Tryz.ntmps127 (h := fun S w0 β0 X => ?_)
  refine GO ?_
  refine Ch.c (lessC x y) (r := ?_)
  refine GO ?_
  refine Ch.gc (hc := fun _ => docSameC x.doc y.doc) (r := ?_)
  refine GO ?_
  exact finB (he := by rw [resSame]; rfl)
def placeF (st : List Int) (ks : List Str) : List D := [intsD st, strsD ks]
set_option maxRecDepth 10000 in
theorem belowC (st : List Int) (ks : List Str) (i : Int) (hl : st.length ≤ 1000000) : ∀ n, Con Tryz.prog 219 [agD (placeF st ks), iT i] [] n (agD (placeF (st ++ [i]) ks)) [] n := by
  refine fnI Tryz.func219 Tryz.ntmps219 (h := fun S w0 β0 X => ?_)
  refine GO ?_
  refine Ch.ch [] (cloneIntC (st.map fun s => [i64 s]) (by rw [List.length_map]; omega)) (r := ?_)
  refine GO ?_
  rw [show st.map (fun s => [i64 s]) ++ [[i64 i]] = (st ++ [i]).map fun s => [i64 s] by rw [List.map_append]; rfl]
  refine W.frz 3 (h := ?_)
  exact fin1
set_option maxRecDepth 10000 in
theorem keyC (st : List Int) (ks : List Str) (s : Str) (hl : ks.length ≤ 1000000) : ∀ n, Con Tryz.prog 269 [agD (placeF st ks), sT s] [] n (agD (placeF st (ks ++ [s]))) [] n := by
  refine fnI Tryz.func269 Tryz.ntmps269 (h := fun S w0 β0 X => ?_)
  refine GO ?_
  refine Ch.ch [] (cloneStrC (ks.map fun s => [str s]) (by rw [List.length_map]; omega)) (r := ?_)
  refine GO ?_
  rw [show ks.map (fun s => [str s]) ++ [[str s]] = (ks ++ [s]).map fun s => [str s] by rw [List.map_append]; rfl]
  refine W.frz 3 (h := ?_)
  exact fin1
set_option maxRecDepth 10000 in
theorem asameC (s t : State) : ∀ n, Con Tryz.prog 95 [agD (stateF s), agD (stateF t)] [] n (bT (stateSame s t)) [] n := by
  refine fnI Tryz.func95 Tryz.ntmps95 (h := fun S w0 β0 X => ?_)
  refine GO ?_
  refine Ch.c (docSameC s.doc t.doc) (r := ?_)
  refine GO ?_
  refine Ch.gc (hc := fun _ => eqRessC (l := s.res) (m := t.res) _ _ resSame fun x _ y _ => asame1C x y) (r := ?_)
  refine GO ?_
  exact finB (he := by rfl)
end Go.Proofs.YtelkpflpgpdkdaaGreatDoor
namespace Go.Proofs.YtelkpflpgpdkdaaGreatDoor
open Go.Sv
def fldU (d : Doc) : U := .ag ((docF d).map C.d)
def fldG (f : Flds) : Value → Option U := strM fun s => (fget s f).map fldU
def fldM (f : Flds) : M := mapM Tryz.prog 9 (fldG f)
theorem fldG_nil : fldG [] = fun _ => none := by
  funext v
  cases v <;> rfl
theorem fldG_put (s : Str) (d : Doc) (f : Flds) : fldG (fput s d f) (.string s) = some (fldU d) ∧ ∀ x, x ≠ .string s → fldG (fput s d f) x = fldG f x := by
  refine ⟨by rw [fldG, strM, fget_put, if_pos rfl]; rfl, fun x hx => ?_⟩
  cases x <;> try rfl
  rename_i u
  rw [fldG, strM, fget_put, if_neg (fun e => hx (by rw [e]))]; rfl
theorem fldG_del (s : Str) (f : Flds) : fldG (fdel s f) (.string s) = none ∧ ∀ x, x ≠ .string s → fldG (fdel s f) x = fldG f x := by
  refine ⟨by rw [fldG, strM, fget_del, if_pos rfl]; rfl, fun x hx => ?_⟩
  cases x <;> try rfl
  rename_i u
  rw [fldG, strM, fget_del, if_neg (fun e => hx (by rw [e]))]; rfl
theorem fldG_keys (f : Flds) : ∀ x, fldG f x ≠ none → x ∈ f.map fun p => Value.string p.1 := fun x hx => by
  cases x <;> try exact absurd rfl hx
  rename_i u
  have : fget u f ≠ none := fun e => hx (by rw [fldG, strM, e]; rfl)
  have h2 : u ∈ f.map (·.1) := Classical.not_not.1 fun h => this (fget_none.2 h)
  obtain ⟨p, hp, rfl⟩ := List.mem_map.1 h2
  exact List.mem_map.2 ⟨p, hp, rfl⟩
set_option maxRecDepth 10000 in
theorem ofC (d : Doc) (hlen : d.keys.length = d.kids.length) (hl : d.keys.length ≤ 1000000) (hk : ∀ s ∈ d.keys, s.size ≤ 1000000) : Con Tryz.prog 216 [agD (docF d)] [] 0 (.one (.key 0)) [(0, .map (fldM (fOf d)))] 1 := by
  refine fnH Tryz.func216 Tryz.ntmps216 (h := fun S w0 β0 X => ?_)
  refine GO ?_
  refine Ch.nw (OpT.makeMap 9) trivial ?_
  refine GO ?_
  rw [show (mapM Tryz.prog 9 fun _ => none) = fldM (fputs ((d.keys.zip d.kids).take 0) []) by rw [fldM, List.take_zero, fputs, fldG_nil]]
  refine W.lpG ((· ≤ d.keys.length)) (fun k => [(10, iT k)]) [(1, _), (2, _), (3, _), (8, _), (9, _)] (fun k => [(1, .map (fldM (fputs ((d.keys.zip d.kids).take k) [])))]) [(0, _)] (d.keys.length - ·) 0 (Nat.zero_le _) (round := fun k hi => ?_)
  by_cases hlt : k < d.keys.length
  · have hs := List.getElem?_eq_getElem hlt
    generalize d.keys[k] = s at hs
    have hx := List.getElem?_eq_getElem (show k < d.kids.length by omega)
    generalize d.kids[k]'(by omega) = x at hx
    have hz : (d.keys.zip d.kids)[k]? = some (s, x) := by rw [List.getElem?_zip_eq_some]; exact ⟨hs, hx⟩
    have hup := fputs_succ hz
    have hfl : (fputs ((d.keys.zip d.kids).take k) []).length ≤ 1000000 := Nat.le_trans (fputs_len _ _) (by rw [List.length_take]; simp; omega)
    have hsz := hk s (List.mem_of_getElem? hs)
    rw [show fldM (fputs ((d.keys.zip d.kids).take k) []) = mapM Tryz.prog 9 (fldG (fputs ((d.keys.zip d.kids).take k) [])) from rfl]
    generalize fputs ((d.keys.zip d.kids).take k) [] = f at *
    obtain ⟨g1, g2⟩ := fldG_put s x f
    refine GO ?_
    refine Ch.put (u := fldU x) (fldG (fput s x f)) (f.map fun p => Value.string p.1) (fldG_keys f) (by rw [List.length_map]; omega) (keyS (k := 9) (by omega)) g1 g2 (r := ?_)
    refine GO ?_
    rw [← hup]
    exact W.ag (k + 1) (hlt) (by omega)
  · obtain rfl : k = d.keys.length := by omega
    rw [List.take_of_length_le (by rw [List.length_zip]; omega)]
    refine GO ?_
    refine W.swap 0 1 (h := ?_)
    exact finH
set_option maxRecDepth 10000 in
theorem moveSC (f : Flds) (a b : Str) (hl : f.length ≤ 1000000) (ha : a.size ≤ 1000000) (hb : b.size ≤ 1000000) : Con Tryz.prog 265 [.one (.key 0), .one (.key 0), sT a, sT b] [(0, .map (fldM f))] 1 (.tup []) [(0, .map (fldM (moveF f a b)))] 1 := by
  refine fnH Tryz.func265 Tryz.ntmps265 (h := fun S w0 β0 X => ?_)
  cases hg : fget a f with
  | none =>
    rw [moveF, hg, fldM]
    refine GO ?_
    refine Ch.look (f := fldG f) (key := .string a) (o := none) (by rw [fldG, strM, hg]; rfl) (keyS (k := 9) (by omega)) (r := ?_)
    refine GO ?_
    exact finH0n
  | some x =>
    rw [moveF, hg, fldM, fldM]
    obtain ⟨g1, g2⟩ := fldG_del a f
    obtain ⟨g3, g4⟩ := fldG_put b x (fdel a f)
    have hdl : (fdel a f).length ≤ 1000000 := Nat.le_trans (List.length_filter_le ..) hl
    refine GO ?_
    refine Ch.look (f := fldG f) (key := .string a) (o := some (fldU x)) (by rw [fldG, strM, hg]; rfl) (keyS (k := 9) (by omega)) (r := ?_)
    refine GO ?_
    refine Ch.del (fldG (fdel a f)) (keyS (k := 9) (by omega)) g1 g2 (r := ?_)
    refine GO ?_
    refine Ch.put (u := fldU x) (fldG (fput b x (fdel a f))) ((fdel a f).map fun p => Value.string p.1) (fldG_keys _) (by rw [List.length_map]; omega) (keyS (k := 9) (by omega)) g3 g4 (r := ?_)
    refine GO ?_
    exact finH0n
end Go.Proofs.YtelkpflpgpdkdaaGreatDoor
namespace Go.Proofs.YtelkpflpgpdkdaaGreatDoor
open Go.Sv
set_option maxRecDepth 10000 in
theorem moveTC (f g : Flds) (a b : Str) (hl2 : g.length ≤ 1000000) (ha : a.size ≤ 1000000) (hb : b.size ≤ 1000000) : Con Tryz.prog 265 [.one (.key 0), .one (.key 1), sT a, sT b] [(0, .map (fldM f)), (1, .map (fldM g))] 2 (.tup []) [(0, .map (fldM (moveT f g a b).1)), (1, .map (fldM (moveT f g a b).2))] 2 := by
  refine fnH Tryz.func265 Tryz.ntmps265 (h := fun S w0 β0 X => ?_)
  cases hg : fget a f with
  | none =>
    rw [moveT, hg, fldM, fldM]
    refine GO ?_
    refine Ch.look (f := fldG f) (key := .string a) (o := none) (by rw [fldG, strM, hg]; rfl) (keyS (k := 9) (by omega)) (r := ?_)
    refine GO ?_
    exact finH0n
  | some x =>
    rw [moveT, hg, fldM, fldM, fldM, fldM]
    obtain ⟨g1, g2⟩ := fldG_del a f
    obtain ⟨g3, g4⟩ := fldG_put b x g
    refine GO ?_
    refine Ch.look (f := fldG f) (key := .string a) (o := some (fldU x)) (by rw [fldG, strM, hg]; rfl) (keyS (k := 9) (by omega)) (r := ?_)
    refine GO ?_
    refine Ch.del (fldG (fdel a f)) (keyS (k := 9) (by omega)) g1 g2 (r := ?_)
    refine GO ?_
    refine Ch.put (u := fldU x) (fldG (fput b x g)) (g.map fun p => Value.string p.1) (fldG_keys _) (by rw [List.length_map]; omega) (keyS (k := 9) (by omega)) g3 g4 (r := ?_)
    refine GO ?_
    exact finH0n
end Go.Proofs.YtelkpflpgpdkdaaGreatDoor
namespace Go.Proofs.YtelkpflpgpdkdaaGreatDoor
open Go.Sv
def wkF (e : Int) (bk : Bool) (rs ns : List Res) (er : Int) : List D := [i64 e, bl bk, sl 8 (rs.map resF), sl 8 (ns.map resF), i64 er]
set_option maxRecDepth 10000 in
theorem wrenameC (e : Int) (bk : Bool) (rs ns : List Res) (er : Int) (f : Flds) (s : Lens) (st : List Int) (ks : List Str) (hl : f.length ≤ 1000000) (ha : s.a.size ≤ 1000000) (hb : s.b.size ≤ 1000000) : Con Tryz.prog 241 [.one (.key 0), .one (.key 1), agD (lensF s), agD (placeF st ks)] [(0, .box 268 ((wkF e bk rs ns er).map C.d)), (1, .map (fldM f))] 2 (.tup []) [(0, .box 268 ((wkF e bk rs ns er).map C.d)), (1, .map (fldM (moveF f s.a s.b)))] 2 := by
  refine fnH Tryz.func241 Tryz.ntmps241 (h := fun S w0 β0 X => ?_)
  refine GO ?_
  refine Ch.ch [1] (moveSC f s.a s.b hl ha hb) (r := ?_)
  refine GO ?_
  exact finH0n
end Go.Proofs.YtelkpflpgpdkdaaGreatDoor
namespace Go.Proofs.YtelkpflpgpdkdaaGreatDoor
open Go.Sv
theorem nil_docs {k n : Int} {s : Str} {l : List Doc} (w : World) (us : List Value) (h : Cells w [i64 k, i64 n, str s, nilD, sl 5 (docsC l)] us) : Cells w (docF (.mk k n s [] l)) us := by
  match us, h with
  | [_, _, _, _, _], h => exact ⟨h.1, h.2.1, h.2.2.1, nil_sl _ _ _ h.2.2.2.1, h.2.2.2.2.1, trivial⟩
set_option maxRecDepth 10000 in
theorem docIntC (n_ : Int) : ∀ n, Con Tryz.prog 267 [iT n_] [] n (agD (docF (.mk 4 n_ ⟨#[]⟩ [] []))) [] n := by
  refine fnI Tryz.func267 Tryz.ntmps267 (h := fun S w0 β0 X => ?_)
  have s2 : Stop 2 := ⟨⟩
  refine GO ?_
  clear s2
  refine W.nilB 0 3 9 1 (h := ?_)
  refine W.nilB 0 4 48 5 (h := ?_)
  refine W.frz 1 (h := ?_)
  refine W.frz 2 (h := ?_)
  exact fin1
set_option maxRecDepth 10000 in
theorem docListC (l : List Doc) (hf : (Doc.mk 3 0 ⟨#[]⟩ [] l).fit) : ∀ n, Con Tryz.prog 266 [dT (sl 5 (docsC l))] [] n (agD (docF (.mk 3 0 ⟨#[]⟩ [] l))) [] n := by
  refine fnI Tryz.func266 Tryz.ntmps266 (h := fun S w0 β0 X => ?_)
  refine GO ?_
  refine Ch.c (fun n => (docCopyC (.mk 3 0 ⟨#[]⟩ [] l) hf n).argL (args := [agD [i64 3, i64 0, str ⟨#[]⟩, nilD, sl 5 (docsC l)]]) ⟨.ag nil_docs, trivial⟩) (r := ?_)
  refine GO ?_
  exact fin1
end Go.Proofs.YtelkpflpgpdkdaaGreatDoor
namespace Go.Proofs.YtelkpflpgpdkdaaGreatDoor
open Go.Sv
theorem docList1C (x : Doc) (hf : (Doc.mk 3 0 ⟨#[]⟩ [] [x]).fit) : ∀ n, Con Tryz.prog 266 [dT (sl 5 [docF x])] [] n (agD (docF (.mk 3 0 ⟨#[]⟩ [] [x]))) [] n := by
  have h := docListC [x] hf
  rwa [(rowDocs [x]).eq] at h
set_option maxRecDepth 10000 in
theorem wwrapC (e : Int) (bk : Bool) (rs ns : List Res) (er : Int) (f : Flds) (s : Lens) (st : List Int) (ks : List Str) (x : Doc) (hx : fget s.a f = some x) (hd : (Doc.mk 3 0 ⟨#[]⟩ [] [x]).fit) (hl : f.length ≤ 1000000) (ha : s.a.size ≤ 1000000) : Con Tryz.prog 246 [.one (.key 0), .one (.key 1), agD (lensF s), agD (placeF st ks)] [(0, .box 268 ((wkF e bk rs ns er).map C.d)), (1, .map (fldM f))] 2 (.tup []) [(0, .box 268 ((wkF e bk rs ns er).map C.d)), (1, .map (fldM (fput s.a (.mk 3 0 ⟨#[]⟩ [] [x]) f)))] 2 := by
  refine fnH Tryz.func246 Tryz.ntmps246 (h := fun S w0 β0 X => ?_)
  rw [fldM, fldM]
  obtain ⟨g3, g4⟩ := fldG_put s.a (.mk 3 0 ⟨#[]⟩ [] [x]) f
  refine GO ?_
  refine Ch.look (f := fldG f) (key := .string s.a) (o := some (fldU x)) (by rw [fldG, strM, hx]; rfl) (keyS (k := 9) (by omega)) (r := ?_)
  refine GO ?_
  refine Ch.c (docList1C x hd) (r := ?_)
  refine GO ?_
  refine Ch.put (u := fldU (.mk 3 0 ⟨#[]⟩ [] [x])) (fldG (fput s.a (.mk 3 0 ⟨#[]⟩ [] [x]) f)) (f.map fun p => Value.string p.1) (fldG_keys _) (by rw [List.length_map]; omega) (keyS (k := 9) (by omega)) g3 g4 (r := ?_)
  refine GO ?_
  exact finH0n
set_option maxRecDepth 10000 in
theorem wheadC (e : Int) (bk : Bool) (rs ns : List Res) (er : Int) (f : Flds) (s : Lens) (st : List Int) (ks : List Str) (x y : Doc) (hx : fget s.a f = some x) (hy : x.kids[0]? = some y) (hl : f.length ≤ 1000000) (ha : s.a.size ≤ 1000000) : Con Tryz.prog 247 [.one (.key 0), .one (.key 1), agD (lensF s), agD (placeF st ks)] [(0, .box 268 ((wkF e bk rs ns er).map C.d)), (1, .map (fldM f))] 2 (.tup []) [(0, .box 268 ((wkF e bk rs ns er).map C.d)), (1, .map (fldM (fput s.a y f)))] 2 := by
  refine fnH Tryz.func247 Tryz.ntmps247 (h := fun S w0 β0 X => ?_)
  rw [fldM, fldM]
  obtain ⟨g3, g4⟩ := fldG_put s.a y f
  refine GO ?_
  refine Ch.look (f := fldG f) (key := .string s.a) (o := some (fldU x)) (by rw [fldG, strM, hx]; rfl) (keyS (k := 9) (by omega)) (r := ?_)
  refine GO ?_
  refine Ch.put (u := fldU y) (fldG (fput s.a y f)) (f.map fun p => Value.string p.1) (fldG_keys _) (by rw [List.length_map]; omega) (keyS (k := 9) (by omega)) g3 g4 (r := ?_)
  refine GO ?_
  exact finH0n
end Go.Proofs.YtelkpflpgpdkdaaGreatDoor
namespace Go.Proofs.YtelkpflpgpdkdaaGreatDoor
open Go.Sv
set_option maxRecDepth 10000 in
theorem wconvertC (e : Int) (bk : Bool) (rs ns : List Res) (er : Int) (f : Flds) (s : Lens) (st : List Int) (ks : List Str) (x : Doc) (hx : fget s.a f = some x) (hw : s.swaps.length ≤ 1000000) (hl : f.length ≤ 1000000) (ha : s.a.size ≤ 1000000) : Con Tryz.prog 248 [.one (.key 0), .one (.key 1), agD (lensF s), agD (placeF st ks)] [(0, .box 268 ((wkF e bk rs ns er).map C.d)), (1, .map (fldM f))] 2 (.tup []) [(0, .box 268 ((wkF e bk rs ns er).map C.d)), (1, .map (fldM (fput s.a (cvP x s.swaps) f)))] 2 := by
  refine fnH Tryz.func248 Tryz.ntmps248 (h := fun S w0 β0 X => ?_)
  rw [fldM, fldM]
  obtain ⟨g3, g4⟩ := fldG_put s.a (cvP x s.swaps) f
  refine GO ?_
  refine Ch.look (f := fldG f) (key := .string s.a) (o := some (fldU x)) (by rw [fldG, strM, hx]; rfl) (keyS (k := 9) (by omega)) (r := ?_)
  refine GO ?_
  refine Ch.c (lSwapC x.num s.swaps hw) (r := ?_)
  refine GO ?_
  refine Ch.c (docIntC (Lens.swap x.num s.swaps)) (r := ?_)
  refine GO ?_
  refine Ch.put (u := fldU (cvP x s.swaps)) (fldG (fput s.a (cvP x s.swaps) f)) (f.map fun p => Value.string p.1) (fldG_keys _) (by rw [List.length_map]; omega) (keyS (k := 9) (by omega)) g3 g4 (r := ?_)
  refine GO ?_
  exact finH0n
end Go.Proofs.YtelkpflpgpdkdaaGreatDoor
namespace Go.Proofs.YtelkpflpgpdkdaaGreatDoor
open Go.Sv
def PutH : Prop := ∀ (l : List Res) (x : Res), l.length ≤ 1000000 → (∀ y ∈ l, y.fit) → x.fit → ∀ n, Con Tryz.prog 169 [dT (sl 8 (l.map resF)), agD (resF x)] [] n (dT (sl 8 ((resPut l x).map resF))) [] n
set_option maxRecDepth 10000 in
theorem wremoveC (hP : PutH) (e : Int) (bk : Bool) (rs ns : List Res) (er : Int) (f : Flds) (s : Lens) (st : List Int) (ks : List Str) (x : Doc) (hx : fget s.a f = some x) (hr : rs.length ≤ 1000000) (hrf : ∀ y ∈ rs, y.fit) (hxf : (Res.mk e st ks x).fit) (ha : s.a.size ≤ 1000000) : Con Tryz.prog 243 [.one (.key 0), .one (.key 1), agD (lensF s), agD (placeF st ks)] [(0, .box 268 ((wkF e bk rs ns er).map C.d)), (1, .map (fldM f))] 2 (.tup []) [(0, .box 268 ((wkF e bk (resPut rs ⟨e, st, ks, x⟩) ns er).map C.d)), (1, .map (fldM (fdel s.a f)))] 2 := by
  refine fnH Tryz.func243 Tryz.ntmps243 (h := fun S w0 β0 X => ?_)
  rw [fldM, fldM]
  obtain ⟨g1, g2⟩ := fldG_del s.a f
  refine GO ?_
  refine Ch.look (f := fldG f) (key := .string s.a) (o := some (fldU x)) (by rw [fldG, strM, hx]; rfl) (keyS (k := 9) (by omega)) (r := ?_)
  refine GO ?_
  refine Ch.c (hP rs ⟨e, st, ks, x⟩ hr hrf hxf) (r := ?_)
  refine GO ?_
  refine Ch.del (fldG (fdel s.a f)) (keyS (k := 9) (by omega)) g1 g2 (r := ?_)
  refine GO ?_
  exact finH0n
end Go.Proofs.YtelkpflpgpdkdaaGreatDoor
namespace Go.Proofs.YtelkpflpgpdkdaaGreatDoor
open Go.Sv
def FDocH : Prop := ∀ f : Flds, FSrt f → f.length ≤ 1000000 → (∀ p ∈ f, p.1.size ≤ 256 ∧ p.2.fit) → Con Tryz.prog 220 [.one (.key 0)] [(0, .map (fldM f))] 1 (agD (docF (recOf f))) [(0, .map (fldM f))] 1
set_option maxRecDepth 10000 in
theorem whoistC (hD : FDocH) (e : Int) (bk : Bool) (rs ns : List Res) (er : Int) (f : Flds) (s : Lens) (st : List Int) (ks : List Str) (x : Doc) (hx : fget s.a f = some x) (hlen : x.keys.length = x.kids.length) (hxl : x.keys.length ≤ 1000000) (hxk : ∀ u ∈ x.keys, u.size ≤ 1000000) (hg : (moveT (fOf x) f s.b s.b).1.length ≤ 1000000) (hgf : ∀ p ∈ (moveT (fOf x) f s.b s.b).1, p.1.size ≤ 256 ∧ p.2.fit) (hgs : FSrt (moveT (fOf x) f s.b s.b).1) (hl : f.length ≤ 1000000) (hl2 : (moveT (fOf x) f s.b s.b).2.length ≤ 1000000) (ha : s.a.size ≤ 1000000) (hb : s.b.size ≤ 1000000) : Con Tryz.prog 244 [.one (.key 0), .one (.key 1), agD (lensF s), agD (placeF st ks)] [(0, .box 268 ((wkF e bk rs ns er).map C.d)), (1, .map (fldM f))] 2 (.tup []) [(0, .box 268 ((wkF e bk rs ns er).map C.d)), (1, .map (fldM (fput s.a (recOf (moveT (fOf x) f s.b s.b).1) (moveT (fOf x) f s.b s.b).2)))] 2 := by
  refine fnH Tryz.func244 Tryz.ntmps244 (h := fun S w0 β0 X => ?_)
  obtain ⟨g3, g4⟩ := fldG_put s.a (recOf (moveT (fOf x) f s.b s.b).1) (moveT (fOf x) f s.b s.b).2
  rw [show fldM f = mapM Tryz.prog 9 (fldG f) from rfl]
  refine GO ?_
  refine Ch.look (f := fldG f) (key := .string s.a) (o := some (fldU x)) (by rw [fldG, strM, hx]; rfl) (keyS (k := 9) (by omega)) (r := ?_)
  refine GO ?_
  refine Ch.ch [] (ofC x hlen hxl hxk) (r := ?_)
  refine GO ?_
  refine Ch.ch [4, 1] (moveTC (fOf x) f s.b s.b hl hb hb) (r := ?_)
  refine GO ?_
  refine Ch.ch [4] (hD _ hgs hg hgf) (r := ?_)
  refine GO ?_
  refine Ch.put (f := fldG (moveT (fOf x) f s.b s.b).2) (u := fldU (recOf (moveT (fOf x) f s.b s.b).1)) (fldG (fput s.a (recOf (moveT (fOf x) f s.b s.b).1) (moveT (fOf x) f s.b s.b).2)) ((moveT (fOf x) f s.b s.b).2.map fun p => Value.string p.1) (fldG_keys _) (by rw [List.length_map]; omega) (keyS (k := 9) (by omega)) g3 g4 (r := ?_)
  refine GO ?_
  exact finH0n
end Go.Proofs.YtelkpflpgpdkdaaGreatDoor
namespace Go.Proofs.YtelkpflpgpdkdaaGreatDoor
open Go.Sv
set_option maxRecDepth 10000 in
theorem wplungeC (hD : FDocH) (e : Int) (bk : Bool) (rs ns : List Res) (er : Int) (f : Flds) (s : Lens) (st : List Int) (ks : List Str) (x : Doc) (hx : fget s.a f = some x) (hlen : x.keys.length = x.kids.length) (hxl : x.keys.length ≤ 1000000) (hxk : ∀ u ∈ x.keys, u.size ≤ 1000000) (hof : (fOf x).length ≤ 1000000) (hg : (moveT f (fOf x) s.b s.b).2.length ≤ 1000000) (hgf : ∀ p ∈ (moveT f (fOf x) s.b s.b).2, p.1.size ≤ 256 ∧ p.2.fit) (hgs : FSrt (moveT f (fOf x) s.b s.b).2) (hl2 : (moveT f (fOf x) s.b s.b).1.length ≤ 1000000) (ha : s.a.size ≤ 1000000) (hb : s.b.size ≤ 1000000) : Con Tryz.prog 245 [.one (.key 0), .one (.key 1), agD (lensF s), agD (placeF st ks)] [(0, .box 268 ((wkF e bk rs ns er).map C.d)), (1, .map (fldM f))] 2 (.tup []) [(0, .box 268 ((wkF e bk rs ns er).map C.d)), (1, .map (fldM (fput s.a (recOf (moveT f (fOf x) s.b s.b).2) (moveT f (fOf x) s.b s.b).1)))] 2 := by
  refine fnH Tryz.func245 Tryz.ntmps245 (h := fun S w0 β0 X => ?_)
  obtain ⟨g3, g4⟩ := fldG_put s.a (recOf (moveT f (fOf x) s.b s.b).2) (moveT f (fOf x) s.b s.b).1
  rw [show fldM f = mapM Tryz.prog 9 (fldG f) from rfl]
  refine GO ?_
  refine Ch.look (f := fldG f) (key := .string s.a) (o := some (fldU x)) (by rw [fldG, strM, hx]; rfl) (keyS (k := 9) (by omega)) (r := ?_)
  refine GO ?_
  refine Ch.ch [] (ofC x hlen hxl hxk) (r := ?_)
  refine GO ?_
  refine Ch.ch [1, 4] (moveTC f (fOf x) s.b s.b hof hb hb) (r := ?_)
  refine GO ?_
  refine Ch.ch [4] (hD _ hgs hg hgf) (r := ?_)
  refine GO ?_
  refine Ch.put (f := fldG (moveT f (fOf x) s.b s.b).1) (u := fldU (recOf (moveT f (fOf x) s.b s.b).2)) (fldG (fput s.a (recOf (moveT f (fOf x) s.b s.b).2) (moveT f (fOf x) s.b s.b).1)) ((moveT f (fOf x) s.b s.b).1.map fun p => Value.string p.1) (fldG_keys _) (by rw [List.length_map]; omega) (keyS (k := 9) (by omega)) g3 g4 (r := ?_)
  refine GO ?_
  exact finH0n
end Go.Proofs.YtelkpflpgpdkdaaGreatDoor
namespace Go.Proofs.YtelkpflpgpdkdaaGreatDoor
open Go.Sv
abbrev idxA (rs : List Res) (e : Int) (st : List Int) (ks : List Str) : Int := idxOf (fun x => decide (firstNZ [cmpI x.edge e, cmpL cmpI x.step st, cmpL cmpS x.at_ ks] = 0)) rs
abbrev wkO (e : Int) (bk : Bool) (rs ns : List Res) (er : Int) : Own := .box 268 ((wkF e bk rs ns er).map C.d)
set_option maxRecDepth 10000 in
theorem waddNC (hP : PutH) (e : Int) (bk : Bool) (rs ns : List Res) (er : Int) (f : Flds) (s : Lens) (st : List Int) (ks : List Str) (hi : idxA rs e st ks < 0) (hn : ns.length ≤ 1000000) (hnf : ∀ y ∈ ns, y.fit) (hxf : (Res.mk e st ks s.doc).fit) (hl : f.length ≤ 1000000) (ha : s.a.size ≤ 1000000) : Con Tryz.prog 242 [.one (.key 0), .one (.key 1), agD (lensF s), agD (placeF st ks)] [(0, wkO e bk rs ns er), (1, .map (fldM f))] 2 (.tup []) [(0, wkO e bk rs (resPut ns ⟨e, st, ks, s.doc⟩) er), (1, .map (fldM (fput s.a s.doc f)))] 2 := by
  refine fnH Tryz.func242 Tryz.ntmps242 (h := fun S w0 β0 X => ?_)
  rw [fldM, fldM]
  obtain ⟨g3, g4⟩ := fldG_put s.a s.doc f
  refine GO ?_
  refine Ch.put (f := fldG f) (u := fldU s.doc) (fldG (fput s.a s.doc f)) (f.map fun p => Value.string p.1) (fldG_keys _) (by rw [List.length_map]; omega) (keyS (k := 9) (by omega)) g3 g4 (r := ?_)
  refine GO ?_
  refine Ch.c (afindC rs e st ks) (r := ?_)
  refine GO ?_
  refine W.cond rfl (fun h => ?_) (fun h => ?_)
  · exact absurd h (by simpa using hi)
  refine GO ?_
  refine Ch.c (hP ns ⟨e, st, ks, s.doc⟩ hn hnf hxf) (r := ?_)
  refine GO ?_
  exact finH0n
end Go.Proofs.YtelkpflpgpdkdaaGreatDoor
namespace Go.Proofs.YtelkpflpgpdkdaaGreatDoor
open Go.Sv
set_option maxRecDepth 10000 in
theorem waddSC (hP : PutH) (e : Int) (bk : Bool) (rs ns : List Res) (er : Int) (f : Flds) (s : Lens) (st : List Int) (ks : List Str) (i : Nat) (y : Res) (hi : idxA rs e st ks = (i : Int)) (hy : rs[i]? = some y) (hr : rs.length ≤ 1000000) (hrf : ∀ y ∈ rs, y.fit) (ht : s.typ.fit) (hn : ns.length ≤ 1000000) (hnf : ∀ y ∈ ns, y.fit) (hxf : (Res.mk e st ks s.doc).fit) (hl : f.length ≤ 1000000) (ha : s.a.size ≤ 1000000) : Con Tryz.prog 242 [.one (.key 0), .one (.key 1), agD (lensF s), agD (placeF st ks)] [(0, wkO e bk rs ns er), (1, .map (fldM f))] 2 (.tup []) [(0, wkO e bk (resDrop rs e st ks) (resPut ns ⟨e, st, ks, s.doc⟩) (if isOf s.typ y.doc then er else 8)), (1, .map (fldM (fput s.a y.doc f)))] 2 := by
  refine fnH Tryz.func242 Tryz.ntmps242 (h := fun S w0 β0 X => ?_)
  rw [fldM, fldM]
  obtain ⟨g3, g4⟩ := fldG_put s.a s.doc f
  obtain ⟨g5, g6⟩ := fldG_put s.a y.doc f
  have hyf := (hrf y (List.mem_of_getElem? hy)).2.2
  have hc := afindC rs e st ks
  rw [show idxOf (fun x => decide (firstNZ [cmpI x.edge e, cmpL cmpI x.step st, cmpL cmpS x.at_ ks] = 0)) rs = (i : Int) from hi] at hc
  have hi0 : (0 : Int) ≤ i := by omega
  have hkeys : ∀ x, fldG (fput s.a s.doc f) x ≠ none → x ∈ Value.string s.a :: f.map fun p => Value.string p.1 := fun x hx => by
    by_cases h : x = .string s.a
    · rw [h]; exact List.mem_cons_self ..
    · rw [g4 x h] at hx; exact List.mem_cons_of_mem _ (fldG_keys f x hx)
  refine GO ?_
  refine Ch.put (f := fldG f) (u := fldU s.doc) (fldG (fput s.a s.doc f)) (f.map fun p => Value.string p.1) (fldG_keys _) (by rw [List.length_map]; omega) (keyS (k := 9) (by omega)) g3 g4 (r := ?_)
  refine GO ?_
  refine Ch.c (hc) (r := ?_)
  refine GO ?_
  refine Ch.put (f := fldG (fput s.a s.doc f)) (u := fldU y.doc) (fldG (fput s.a y.doc f)) (Value.string s.a :: f.map fun p => Value.string p.1) hkeys (by rw [List.length_cons, List.length_map]; omega) (keyS (k := 9) (by omega)) g5 (fun x hx => (g6 x hx).trans (g4 x hx).symm) (r := ?_)
  refine GO ?_
  refine Ch.look (f := fldG (fput s.a y.doc f)) (key := .string s.a) (o := some (fldU y.doc)) g5 (keyS (k := 9) (by omega)) (r := ?_)
  refine GO ?_
  refine Ch.c (isC s.typ y.doc itoaC ht hyf) (r := ?_)
  cases hb : isOf s.typ y.doc
  all_goals
    refine GO ?_
    refine Ch.c ((adropC rs e st ks hr hrf).data) (r := ?_)
    refine GO ?_
    refine Ch.c (hP ns ⟨e, st, ks, s.doc⟩ hn hnf hxf) (r := ?_)
    refine GO ?_
    exact finH0n
end Go.Proofs.YtelkpflpgpdkdaaGreatDoor
namespace Go.Proofs.YtelkpflpgpdkdaaGreatDoor
open Go.Sv
def wfidC (k : Int) : FuncId := if k = 1 then 241 else if k = 2 then 242 else if k = 3 then 243 else if k = 4 then 244 else if k = 5 then 245 else if k = 6 then 246 else if k = 7 then 247 else if k = 8 then 248 else if k = 9 then 249 else 250
set_option maxRecDepth 10000 in
theorem wdoesC (k : Int) (h1 : 1 ≤ k) (h2 : k ≤ 10) (e : Int) (bk : Bool) (rs ns : List Res) (er : Int) : Con Tryz.prog 218 [.one (.key 0), iT k] [(0, wkO e bk rs ns er)] 1 (.one (.mth (wfidC k) [.key 0])) [(0, wkO e bk rs ns er)] 1 := by
  rcases (by omega : k = 1 ∨ k = 2 ∨ k = 3 ∨ k = 4 ∨ k = 5 ∨ k = 6 ∨ k = 7 ∨ k = 8 ∨ k = 9 ∨ k = 10) with rfl | rfl | rfl | rfl | rfl | rfl | rfl | rfl | rfl | rfl
  all_goals
    refine fnH Tryz.func218 Tryz.ntmps218 (h := fun S w0 β0 X => ?_)
    refine GO ?_
    refine Ch.p (OpT.mth (cs := [.key 0])) ⟨rfl, trivial⟩ ?_
    refine GO ?_
    exact finH
end Go.Proofs.YtelkpflpgpdkdaaGreatDoor
