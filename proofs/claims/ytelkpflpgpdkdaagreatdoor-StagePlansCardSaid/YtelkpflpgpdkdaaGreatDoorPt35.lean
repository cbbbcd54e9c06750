/- Part 35 of what StageOrder and StagePlans ask: for every input each returns true, and its input reads as it did. No condition. -/
import Derived.Test.YtelkpflpgpdkdaaGreatDoorPt34
namespace Go.Proofs.YtelkpflpgpdkdaaGreatDoor
open Go.Sv
def lensN (s : Lens) : List D := i64 s.kind :: str s.a :: str s.b :: (typF s.typ ++ (docF s.doc ++ [sl 2 (s.swaps.map swapF), nilD]))
theorem cells_app {w : World} : ∀ {a b c d : List D} {us : List Value}, a.length = c.length → (∀ us, Cells w a us → Cells w c us) → (∀ us, Cells w b us → Cells w d us) → Cells w (a ++ b) us → Cells w (c ++ d) us := by
  intro a b c d us _ h1 h2 h
  obtain ⟨m1, m2, rfl, h3, h4⟩ := All2.split h
  exact All2.append (h1 _ h3) (h2 _ h4)
theorem lensN_less (s : Lens) (w : World) (us : List Value) (h : Cells w (lensN s) us) : Cells w (lensF (.mk s.kind s.a s.b s.typ s.doc s.swaps [])) us := by
  match us, h with
  | u0 :: u1 :: u2 :: us, h =>
    refine ⟨h.1, h.2.1, h.2.2.1, ?_⟩
    refine cells_app rfl (fun _ h => h) (fun us h => ?_) h.2.2.2
    refine cells_app rfl (fun _ h => h) (fun us h => ?_) h
    match us, h with
    | [_, _], h => exact ⟨h.1, nil_sl 16 _ _ h.2.1, trivial⟩
theorem turn0 (s : Lens) : Lens.back [.mk s.kind s.a s.b s.typ s.doc s.swaps []] = [Lens.turn (.mk s.kind s.a s.b s.typ s.doc s.swaps [])] := rfl
set_option maxRecDepth 10000 in
theorem aturnedC (s : Lens) (hb : BackC [.mk s.kind s.a s.b s.typ s.doc s.swaps []]) : ∀ n, Con Tryz.prog 217 [agD (lensF s)] [] n (agD (lensF (turnH s))) [] n := by
  refine fnI Tryz.func217 Tryz.ntmps217 (h := fun S w0 β0 X => ?_)
  have hb2 : ∀ n, Con Tryz.prog 199 [dT (sl 16 [lensN s])] [] n (dT (sl 16 [lensF (Lens.turn (.mk s.kind s.a s.b s.typ s.doc s.swaps []))])) [] n := fun n => by
    have h := hb n
    rw [turn0, (rowLens [Lens.turn _]).eq, (rowLens [Lens.mk s.kind s.a s.b s.typ s.doc s.swaps []]).eq] at h
    refine h.argL ⟨fun β w v h => ?_, trivial⟩
    exact sl_less1 (l := lensN s) (l' := lensF (.mk s.kind s.a s.b s.typ s.doc s.swaps [])) rfl (lensN_less s) w v h
  refine GO ?_
  refine Ch.p (OpT.slice1' (hs := asAg (l := lensN s) rfl)) ⟨rfl, trivial⟩ ?_
  refine GO ?_
  refine Ch.c (hb2) (r := ?_)
  refine GO ?_
  refine Ch.p (OpT.indexA (j := 0) (hj := rfl)) ⟨rfl, rfl, trivial⟩ ?_
  refine GO ?_
  obtain ⟨e1, e2, e3⟩ := turn_same (.mk s.kind s.a s.b s.typ s.doc s.swaps [])
  rw [show turnH s = .mk (Lens.turn (.mk s.kind s.a s.b s.typ s.doc s.swaps [])).kind (Lens.turn (.mk s.kind s.a s.b s.typ s.doc s.swaps [])).a (Lens.turn (.mk s.kind s.a s.b s.typ s.doc s.swaps [])).b (Lens.turn (.mk s.kind s.a s.b s.typ s.doc s.swaps [])).typ (Lens.turn (.mk s.kind s.a s.b s.typ s.doc s.swaps [])).doc (Lens.turn (.mk s.kind s.a s.b s.typ s.doc s.swaps [])).swaps s.subs by rw [e1, e2, e3]; rfl]
  exact fin1
end Go.Proofs.YtelkpflpgpdkdaaGreatDoor
namespace Go.Proofs.YtelkpflpgpdkdaaGreatDoor
open Go.Sv
def GRightH : Prop := ∀ r : Registry, (∀ x ∈ r.schemas, x.typ.fit) → (∀ j ∈ r.joins, Lens.fit j.lens ∧ Lens.wides j.lens) → r.schemas.length ≤ 1000000 → r.joins.length ≤ 1000000 → ∀ n, Con Tryz.prog 62 [agD (regF r)] [] n (bT (regRight r)) [] n
set_option maxRecDepth 10000 in
theorem tmayC (hG : GRightH) (r : Registry) (k : Int) (h1 : ∀ x ∈ r.schemas, x.typ.fit) (h2 : ∀ j ∈ r.joins, Lens.fit j.lens ∧ Lens.wides j.lens) (h3 : r.schemas.length ≤ 1000000) (h4 : r.joins.length ≤ 1000000) : ∀ n, Con Tryz.prog 93 [agD (regF r), iT k] [] n (iT (mayE r k)) [] n := by
  refine fnI Tryz.func93 Tryz.ntmps93 (h := fun S w0 β0 X => ?_)
  refine GO ?_
  refine Ch.c (hG r h1 h2 h3 h4) (r := ?_)
  refine GO ?_
  refine W.cond rfl (fun h => ?_) (fun h => ?_)
  · refine GO ?_
    exact finI (he := by rw [mayE, if_pos (by simpa using h)])
  have h : ¬ regRight r = false := by simpa using h
  refine GO ?_
  refine W.cond rfl (fun h5 => ?_) (fun h5 => ?_)
  · refine GO ?_
    exact finI (he := by rw [mayE, if_neg h, if_pos (by simp at h5; omega)])
  refine GO ?_
  exact finI (he := by rw [mayE, if_neg h, if_neg (by simp at h5; omega)])
end Go.Proofs.YtelkpflpgpdkdaaGreatDoor
namespace Go.Proofs.YtelkpflpgpdkdaaGreatDoor
open Go.Sv
set_option maxRecDepth 10000 in
theorem docCopyOC (d : Doc) (hf : d.fit) : Con Tryz.prog 52 [agD (docF d)] [] 0 (.ag [.d (i64 d.kind), .d (i64 d.num), .d (str d.str), .d (strsD d.keys), .key 0]) [(0, .row 48 5 (docsC d.kids))] 1 := by
  refine fnH Tryz.func52 Tryz.ntmps52 (h := fun S w0 β0 X => ?_)
  have hk := hf.keys
  have hd := hf.kids
  have hl := docsC_len d.kids
  have st : Stop 2 := ⟨⟩
  refine GO ?_
  refine Ch.ch [] (cloneStrC (d.keys.map fun s => [str s]) (by rw [List.length_map]; omega)) (r := ?_)
  refine GO ?_
  refine Ch.ch [] (cloneDocC (docsC d.kids) (by omega)) (r := ?_)
  refine GO ?_
  clear st
  refine W.frz 2 (h := ?_)
  refine GO ?_
  refine W.lp (· ≤ d.kids.length) (fun k => [(16, iT k)]) [(15, _), (14, _), (1, _), (2, _)] (d.kids.length - ·) 0 (Nat.zero_le _) (round := fun k hk => ?_)
  by_cases hlt : k < d.kids.length
  · have hlt' : k < (docsC d.kids).length := by omega
    have hx := List.getElem?_eq_getElem hlt
    generalize d.kids[k] = x at hx
    refine GO ?_
    refine Ch.r (OpT.indexW hlt') ⟨rfl, rfl, trivial⟩ rfl ?_
    refine Ch.r (OpT.loadW (docsC_get hx)) ⟨rfl, trivial⟩ rfl ?_
    refine GO ?_
    refine Ch.c (docCopyC x (hf.kid (List.mem_of_getElem? hx))) (r := ?_)
    refine Ch.r (OpT.indexW hlt') ⟨rfl, rfl, trivial⟩ rfl ?_
    refine Ch.storeW (hj := hlt') (r := ?_)
    rw [set_same (docsC_get hx)]
    refine GO ?_
    exact W.ag (k + 1) hlt (by omega)
  · obtain rfl : k = d.kids.length := by omega
    refine GO ?_
    refine W.swap 0 3 (h := ?_)
    exact finH
def WStepsC (e : Int) (bk : Bool) (l : List Lens) : Prop := ∀ (d : Doc) (st : List Int) (ks : List Str) (w w' : WS) (g : Flds), OkKeys 1 d → d.fit → st.length ≤ 1000 → ks.length ≤ 1001 → wsteps cvP e bk 0 l st ks (fOf d) w = some (g, w') → FOk g → Con Tryz.prog 200 [.one (.key 0), dT (sl 16 (lensesC l)), agD (docF d), agD (placeF st ks)] [(0, wkO e bk w.res w.needs w.err)] 1 (agD (docF (recOf g))) [(0, wkO e bk w'.res w'.needs w'.err)] 1
set_option maxRecDepth 10000 in
theorem winsideC (e : Int) (bk : Bool) (w w' : WS) (f g : Flds) (s : Lens) (st : List Int) (ks : List Str) (x : Doc) (hS : WStepsC e bk s.subs) (hx : fget s.a f = some x) (hok : OkKeys 1 x) (hxf : x.fit) (hst : st.length ≤ 1000) (hks : ks.length ≤ 1000) (hg : wsteps cvP e bk 0 s.subs st ks (fOf x) w = some (g, w')) (hgo : FOk g) (hl : f.length ≤ 1000000) (ha : s.a.size ≤ 1000000) : Con Tryz.prog 249 [.one (.key 0), .one (.key 1), agD (lensF s), agD (placeF st ks)] [(0, wkO e bk w.res w.needs w.err), (1, .map (fldM f))] 2 (.tup []) [(0, wkO e bk w'.res w'.needs w'.err), (1, .map (fldM (fput s.a (recOf g) f)))] 2 := by
  refine fnH Tryz.func249 Tryz.ntmps249 (h := fun S w0 β0 X => ?_)
  rw [fldM, fldM]
  obtain ⟨g3, g4⟩ := fldG_put s.a (recOf g) f
  refine GO ?_
  refine Ch.look (f := fldG f) (key := .string s.a) (o := some (fldU x)) (by rw [fldG, strM, hx]; rfl) (keyS (k := 9) (by omega)) (r := ?_)
  refine GO ?_
  refine Ch.ch [0] (hS x st ks w w' g hok hxf hst (by omega) hg hgo) (r := ?_)
  refine GO ?_
  refine Ch.put (f := fldG f) (u := fldU (recOf g)) (fldG (fput s.a (recOf g) f)) (f.map fun p => Value.string p.1) (fldG_keys _) (by rw [List.length_map]; omega) (keyS (k := 9) (by omega)) g3 g4 (r := ?_)
  refine GO ?_
  exact finH0n
end Go.Proofs.YtelkpflpgpdkdaaGreatDoor
namespace Go.Proofs.YtelkpflpgpdkdaaGreatDoor
open Go.Sv
theorem docsC_set (l : List Doc) (k : Nat) (y : Doc) : (docsC l).set k (docF y) = docsC (l.set k y) := by rw [(rowDocs l).eq, (rowDocs (l.set k y)).eq, List.map_set]
theorem set_mid {α : Type} {a l : List α} {k : Nat} (h : a.length = k) (hk : k < l.length) (y : α) : (a ++ l.drop k).set k y = a ++ [y] ++ l.drop (k + 1) := by
  rw [List.set_append_right _ _ (by omega), h, Nat.sub_self, List.drop_eq_getElem_cons hk, List.set_cons_zero, List.append_assoc]; rfl
set_option maxRecDepth 10000 in
set_option maxHeartbeats 1000000 in
theorem weachC (e : Int) (bk : Bool) (w w' : WS) (f : Flds) (s : Lens) (st : List Int) (ks : List Str) (x : Doc) (ds : List Doc) (hS : WStepsC e bk s.subs) (hx : fget s.a f = some x) (hok : OkKeys 2 x) (hxf : x.fit) (hst : st.length ≤ 1000) (hks : ks.length ≤ 1000) (hq : foldKids (fun u g w => wsteps cvP e bk 0 s.subs st (ks ++ [u]) g w) (x.keys.zip x.kids) w = some (ds, w')) (hl : f.length ≤ 1000000) (ha : s.a.size ≤ 1000000) : Con Tryz.prog 250 [.one (.key 0), .one (.key 1), agD (lensF s), agD (placeF st ks)] [(0, wkO e bk w.res w.needs w.err), (1, .map (fldM f))] 2 (.tup []) [(0, wkO e bk w'.res w'.needs w'.err), (1, .map (fldM (fput s.a (.mk 2 0 ⟨#[]⟩ x.keys ds) f)))] 2 := by
  refine fnH Tryz.func250 Tryz.ntmps250 (h := fun S w0 β0 X => ?_)
  rw [fldM, fldM]
  obtain ⟨g3, g4⟩ := fldG_put s.a (.mk 2 0 ⟨#[]⟩ x.keys ds) f
  obtain ⟨xk, xn, xs, keys, kids⟩ := x
  have e1 : xk = 2 := hok.1
  have e2 : xn = 0 := hok.2.1
  have e3 : xs = ⟨#[]⟩ := hok.2.2.1
  have hlen : keys.length = kids.length := hok.2.2.2.1
  have hln : keys.length ≤ 1000 := hok.2.2.2.2.2.2
  subst e1 e2 e3
  have hq : foldKids (fun u g w => wsteps cvP e bk 0 s.subs st (ks ++ [u]) g w) (keys.zip kids) w = some (ds, w') := hq
  have hkid : ∀ y ∈ kids, y.fit := fun y hy => hxf.kid hy
  refine GO ?_
  refine Ch.look (f := fldG f) (key := .string s.a) (o := some (fldU (.mk 2 0 ⟨#[]⟩ keys kids))) (by rw [fldG, strM, hx]; rfl) (keyS (k := 9) (by omega)) (r := ?_)
  refine GO ?_
  refine Ch.ch [] (docCopyOC (.mk 2 0 ⟨#[]⟩ keys kids) hxf) (r := ?_)
  refine GO ?_
  refine W.lpG (fun a : Nat × WS × List Doc => a.1 ≤ keys.length ∧ a.2.2.length = a.1 ∧ ∃ d2, foldKids (fun u g w => wsteps cvP e bk 0 s.subs st (ks ++ [u]) g w) ((keys.zip kids).drop a.1) a.2.1 = some (d2, w') ∧ ds = a.2.2 ++ d2) (fun a => [(19, iT a.1)]) [(0, _), (1, _), (6, _), (7, _), (8, _), (17, _), (18, _)] (fun a => [(0, wkO e bk a.2.1.res a.2.1.needs a.2.1.err), (4, .row 48 5 (docsC (a.2.2 ++ kids.drop a.1)))]) [(1, _), (2, _), (3, _), (5, _)] (fun a => keys.length - a.1) (0, w, []) (⟨Nat.zero_le _, rfl, ds, hq, rfl⟩) (round := fun a hI => ?_)
  obtain ⟨k, wk, dk⟩ := a
  obtain ⟨hk, hdk, d2, hf, hd⟩ := hI
  simp only at hk hdk hf ⊢
  by_cases hlt : k < keys.length
  · have hs2 := List.getElem?_eq_getElem hlt
    generalize keys[k] = s2 at hs2
    have hy := List.getElem?_eq_getElem (show k < kids.length by omega)
    generalize kids[k]'(by omega) = y at hy
    have hz : (keys.zip kids)[k]? = some (s2, y) := by rw [List.getElem?_zip_eq_some]; exact ⟨hs2, hy⟩
    have hdr : (keys.zip kids).drop k = (s2, y) :: (keys.zip kids).drop (k + 1) := by
      obtain ⟨hl2, he⟩ := List.getElem?_eq_some_iff.1 hz
      rw [List.drop_eq_getElem_cons hl2, he]
    rw [hdr] at hf
    obtain ⟨hoy, g, w1, d3, h1, h2, h3, rfl⟩ := foldKids_cons hf
    have hgy : (dk ++ kids.drop k)[k]? = some y := by rw [List.getElem?_append_right (by omega), hdk, Nat.sub_self, List.getElem?_drop]; exact hy
    have hlt' : k < (docsC (dk ++ kids.drop k)).length := by rw [docsC_len]; exact (List.getElem?_eq_some_iff.1 hgy).1
    have hset : (docsC (dk ++ kids.drop k)).set k (docF (recOf g)) = docsC ((dk ++ [recOf g]) ++ kids.drop (k + 1)) := by rw [docsC_set, set_mid hdk (by omega)]
    have hlt1 : (k : Int) < ((Doc.mk 2 0 ⟨#[]⟩ keys kids).keys.length : Int) := by show (k : Int) < (keys.length : Int); omega
    have hkl : (ks ++ [s2]).length ≤ 1001 := by rw [List.length_append, List.length_singleton]; omega
    refine GO ?_
    refine Ch.r (OpT.indexW hlt') ⟨rfl, rfl, trivial⟩ rfl ?_
    refine Ch.r (OpT.loadW (docsC_get hgy)) ⟨rfl, trivial⟩ rfl ?_
    refine GO ?_
    refine Ch.c (keyC st ks s2 (by omega)) (r := ?_)
    refine Ch.ch [0] (hS y st (ks ++ [s2]) wk w1 g hoy (hkid y (List.mem_of_getElem? hy)) hst hkl h1 h2) (r := ?_)
    refine Ch.r (OpT.indexW hlt') ⟨rfl, rfl, trivial⟩ rfl ?_
    refine Ch.storeW (hs := asAg (l := docF (recOf g)) rfl) (hj := hlt') (r := ?_)
    rw [hset]
    refine GO ?_
    exact W.ag ((k + 1, w1, dk ++ [recOf g])) (⟨hlt, by simp [hdk], d3, h3, by rw [hd, List.append_assoc]; rfl⟩) (by simp only; omega)
  · obtain rfl : k = keys.length := by omega
    rw [List.drop_eq_nil_of_le (by rw [List.length_zip]; omega), foldKids] at hf
    cases hf
    rw [List.append_nil] at hd
    subst hd
    rw [List.drop_eq_nil_of_le (by omega), List.append_nil]
    have hlt1 : ¬ (keys.length : Int) < ((Doc.mk 2 0 ⟨#[]⟩ keys kids).keys.length : Int) := by show ¬ (keys.length : Int) < (keys.length : Int); omega
    refine W.frz 4 (h := ?_)
    refine GO ?_
    refine Ch.put (f := fldG f) (u := fldU (.mk 2 0 ⟨#[]⟩ keys ds)) (fldG (fput s.a (.mk 2 0 ⟨#[]⟩ keys ds) f)) (f.map fun p => Value.string p.1) (fldG_keys _) (by rw [List.length_map]; omega) (keyS (k := 9) (by omega)) g3 g4 (r := ?_)
    refine GO ?_
    exact finH0n
end Go.Proofs.YtelkpflpgpdkdaaGreatDoor
namespace Go.Proofs.YtelkpflpgpdkdaaGreatDoor
open Go.Sv
theorem resGet_idx (l : List Res) (e : Int) (st : List Int) (ks : List Str) : (resGet l e st ks = none ∧ idxA l e st ks < 0) ∨ ∃ (j : Nat) (y : Res), resGet l e st ks = some y ∧ idxA l e st ks = j ∧ l[j]? = some y := by
  have h : idxA l e st ks = resIdx l e st ks := by
    rw [idxA, resIdx]
    congr 1
    funext x
    rw [show firstNZ [cmpI x.edge e, cmpL cmpI x.step st, cmpL cmpS x.at_ ks] = resLess x (placeRes e st ks) from resLess_first x (placeRes e st ks)]
    by_cases hz : resLess x (placeRes e st ks) = 0 <;> simp [hz]
  rw [h]
  rcases resIdx_get l e st ks with ⟨h1, h2⟩ | h1
  · exact .inl ⟨h1, by omega⟩
  · exact .inr h1
theorem wdoC (hP : PutH) (hD : FDocH) (e : Int) (bk : Bool) (s : Lens) (w w' : WS) (f g : Flds) (st : List Int) (ks : List Str) (hS : WStepsC e bk s.subs) (hls : s.swaps.length ≤ 1000000)
    (hg : wbody cvP e bk s.kind s.a s.b s.typ s.doc s.swaps s.subs st ks f w = some (g, w')) (hgo : FOk g) (hk : 1 ≤ s.kind ∧ s.kind ≤ 10) :
    Con Tryz.prog (wfidC s.kind) [.one (.key 0), .one (.key 1), agD (lensF s), agD (placeF st ks)] [(0, wkO e bk w.res w.needs w.err), (1, .map (fldM f))] 2 (.tup []) [(0, wkO e bk w'.res w'.needs w'.err), (1, .map (fldM g))] 2 := by
  unfold wbody at hg
  by_cases h0 : ¬ WOk f w st ks ∨ 256 < s.a.size
  · rw [if_pos h0] at hg; cases hg
  rw [if_neg h0] at hg
  have hok : WOk f w st ks := Classical.byContradiction fun h => h0 (.inl h)
  have ha : s.a.size ≤ 256 := Nat.le_of_not_lt fun h => h0 (.inr h)
  have hsl := hok.place.1
  have hkl := hok.place.2
  have hl := hok.len
  have hn1 := hok.needs.1
  have hr1 := hok.res.1
  by_cases h1 : s.kind = 1
  · rw [if_pos h1] at hg
    by_cases hb : 256 < s.b.size
    · rw [if_pos hb] at hg; cases hg
    rw [if_neg hb] at hg
    have e1 : (g, w') = (moveF f s.a s.b, w) := by
      unfold moveF
      cases hx : fget s.a f with
      | none => rw [hx] at hg; exact (Option.some.inj hg).symm
      | some x => rw [hx] at hg; exact (Option.some.inj hg).symm
    cases e1
    rw [show wfidC s.kind = 241 by rw [h1]; rfl]
    exact wrenameC e bk _ _ _ f s st ks (by omega) (by omega) (by omega)
  rw [if_neg h1] at hg
  by_cases h2 : s.kind = 2
  · rw [if_pos h2] at hg
    by_cases hb : ¬ (s.typ.fit ∧ s.doc.fit)
    · rw [if_pos hb] at hg; cases hg
    rw [if_neg hb] at hg
    have hb := Classical.not_not.1 hb
    rw [show wfidC s.kind = 242 by rw [h2]; rfl]
    have hxf : (Res.mk e st ks s.doc).fit := ⟨Nat.le_trans hsl (by omega), Nat.le_trans hkl (by omega), hb.2⟩
    rcases resGet_idx w.res e st ks with ⟨hy, hi⟩ | ⟨j, y, hy, hi, hj⟩
    · rw [hy] at hg
      cases Option.some.inj hg
      exact waddNC hP e bk _ _ _ f s st ks hi (by omega) hok.needs.2 hxf (by omega) (by omega)
    · rw [hy] at hg
      cases Option.some.inj hg
      exact waddSC hP e bk _ _ _ f s st ks j y hi hj (by omega) hok.res.2 hb.1 (by omega) hok.needs.2 hxf (by omega) (by omega)
  rw [if_neg h2] at hg
  cases hx : fget s.a f with
  | none => rw [hx] at hg; cases hg
  | some x =>
  rw [hx] at hg
  simp only at hg
  have hxf : x.fit := (fget_ok hok.docs hx).2
  by_cases h3 : s.kind = 3
  · rw [if_pos h3] at hg
    cases Option.some.inj hg
    rw [show wfidC s.kind = 243 by rw [h3]; rfl]
    exact wremoveC hP e bk _ _ _ f s st ks x hx (by omega) hok.res.2 ⟨Nat.le_trans hsl (by omega), Nat.le_trans hkl (by omega), hxf⟩ (by omega)
  rw [if_neg h3] at hg
  by_cases h4 : s.kind = 4
  · rw [if_pos h4] at hg
    by_cases hb : ¬ OkKeys 1 x ∨ 256 < s.b.size ∨ s.a = s.b
    · rw [if_pos hb] at hg; cases hg
    rw [if_neg hb] at hg
    cases hy : fget s.b (fOf x) with
    | none => rw [hy] at hg; cases hg
    | some y =>
      rw [hy] at hg
      cases Option.some.inj hg
      have hk : OkKeys 1 x := Classical.byContradiction fun h => hb (.inl h)
      have hbs : s.b.size ≤ 256 := Nat.le_of_not_lt fun h => hb (.inr (.inl h))
      have hab : s.a ≠ s.b := fun h => hb (.inr (.inr h))
      have hm : moveT (fOf x) f s.b s.b = (fdel s.b (fOf x), fput s.b y f) := by rw [moveT, hy]
      have hdl : (fdel s.b (fOf x)).length ≤ 1000 := Nat.le_trans (List.length_filter_le _ _) (fOf_len hk)
      have h9 := whoistC hD e bk w.res w.needs w.err f s st ks x hx hk.2.2.2.1 (by have := hk.2.2.2.2.2.2; omega) (fun u hu => Nat.le_trans (hk.2.2.2.2.2.1 u hu) (by omega)) (by rw [hm]; show (fdel s.b (fOf x)).length ≤ _; omega) (by rw [hm]; exact fun q hq => fOf_ok hk hxf q (List.mem_filter.1 hq).1) (by rw [hm]; exact (fOf_srt x).del) (by omega) (by rw [hm]; have := fput_more s.b y f; show (fput s.b y f).length ≤ _; omega) (by omega) (by omega)
      rw [hm] at h9
      rw [show wfidC s.kind = 244 by rw [h4]; rfl, ← fput_swap hok.srt hab]
      exact h9
  rw [if_neg h4] at hg
  by_cases h5 : s.kind = 5
  · rw [if_pos h5] at hg
    by_cases hb : ¬ OkKeys 1 x ∨ 256 < s.b.size ∨ s.a = s.b
    · rw [if_pos hb] at hg; cases hg
    rw [if_neg hb] at hg
    cases hy : fget s.b f with
    | none => rw [hy] at hg; cases hg
    | some y =>
      rw [hy] at hg
      cases Option.some.inj hg
      have hk : OkKeys 1 x := Classical.byContradiction fun h => hb (.inl h)
      have hbs : s.b.size ≤ 256 := Nat.le_of_not_lt fun h => hb (.inr (.inl h))
      have hm : moveT f (fOf x) s.b s.b = (fdel s.b f, fput s.b y (fOf x)) := by rw [moveT, hy]
      have hpl : (fput s.b y (fOf x)).length ≤ 1001 := Nat.le_trans (fput_more _ _ _) (by have := fOf_len hk; omega)
      have hfd : ∀ q ∈ fput s.b y (fOf x), q.1.size ≤ 256 ∧ q.2.fit := fun q hq => by
        rcases fput_mem hq with rfl | h
        · exact ⟨hbs, (fget_ok hok.docs hy).2⟩
        · exact fOf_ok hk hxf q h
      have h9 := wplungeC hD e bk w.res w.needs w.err f s st ks x hx hk.2.2.2.1 (by have := hk.2.2.2.2.2.2; omega) (fun u hu => Nat.le_trans (hk.2.2.2.2.2.1 u hu) (by omega)) (by have := fOf_len hk; omega) (by rw [hm]; show (fput s.b y (fOf x)).length ≤ _; omega) (by rw [hm]; exact hfd) (by rw [hm]; exact (fOf_srt x).put) (by rw [hm]; exact Nat.le_trans (List.length_filter_le _ _) (by omega)) (by omega) (by omega)
      rw [hm] at h9
      rw [show wfidC s.kind = 245 by rw [h5]; rfl]
      exact h9
  rw [if_neg h5] at hg
  by_cases h6 : s.kind = 6
  · rw [if_pos h6] at hg
    cases Option.some.inj hg
    rw [show wfidC s.kind = 246 by rw [h6]; rfl]
    exact wwrapC e bk _ _ _ f s st ks x hx (hgo.2 _ (fget_mem (s := s.a) (by rw [fget_put, if_pos rfl]))).2 (by omega) (by omega)
  rw [if_neg h6] at hg
  by_cases h7 : s.kind = 7
  · rw [if_pos h7] at hg
    cases hy : x.kids with
    | nil => rw [hy] at hg; cases hg
    | cons y ys =>
      rw [hy] at hg
      cases Option.some.inj hg
      rw [show wfidC s.kind = 247 by rw [h7]; rfl]
      exact wheadC e bk _ _ _ f s st ks x y hx (by rw [hy]; rfl) (by omega) (by omega)
  rw [if_neg h7] at hg
  by_cases h8 : s.kind = 8
  · rw [if_pos h8] at hg
    cases Option.some.inj hg
    rw [show wfidC s.kind = 248 by rw [h8]; rfl]
    exact wconvertC e bk _ _ _ f s st ks x hx hls (by omega) (by omega)
  rw [if_neg h8] at hg
  by_cases h9 : s.kind = 9
  · rw [if_pos h9] at hg
    by_cases hb : ¬ OkKeys 1 x
    · rw [if_pos hb] at hg; cases hg
    rw [if_neg hb] at hg
    cases hq : wsteps cvP e bk 0 s.subs st ks (fOf x) w with
    | none => rw [hq] at hg; cases hg
    | some q =>
      obtain ⟨g2, w2⟩ := q
      rw [hq] at hg
      simp only [Option.bind_some] at hg
      by_cases hgo2 : FOk g2
      · rw [if_pos hgo2] at hg
        cases Option.some.inj hg
        rw [show wfidC s.kind = 249 by rw [h9]; rfl]
        exact winsideC e bk w _ f g2 s st ks x hS hx (Classical.not_not.1 hb) hxf hsl hkl hq hgo2 (by omega) (by omega)
      · rw [if_neg hgo2] at hg; cases hg
  rw [if_neg h9] at hg
  have h10 : s.kind = 10 := by omega
  rw [if_pos h10] at hg
  by_cases hb : ¬ OkKeys 2 x
  · rw [if_pos hb] at hg; cases hg
  rw [if_neg hb] at hg
  cases hq : foldKids (fun s' g w => wsteps cvP e bk 0 s.subs st (ks ++ [s']) g w) (x.keys.zip x.kids) w with
  | none => rw [hq] at hg; cases hg
  | some q =>
    obtain ⟨ds, w2⟩ := q
    rw [hq] at hg
    cases Option.some.inj hg
    rw [show wfidC s.kind = 250 by rw [h10]; rfl]
    exact weachC e bk w _ f s st ks x ds hS hx (Classical.not_not.1 hb) hxf hsl hkl hq (by omega) (by omega)
end Go.Proofs.YtelkpflpgpdkdaaGreatDoor
namespace Go.Proofs.YtelkpflpgpdkdaaGreatDoor
open Go.Sv
section
variable {cv : Doc → List (Int × Int) → Doc} {e : Int} {bk : Bool}
theorem wbody_kind {n : Int} {a b : Str} {ty : Typ} {d : Doc} {sw : List (Int × Int)} {subs : List Lens} {st : List Int} {ks : List Str} {f : Flds} {w : WS} {r : Flds × WS} (h : wbody cv e bk n a b ty d sw subs st ks f w = some r) : 1 ≤ n ∧ n ≤ 10 := by
  refine Classical.byContradiction fun hk => ?_
  have n1 : ¬ n = 1 := by omega
  have n2 : ¬ n = 2 := by omega
  have n3 : ¬ n = 3 := by omega
  have n4 : ¬ n = 4 := by omega
  have n5 : ¬ n = 5 := by omega
  have n6 : ¬ n = 6 := by omega
  have n7 : ¬ n = 7 := by omega
  have n8 : ¬ n = 8 := by omega
  have n9 : ¬ n = 9 := by omega
  have n10 : ¬ n = 10 := by omega
  unfold wbody at h
  simp only [n1, n2, n3, n4, n5, n6, n7, n8, n9, n10, if_false] at h
  split at h
  · cases h
  · split at h <;> cases h
theorem wbody_srt {n : Int} {a b : Str} {ty : Typ} {d : Doc} {sw : List (Int × Int)} {subs : List Lens} {st : List Int} {ks : List Str} {f g : Flds} {w w' : WS} (h : wbody cv e bk n a b ty d sw subs st ks f w = some (g, w')) : FSrt g := by
  unfold wbody at h
  by_cases h0 : ¬ WOk f w st ks ∨ 256 < a.size
  · rw [if_pos h0] at h; cases h
  rw [if_neg h0] at h
  have hs : FSrt f := (Classical.byContradiction fun h => h0 (.inl h) : WOk f w st ks).srt
  clear h0
  by_cases h1 : n = 1
  · rw [if_pos h1] at h
    by_cases hb : 256 < b.size
    · rw [if_pos hb] at h; cases h
    rw [if_neg hb] at h
    cases hx : fget a f with
    | none => rw [hx] at h; cases h; exact hs
    | some x => rw [hx] at h; cases h; exact hs.del.put
  rw [if_neg h1] at h
  by_cases h2 : n = 2
  · rw [if_pos h2] at h
    by_cases hb : ¬ (ty.fit ∧ d.fit)
    · rw [if_pos hb] at h; cases h
    rw [if_neg hb] at h
    cases hx : resGet w.res e st ks with
    | none => rw [hx] at h; cases h; exact hs.put
    | some x => rw [hx] at h; cases h; exact hs.put
  rw [if_neg h2] at h
  cases hx : fget a f with
  | none => rw [hx] at h; cases h
  | some x =>
  rw [hx] at h
  simp only at h
  by_cases h3 : n = 3
  · rw [if_pos h3] at h; cases h; exact hs.del
  rw [if_neg h3] at h
  by_cases h4 : n = 4
  · rw [if_pos h4] at h
    by_cases hb : ¬ OkKeys 1 x ∨ 256 < b.size ∨ a = b
    · rw [if_pos hb] at h; cases h
    rw [if_neg hb] at h
    cases hy : fget b (fOf x) with
    | none => rw [hy] at h; cases h
    | some y => rw [hy] at h; cases h; exact hs.put.put
  rw [if_neg h4] at h
  by_cases h5 : n = 5
  · rw [if_pos h5] at h
    by_cases hb : ¬ OkKeys 1 x ∨ 256 < b.size ∨ a = b
    · rw [if_pos hb] at h; cases h
    rw [if_neg hb] at h
    cases hy : fget b f with
    | none => rw [hy] at h; cases h
    | some y => rw [hy] at h; cases h; exact hs.del.put
  rw [if_neg h5] at h
  by_cases h6 : n = 6
  · rw [if_pos h6] at h; cases h; exact hs.put
  rw [if_neg h6] at h
  by_cases h7 : n = 7
  · rw [if_pos h7] at h
    cases hy : x.kids with
    | nil => rw [hy] at h; cases h
    | cons y l => rw [hy] at h; cases h; exact hs.put
  rw [if_neg h7] at h
  by_cases h8 : n = 8
  · rw [if_pos h8] at h; cases h; exact hs.put
  rw [if_neg h8] at h
  by_cases h9 : n = 9
  · rw [if_pos h9] at h
    by_cases hb : ¬ OkKeys 1 x
    · rw [if_pos hb] at h; cases h
    rw [if_neg hb] at h
    obtain ⟨p, _, h⟩ := Option.bind_eq_some_iff.1 h
    by_cases hg : FOk p.1
    · rw [if_pos hg] at h; cases h; exact hs.put
    · rw [if_neg hg] at h; cases h
  rw [if_neg h9] at h
  by_cases h10 : n = 10
  · rw [if_pos h10] at h
    by_cases hb : ¬ OkKeys 2 x
    · rw [if_pos hb] at h; cases h
    rw [if_neg hb] at h
    obtain ⟨p, _, h⟩ := Option.bind_eq_some_iff.1 h
    cases h; exact hs.put
  · rw [if_neg h10] at h; cases h
end
theorem effH_parts (bk : Bool) (s : Lens) : (effH bk s).swaps = s.swaps ∧ (effH bk s).subs = s.subs := by
  cases bk <;> exact ⟨rfl, rfl⟩
set_option maxRecDepth 10000 in
set_option maxHeartbeats 1000000 in
theorem wstepsC (hP : PutH) (hD : FDocH) (hR : RevLensH) (e : Int) (bk : Bool) : ∀ (m : Nat) (l : List Lens), Lens.size l < m → Lens.fit l → WStepsC e bk l := by
  intro m
  induction m with
  | zero => intro l hz; exact absurd hz (Nat.not_lt_zero _)
  | succ m ih =>
  intro l hz hfit d st ks w w' g hok hdf hst hks hw hgo
  have hlen := hfit.len
  refine fnH Tryz.func200 Tryz.ntmps200 (h := fun S w0 β0 X => ?_)
  refine GO ?_
  refine Ch.ch [] (ofC d hok.2.2.2.1 (by have := hok.2.2.2.2.2.2; omega) (fun u hu => Nat.le_trans (hok.2.2.2.2.2.1 u hu) (by omega))) (r := ?_)
  refine GO ?_
  refine W.lpG (fun a : Nat × Flds × WS => a.1 ≤ l.length ∧ FSrt a.2.1 ∧ wsteps cvP e bk (leftI bk a.1) (left bk a.1 l) st ks a.2.1 a.2.2 = some (g, w')) (fun a => [(17, iT a.1)]) [(0, _), (1, _), (7, _), (8, _), (9, _), (16, _)] (fun a => [(0, wkO e bk a.2.2.res a.2.2.needs a.2.2.err), (4, .map (fldM a.2.1))]) [(1, _), (2, _), (3, _)] (fun a => l.length - a.1) (0, fOf d, w) (⟨Nat.zero_le _, fOf_srt d, by cases bk <;> simpa [left, leftI] using hw⟩) (round := fun a hI => ?_)
  obtain ⟨k, f, wk⟩ := a
  obtain ⟨hk, hsr, hws⟩ := hI
  simp only at hk hsr hws ⊢
  by_cases hlt : k < l.length
  · have hs0 := List.getElem?_eq_getElem hlt
    generalize l[k] = s0 at hs0
    have hjl : leftJ bk k l.length < l.length := by unfold leftJ; split <;> omega
    have hs := List.getElem?_eq_getElem hjl
    generalize l[leftJ bk k l.length] = s at hs
    have hsm := List.mem_of_getElem? hs
    obtain ⟨f1, w1, h1, h2⟩ := wsteps_next hws hlt hs
    have hwo := wstep_wok h1
    rw [wstep_effH] at h1
    have hkd := wbody_kind h1
    have hs1 := wbody_srt h1
    have hgo1 : FOk f1 := wsteps_fOk (r := (g, w')) hgo h2
    obtain ⟨q1, q2, q3, q4⟩ := hfit.sub hsm
    obtain ⟨p1, p2⟩ := effH_parts bk s
    have hz2 := Lens.size_mem hsm
    have hSub : WStepsC e bk (effH bk s).subs := by rw [p2]; exact ih s.subs (by omega) q4
    have hdo := wdoC hP hD e bk (effH bk s) wk w1 f f1 (st ++ [(leftJ bk k l.length : Int)]) ks hSub (by rw [p1]; exact q3) h1 hgo1 hkd
    have hdoes := wdoesC (effH bk s).kind hkd.1 hkd.2 e bk wk.res wk.needs wk.err
    clear h1 hws hSub
    cases bk with
    | false =>
      have : s0 = s := Option.some.inj (hs0.symm.trans hs)
      subst this
      refine GO ?_
      refine Ch.ch [0] hdoes (r := ?_)
      refine GO ?_
      refine Ch.c (belowC st ks k (by omega)) (r := ?_)
      refine Ch.dynM [0, 4] (ts := [.one (.key 1), agD (lensF s0), agD (placeF (st ++ [(k : Int)]) ks)]) (cs := [.key 0]) hdo (r := ?_)
      refine GO ?_
      exact W.ag ((k + 1, f1, w1)) (⟨hlt, hs1, h2⟩) (by simp only; omega)
    | true =>
      have hj : (l.length : Int) - 1 - k = ((l.length - 1 - k : Nat) : Int) := by omega
      have hs : l[l.length - 1 - k]? = some s := hs
      have hbk : BackC [.mk s.kind s.a s.b s.typ s.doc s.swaps []] := lbackC hR 2 _ (by simp [Lens.size, Lens.size1]) ⟨by simp [Lens.size, Lens.size1], by simp only [Lens.fits, Lens.fit1]; exact ⟨⟨q1, q2, q3, trivial⟩, trivial⟩⟩
      refine GO ?_
      rw [hj]
      refine GO ?_
      refine Ch.c (aturnedC s hbk) (r := ?_)
      refine GO ?_
      refine Ch.ch [0] hdoes (r := ?_)
      refine GO ?_
      refine Ch.c (belowC st ks ((l.length - 1 - k : Nat) : Int) (by omega)) (r := ?_)
      refine Ch.dynM [0, 4] (ts := [.one (.key 1), agD (lensF (turnH s)), agD (placeF (st ++ [((l.length - 1 - k : Nat) : Int)]) ks)]) (cs := [.key 0]) hdo (r := ?_)
      refine GO ?_
      exact W.ag ((k + 1, f1, w1)) (⟨hlt, hs1, h2⟩) (by simp only; omega)
  · obtain rfl : k = l.length := by omega
    have hz : left bk l.length l = [] := by unfold left; cases bk <;> simp
    rw [hz, wsteps] at hws
    cases hws
    refine GO ?_
    refine Ch.ch [4] (hD g hsr (by have := hgo.1; omega) hgo.2) (r := ?_)
    refine GO ?_
    exact finH
end Go.Proofs.YtelkpflpgpdkdaaGreatDoor
