/- Part 47 of what TransFills asks: for every input it returns true, and its input reads as it did. No condition. -/
import Derived.Test.YtddddgbboipfeaaGreatDoorPt30
import Derived.Test.YtddddgbboipfeaaGreatDoorPt36
import Derived.Test.YtddddgbboipfeaaGreatDoorPt37
import Derived.Test.YtddddgbboipfeaaGreatDoorPt39
import Derived.Test.YtddddgbboipfeaaGreatDoorPt44
import Derived.Test.YtddddgbboipfeaaGreatDoorPt46
import Derived.Laws.OwnMore
namespace Go.Proofs.YtddddgbboipfeaaGreatDoor
open Go.Sv
theorem r8doC (e : Int) (bk : Bool) (s : Lens) (w w' : WS) (f g : Flds) (st : List Int) (ks : List Str) (hS : R8StepsC e bk s.subs) (hls : s.swaps.length ≤ 1000000) (he : w.err = 0 ∨ w.err = 8)
    (hg : wbody cvR e bk s.kind s.a s.b s.typ s.doc s.swaps s.subs st ks f w = some (g, w')) :
    Con Tryz.prog 182 [.one (.key 0), agD (lensF s), agD (docF (recOf f)), dT (intsD st), dT (strsD ks)] [(0, rwkO e bk w.res w.needs w.err)] 1 (agD (docF (recOf g))) [(0, rwkO e bk w'.res w'.needs w'.err)] 1 := by
  unfold wbody at hg
  by_cases h0 : ¬ WOk f w st ks ∨ 256 < s.a.size
  · rw [if_pos h0] at hg; cases hg
  rw [if_neg h0] at hg
  have hok : WOk f w st ks := Classical.byContradiction fun h => h0 (.inl h)
  have hsl := hok.place.1
  have hkl := hok.place.2
  have hf := hok.srt
  have hl := hok.len
  have hn1 := hok.needs.1
  have hr1 := hok.res.1
  by_cases h1 : s.kind = 1
  · rw [if_pos h1] at hg
    by_cases hb : 256 < s.b.size
    · rw [if_pos hb] at hg; cases hg
    rw [if_neg hb] at hg
    have e1 : (g, w') = (moveF f s.a s.b, w) := by
      unfold moveF
      cases hx : fget s.a f with
      | none => rw [hx] at hg; exact (Option.some.inj hg).symm
      | some x => rw [hx] at hg; exact (Option.some.inj hg).symm
    cases e1
    exact rstep1C e bk w f s st ks h1 hf hl
  rw [if_neg h1] at hg
  by_cases h2 : s.kind = 2
  · rw [if_pos h2] at hg
    by_cases hb : ¬ (s.typ.fit ∧ s.doc.fit)
    · rw [if_pos hb] at hg; cases hg
    rw [if_neg hb] at hg
    have hb := Classical.not_not.1 hb
    rcases resIdx_get w.res e st ks with ⟨hy, hi⟩ | ⟨j, y, hy, hi, hj⟩
    · rw [hy] at hg
      cases Option.some.inj hg
      exact rstep2NC e bk w f s st ks h2 hf hl hi (by omega)
    · rw [hy] at hg
      cases Option.some.inj hg
      exact rstep2SC e bk w f s st ks j y h2 hf hl hi hj (hok.res.2 y (List.mem_of_getElem? hj)).2.2 hb.1 (by omega) (by omega) he
  rw [if_neg h2] at hg
  cases hx : fget s.a f with
  | none => rw [hx] at hg; cases hg
  | some x =>
  rw [hx] at hg
  simp only at hg
  by_cases h3 : s.kind = 3
  · rw [if_pos h3] at hg
    cases Option.some.inj hg
    exact rstep3C e bk w f s st ks h3 hf hl x hx (by omega)
  rw [if_neg h3] at hg
  by_cases h4 : s.kind = 4
  · rw [if_pos h4] at hg
    by_cases hb : ¬ OkKeys 1 x ∨ 256 < s.b.size ∨ s.a = s.b
    · rw [if_pos hb] at hg; cases hg
    rw [if_neg hb] at hg
    have hk : OkKeys 1 x := Classical.byContradiction fun h => hb (.inl h)
    cases hy : fget s.b (fOf x) with
    | none => rw [hy] at hg; cases hg
    | some y =>
      rw [hy] at hg
      cases Option.some.inj hg
      exact rstep4C e bk w f s st ks h4 hf hl (fOf x) y (by rw [hx, ← okRec hk]) (fOf_srt x) (fOf_len hk) hy
  rw [if_neg h4] at hg
  by_cases h5 : s.kind = 5
  · rw [if_pos h5] at hg
    by_cases hb : ¬ OkKeys 1 x ∨ 256 < s.b.size ∨ s.a = s.b
    · rw [if_pos hb] at hg; cases hg
    rw [if_neg hb] at hg
    have hk : OkKeys 1 x := Classical.byContradiction fun h => hb (.inl h)
    cases hy : fget s.b f with
    | none => rw [hy] at hg; cases hg
    | some y =>
      rw [hy] at hg
      cases Option.some.inj hg
      exact rstep5C e bk w f s st ks h5 hf hl (fOf x) y (by rw [hx, ← okRec hk]) (fOf_srt x) (fOf_len hk) hy
  rw [if_neg h5] at hg
  by_cases h6 : s.kind = 6
  · rw [if_pos h6] at hg
    cases Option.some.inj hg
    exact rstep6C e bk w f s st ks h6 hf hl x hx
  rw [if_neg h6] at hg
  by_cases h7 : s.kind = 7
  · rw [if_pos h7] at hg
    cases hy : x.kids with
    | nil => rw [hy] at hg; cases hg
    | cons y ys =>
      rw [hy] at hg
      cases Option.some.inj hg
      exact rstep7C e bk w f s st ks h7 hf hl x y ys hx hy
  rw [if_neg h7] at hg
  by_cases h8 : s.kind = 8
  · rw [if_pos h8] at hg
    cases Option.some.inj hg
    exact rstep8C e bk w f s st ks h8 hf hl x hx hls
  rw [if_neg h8] at hg
  by_cases h9 : s.kind = 9
  · rw [if_pos h9] at hg
    by_cases hb : ¬ OkKeys 1 x
    · rw [if_pos hb] at hg; cases hg
    rw [if_neg hb] at hg
    have hk := Classical.not_not.1 hb
    cases hq : wsteps cvR e bk 0 s.subs st ks (fOf x) w with
    | none => rw [hq] at hg; cases hg
    | some q =>
      obtain ⟨g2, w2⟩ := q
      rw [hq] at hg
      simp only [Option.bind_some] at hg
      by_cases hgo2 : FOk g2
      · rw [if_pos hgo2] at hg
        cases Option.some.inj hg
        exact rstep9C e bk w f s st ks h9 hf hl (fOf x) g2 _ (by rw [hx, ← okRec hk]) (fOf_srt x) (fOf_len hk) hS hsl hkl he hq hgo2
      · rw [if_neg hgo2] at hg; cases hg
  rw [if_neg h9] at hg
  by_cases h10 : s.kind = 10
  · rw [if_pos h10] at hg
    by_cases hb : ¬ OkKeys 2 x
    · rw [if_pos hb] at hg; cases hg
    rw [if_neg hb] at hg
    cases hq : foldKids (fun s' g w => wsteps cvR e bk 0 s.subs st (ks ++ [s']) g w) (x.keys.zip x.kids) w with
    | none => rw [hq] at hg; cases hg
    | some q =>
      obtain ⟨ds, w2⟩ := q
      rw [hq] at hg
      cases Option.some.inj hg
      exact rstep10C e bk w f s st ks h10 hf hl x ds _ hx (Classical.not_not.1 hb) hS hsl hkl he hq
  · rw [if_neg h10] at hg; cases hg
theorem turnH_parts (s : Lens) : turnH s = .mk (Lens.turn s).kind (Lens.turn s).a (Lens.turn s).b (Lens.turn s).typ (Lens.turn s).doc (Lens.turn s).swaps s.subs := by
  rw [turn_turnH]
  rfl
theorem Lens.fit.one {l : List Lens} {s : Lens} (h : Lens.fit l) (hs : s ∈ l) : Lens.fit [s] := by
  have hz := Lens.size_mem hs
  obtain ⟨q1, q2, q3, q4⟩ := h.sub hs
  have h1 := h.1
  cases s
  refine ⟨?_, ⟨q1, q2, q3, q4.2⟩, trivial⟩
  simp only [Lens.size, Lens.size1, Lens.subs] at hz h1 ⊢
  omega
set_option maxRecDepth 10000 in
set_option maxHeartbeats 2000000 in
theorem r8stepsC (e : Int) (bk : Bool) : ∀ (m : Nat) (l : List Lens), Lens.size l < m → Lens.fit l → R8StepsC e bk l := by
  intro m
  induction m with
  | zero => intro l hz; exact absurd hz (Nat.not_lt_zero _)
  | succ m ih =>
  intro l hz hfit f st ks w w' g hf hfl hst hks hew hw hgo
  have hlen := hfit.len
  refine fnH Tryz.func140 Tryz.ntmps140 (h := fun S w0 β0 X => ?_)
  refine GO ?_
  refine W.lpG (fun a : Nat × Flds × WS => a.1 ≤ l.length ∧ (a.2.2.err = 0 ∨ a.2.2.err = 8) ∧ wsteps cvR e bk (leftI bk a.1) (left bk a.1 l) st ks a.2.1 a.2.2 = some (g, w')) (fun a => [(11, iT a.1)]) [(0, _), (1, _), (3, _), (4, _), (7, _), (10, _)] (fun a => [(0, rwkO e bk a.2.2.res a.2.2.needs a.2.2.err), (1, .box 29 ((docF (recOf a.2.1)).map C.d))]) [(2, _)] (fun a => l.length - a.1) (0, f, w) (⟨Nat.zero_le _, hew, by cases bk <;> simpa [left, leftI] using hw⟩) (round := fun a hI => ?_)
  clear hf hfl
  obtain ⟨k, f, wk⟩ := a
  obtain ⟨hk, hew2, hws⟩ := hI
  simp only at hk hew2 hws ⊢
  by_cases hlt : k < l.length
  · have hs0 := List.getElem?_eq_getElem hlt
    generalize l[k] = s0 at hs0
    have hjl : leftJ bk k l.length < l.length := by unfold leftJ; split <;> omega
    have hs := List.getElem?_eq_getElem hjl
    generalize l[leftJ bk k l.length] = s at hs
    have hsm := List.mem_of_getElem? hs
    obtain ⟨f1, w1, h1, h2⟩ := wsteps_next hws hlt hs
    have hwo := wstep_wok h1
    have hew1 : w1.err = 0 ∨ w1.err = 8 := by
      rcases wstep_err s (fun i st ks f w p h => wsteps_err _ _ (Nat.le_refl _) _ _ _ _ _ _ h) h1 with h | h
      · have h' : w1.err = wk.err := h
        rw [h']; exact hew2
      · exact .inr h
    rw [wstep_effH] at h1
    obtain ⟨q1, q2, q3, q4⟩ := hfit.sub hsm
    obtain ⟨p1, p2⟩ := effH_parts bk s
    have hz2 := Lens.size_mem hsm
    have hSub : R8StepsC e bk (effH bk s).subs := by rw [p2]; exact ih s.subs (by omega) q4
    have hdo := r8doC e bk (effH bk s) wk w1 f f1 (st ++ [(leftJ bk k l.length : Int)]) ks hSub (by rw [p1]; exact q3) hew2 h1
    rw [show intsD (st ++ [(leftJ bk k l.length : Int)]) = sl 1 (st.map (fun n => [i64 n]) ++ [[i64 (leftJ bk k l.length : Int)]]) by rw [intsD, List.map_append]; rfl] at hdo
    clear h1 hws hSub
    cases bk with
    | false =>
      have : s0 = s := Option.some.inj (hs0.symm.trans hs)
      subst this
      refine GO ?_
      refine Ch.apA (hb := by simp; omega) (r := ?_)
      rw [List.nil_append]
      refine GO ?_
      refine Ch.ch [0, 6] (Con.give hdo (.there (.there (.there .here)))) (r := ?_)
      refine GO ?_
      exact W.ag (k + 1, f1, w1) ⟨hlt, hew1, h2⟩ (by simp only; omega)
    | true =>
      have hj : (l.length : Int) - 1 - k = ((l.length - 1 - k : Nat) : Int) := by omega
      have hs : l[l.length - 1 - k]? = some s := hs
      have hbk : ∀ n, Con Tryz.prog 139 [dT (sl 16 [lensF s])] [] n (dT (sl 16 [lensF (Lens.turn s)])) [] n := fun n => by
        have h := rBackC _ [s] (Nat.lt_succ_self _) (hfit.one hsm) n
        rw [show Lens.back [s] = [Lens.turn s] from rfl, (rowLens [Lens.turn s]).eq, (rowLens [s]).eq] at h
        exact h
      have hdo : Con Tryz.prog 182 [.one (.key 0), agD (lensF (turnH s)), agD (docF (recOf f)), dT (sl 1 (st.map (fun n => [i64 n]) ++ [[i64 ((l.length - 1 - k : Nat) : Int)]])), dT (strsD ks)] [(0, rwkO e true wk.res wk.needs wk.err)] 1 (agD (docF (recOf f1))) [(0, rwkO e true w1.res w1.needs w1.err)] 1 := hdo
      rw [turnH_parts] at hdo
      refine GO ?_
      rw [hj]
      refine GO ?_
      refine Ch.c (hbk) (r := ?_)
      refine GO ?_
      refine Ch.p (OpT.indexA (j := 0) (hj := rfl)) ⟨rfl, rfl, trivial⟩ ?_
      refine GO ?_
      refine Ch.apA (hb := by simp; omega) (r := ?_)
      rw [List.nil_append]
      refine GO ?_
      refine Ch.ch [0, 6] (Con.give hdo (.there (.there (.there .here)))) (r := ?_)
      refine GO ?_
      exact W.ag (k + 1, f1, w1) ⟨hlt, hew1, h2⟩ (by simp only; omega)
  · obtain rfl : k = l.length := by omega
    have hz : left bk l.length l = [] := by unfold left; cases bk <;> simp
    rw [hz, wsteps] at hws
    cases hws
    refine GO ?_
    exact finH (hk := bel0 agD_keys)
end Go.Proofs.YtddddgbboipfeaaGreatDoor
namespace Go.Proofs.YtddddgbboipfeaaGreatDoor
open Go.Sv
set_option maxHeartbeats 2000000 in
set_option maxRecDepth 10000 in
theorem rgoesC (t : Typ) (l : List Lens) (e : Int) (bk : Bool) (s : State) (ht : t.fit) (hfit : Lens.fit l) (hs : StFit s) : ∀ n, Con Tryz.prog 98 [agD (typF t), dT (sl 16 (lensesC l)), iT e, bT bk, agD (stateF s)] [] n (goesU (goesS cvR t l e bk s)) [] n := by
  refine fnI Tryz.func98 Tryz.ntmps98 (h := fun S w0 β0 X => ?_)
  obtain ⟨q, hq⟩ : ∃ q, q = goesS cvR t l e bk s := ⟨_, rfl⟩
  rw [← hq]
  have hT := rtargetC t (effs bk l) ht (effs_fit bk hfit)
  have hB := rBackC (Lens.size l + 1) l (Nat.lt_succ_self _) hfit
  have hW := fun m l hz hf => r8stepsC e bk m l hz hf
  unfold goesS at hq
  have s4 : Stop 4 := ⟨⟩
  refine GO ?_
  refine W.mid 3 [(13, dT (sl 16 (lensesC (effs bk l))))] [(1, _), (2, _), (3, _), (5, _), (9, _), (10, _), (11, _), (12, _)] [] [(0, _), (1, _), (2, _)] (h1 := ?_) (h2 := ?_)
  · cases bk with
    | false =>
      refine GO ?_
      exact W.meet
    | true =>
      refine GO ?_
      refine Ch.c (hB) (r := ?_)
      refine GO ?_
      exact W.meet
  clear s4
  have s5 : Stop 5 := ⟨⟩
  refine GO ?_
  refine Ch.c (hT) (r := ?_)
  refine GO ?_
  clear s5
  by_cases h0 : (Lens.target (effs bk l) t).2 ≠ 0
  · rw [if_pos h0] at hq
    subst hq
    refine GO ?_
    refine W.boxL 2 zS (stateF zeroS) nil_state (h := ?_)
    refine W.less 11 (sl 8 []) rfl (nil_sl 8) ?_
    exact fin3
  rw [if_neg h0] at hq
  have h0' := Classical.not_not.1 h0
  refine GO ?_
  refine Ch.c (rresRightC s.res (fun x hx => (hs.res x hx).2.2)) (r := ?_)
  refine GO ?_
  cases hr : resRight s.res with
  | false =>
    rw [if_pos hr] at hq
    subst hq
    refine GO ?_
    refine W.boxL 2 zS (stateF zeroS) nil_state (h := ?_)
    refine W.less 11 (sl 8 []) rfl (nil_sl 8) ?_
    exact fin3
  | true =>
  rw [if_neg (by rw [hr]; exact nofun)] at hq
  refine GO ?_
  refine Ch.c (risC t s.doc ht hs.doc) (r := ?_)
  refine GO ?_
  cases hi : isOf t s.doc with
  | false =>
    rw [if_pos hi] at hq
    subst hq
    refine GO ?_
    refine W.boxL 2 zS (stateF zeroS) nil_state (h := ?_)
    refine W.less 11 (sl 8 []) rfl (nil_sl 8) ?_
    exact fin3
  | true =>
  rw [if_neg (by rw [hi]; exact nofun)] at hq
  obtain ⟨_, _, hok, ⟨g, w, e1, hwk⟩, _⟩ := walk_goes (ed := e) (bk := bk) cvR_ok hs h0' hr hi
  rw [e1] at hq
  simp only at hq
  have s14 : Stop 14 := ⟨⟩
  have hst := hW (Lens.size l + 1) l (Nat.lt_succ_self _) hfit (fOf s.doc) [] [] ⟨s.res, [], 0⟩ w g (fOf_srt s.doc) (fOf_len hok) (Nat.zero_le _) (Nat.zero_le _) (.inl rfl) e1 hwk.fok
  rw [dF_e (okRec hok).symm] at hst
  replace hst := hst.argL (args := [.one (.key 0), dT (sl 16 (lensesC l)), agD (docF s.doc), dT nilD, dT nilD]) ⟨.refl _, .refl _, .refl _, fun _ _ _ h => nil_sl 1 _ _ h, fun _ _ _ h => nil_sl 1 _ _ h, trivial⟩
  refine GO ?_
  refine Ch.apA (hb := by have := hs.len; simp; omega) (r := ?_)
  rw [List.nil_append]
  refine GO ?_
  refine W.frz 5 (h := ?_)
  refine W.boxL 6 [i64 e, bl bk, sl 8 (s.res.map resF), nilD, i64 0] (wkF e bk s.res [] 0) (nil_wk e bk s.res) (h := ?_)
  clear s14
  refine GO ?_
  refine Ch.ch [6] hst (r := ?_)
  refine GO ?_
  unfold goesEnd at hq
  by_cases h3 : w.err ≠ 0
  · rw [if_pos h3] at hq
    subst hq
    refine GO ?_
    refine W.boxL 2 zS (stateF zeroS) nil_state (h := ?_)
    refine W.less 11 (sl 8 []) rfl (nil_sl 8) ?_
    exact fin3
  rw [if_neg h3] at hq
  refine GO ?_
  refine Ch.c (rresRightC w.res (fun x hx => (hwk.res x hx).2.2)) (r := ?_)
  refine GO ?_
  cases hr2 : resRight w.res with
  | false =>
    rw [if_pos hr2] at hq
    subst hq
    refine GO ?_
    refine W.boxL 2 zS (stateF zeroS) nil_state (h := ?_)
    refine W.less 11 (sl 8 []) rfl (nil_sl 8) ?_
    exact fin3
  | true =>
  rw [if_neg (by rw [hr2]; exact nofun)] at hq
  refine GO ?_
  refine Ch.c (rdocRightC (recOf g) hwk.doc) (r := ?_)
  refine GO ?_
  cases hd : (recOf g).right with
  | false =>
    rw [if_pos hd] at hq
    subst hq
    refine GO ?_
    refine W.boxL 2 zS (stateF zeroS) nil_state (h := ?_)
    refine W.less 11 (sl 8 []) rfl (nil_sl 8) ?_
    exact fin3
  | true =>
  rw [if_neg (by rw [hd]; exact nofun)] at hq
  subst hq
  refine GO ?_
  exact fin3
set_option maxRecDepth 10000 in
theorem rGoC (t : Typ) (l : List Lens) (e : Int) (bk : Bool) (s : State) (ht : t.fit) (hfit : Lens.fit l) (hs : StFit s) : ∀ n, Con Tryz.prog 59 [agD (typF t), dT (sl 16 (lensesC l)), iT e, bT bk, agD (stateF s)] [] n (stU (goS cvR t l e bk s)) [] n := by
  refine fnI Tryz.func59 Tryz.ntmps59 (h := fun S w0 β0 X => ?_)
  refine GO ?_
  refine Ch.c (rgoesC t l e bk s ht hfit hs) (r := ?_)
  refine GO ?_
  exact fin2
set_option maxRecDepth 10000 in
theorem rNeedsC (t : Typ) (l : List Lens) (e : Int) (bk : Bool) (d : Doc) (ht : t.fit) (hfit : Lens.fit l) (hd : d.fit) : ∀ n, Con Tryz.prog 55 [agD (typF t), dT (sl 16 (lensesC l)), iT e, bT bk, agD (docF d)] [] n (dT (sl 8 ((needS cvR t l e bk d).map resF))) [] n := by
  refine fnI Tryz.func55 Tryz.ntmps55 (h := fun S w0 β0 X => ?_)
  have hs : StFit ⟨d, []⟩ := ⟨hd, Nat.zero_le _, nofun⟩
  have hg := fun n => (rgoesC t l e bk ⟨d, []⟩ ht hfit hs n).argL (args := [agD (typF t), dT (sl 16 (lensesC l)), iT e, bT bk, agD (docF d ++ [nilD])]) ⟨.refl _, .refl _, .refl _, .refl _, .ag (nil_docS d), trivial⟩
  have hq := (rfl : needS cvR t l e bk d = needS cvR t l e bk d)
  conv at hq => rhs; rw [needS]
  have he := goes_err (cv := cvR) (t := t) (l := l) (ed := e) (bk := bk) (s := ⟨d, []⟩)
  generalize goesS cvR t l e bk ⟨d, []⟩ = p at *
  refine GO ?_
  refine Ch.c (hg) (r := ?_)
  refine GO ?_
  refine W.cond rfl (fun h0 => ?_) (fun h0 => ?_)
  · refine GO ?_
    refine W.less 10 (sl 8 []) rfl (nil_sl 8) ?_
    rw [hq, he (by simpa using h0)]
    exact fin1
  · rw [hq]
    refine GO ?_
    exact fin1
end Go.Proofs.YtddddgbboipfeaaGreatDoor
namespace Go.Proofs.YtddddgbboipfeaaGreatDoor
open Go.Sv
open Go.RowKit
theorem infoB : (Tryz.prog.info? 4).map (fun i => (i.zero, i.size, i.bytes)) = some (some (.bool false), 1, 1) := by kernel_rfl
theorem OpT.makeB {ops : Array Oper} {d : Tmp} {ty : TypeId} {pos : String} {af : Array Edge} {n m : Nat} {x : Operand} (hm : m ≤ 1000000) : OpT Tryz.prog ops (mkO (some d) (.makeSlice 127 x x) ty pos af) n [(x, iT (m : Int))] [] [] (.one (.key n)) [(n, .row 4 1 (List.replicate m [bl false]))] (n + 1) :=
  .newR rfl (fun l hl => by rw [(List.mem_replicate.1 hl).2]; rfl) fun β V w a hV hin => by
    have e1 := hin _ (List.mem_singleton.2 rfl)
    cases h : Tryz.prog.info? 4 with
    | none => have := infoB; rw [h] at this; cases this
    | some i =>
    have hi := infoB
    rw [h] at hi
    simp only [Option.map_some, Option.some.injEq, Prod.mk.injEq] at hi
    obtain ⟨hz, hs, hb⟩ := hi
    have hr := run_makeSlice (P := Tryz.prog) (w := w) 127 4 i _ Tryz.underlying127 h hz .i64 .i64 m m (by omega) (Int.le_refl _) (by rw [hs]; simp; omega) (by rw [hb]; omega) (by omega)
    have e2 : a.eval x = .int .i64 (m : Int) := e1
    have hmk : madeCells (Value.bool false).cells (m * 1) = (List.replicate m (Value.bool false)).toArray := by
      refine Array.ext (by simp [madeCells]) fun j h1 h2 => ?_
      simp [madeCells, Value.cells, Nat.mod_one]
    refine ⟨(List.replicate m (Value.bool false)).toArray, m, ?_, by simp, by unfold maxLen; omega, by simp, ?_⟩
    · simp only [execOp, e2]
      rw [hs] at hr
      simp only [Int.toNat_natCast, hmk] at hr
      simp [hr]
    · simp only [List.length_replicate, Nat.mul_one]
      rw [List.take_of_length_le (by simp)]
      clear hr hmk e1 e2 hm hin
      induction m with
      | zero => exact trivial
      | succ m ih => exact ⟨rfl, ih⟩
def boolsC (l : List Bool) : List (List D) := l.map fun b => [bl b]
theorem boolsC_len (l : List Bool) : (boolsC l).length = l.length := List.length_map _
theorem boolsC_get {l : List Bool} {k : Nat} {b : Bool} (h : l[k]? = some b) : (boolsC l)[k]? = some [bl b] := by rw [boolsC, List.getElem?_map, h]; rfl
theorem boolsC_set (l : List Bool) (k : Nat) (b : Bool) : (boolsC l).set k [bl b] = boolsC (l.set k b) := by rw [boolsC, boolsC, List.map_set]
set_option maxRecDepth 10000 in
set_option maxHeartbeats 2000000 in
theorem rreachC (r : Registry) (k : Nat) (hr : InR r.schemas.length r.joins) (hn : r.schemas.length ≤ 1000000) (hj : r.joins.length ≤ 1000000) (hk : k < r.schemas.length) : Con Tryz.prog 93 [agD (regF r), iT (k : Int)] [] 0 (.one (.key 0)) [(0, .row 4 1 (boolsC (reachR r.schemas.length r.joins k)))] 1 := by
  refine fnH Tryz.func93 Tryz.ntmps93 (h := fun S w0 β0 X => ?_)
  have hkk : ¬ (k : Int) < 0 := by omega
  refine GO ?_
  refine Ch.nw (OpT.makeB hn) ⟨rfl, trivial⟩ ?_
  refine GO ?_
  refine Ch.gmk (r := ?_)
  refine Ch.gro (h := fun _ => OpT.lenO) (r := ?_)
  refine GO ?_
  refine W.cond rfl (fun hc => ?_) (fun hc => ?_)
  · simp at hc; omega
  rw [show List.replicate r.schemas.length [bl false] = boolsC (List.replicate r.schemas.length false) by rw [boolsC, List.map_replicate]]
  refine GO ?_
  refine Ch.r (OpT.indexW (j := k) (by rw [boolsC_len, List.length_replicate]; exact hk)) ⟨rfl, rfl, trivial⟩ rfl ?_
  refine GO ?_
  refine Ch.storeW (v := [bl true]) (hj := by rw [boolsC_len, List.length_replicate]; exact hk) (r := ?_)
  rw [boolsC_set]
  refine GO ?_
  have hst : (List.replicate r.schemas.length false).set k true = startR r.schemas.length k := rfl
  have hlen : (startR r.schemas.length (k : Int)).length = r.schemas.length := by rw [startR, List.length_set, List.length_replicate]
  have hrr : roundsR r.joins r.schemas.length (startR r.schemas.length (k : Int)) = reachR r.schemas.length r.joins k := by rw [reachR, if_neg (by omega)]
  rw [hst]
  generalize startR r.schemas.length (k : Int) = o0 at *
  generalize reachR r.schemas.length r.joins (k : Int) = R at *
  refine W.lpG (fun a : Nat × List Bool => a.1 ≤ r.schemas.length ∧ a.2.length = r.schemas.length ∧ roundsR r.joins (r.schemas.length - a.1) a.2 = R) (fun a => [(6, iT a.1)]) [(2, _), (4, _), (5, _)] (fun a => [(1, .row 4 1 (boolsC a.2))]) [(0, _)] (fun a => r.schemas.length - a.1) (0, o0) (⟨Nat.zero_le _, hlen, hrr⟩) (round := fun a hI => ?_)
  obtain ⟨q, o⟩ := a
  obtain ⟨hq, hol, hrd⟩ := hI
  simp only at hq hol hrd ⊢
  have hbl : ((boolsC o).length : Int) = (r.schemas.length : Int) := by rw [boolsC_len, hol]
  by_cases hlt : q < r.schemas.length
  · have hlt1 : (q : Int) < ((boolsC o).length : Int) := by omega
    have hrd2 : roundsR r.joins (r.schemas.length - (q + 1)) (roundR r.joins o) = R := by
      rw [show r.schemas.length - q = (r.schemas.length - (q + 1)) + 1 by omega] at hrd
      exact hrd
    refine GO ?_
    refine W.lpG (fun a : Nat × List Bool => a.1 ≤ r.joins.length ∧ a.2.length = r.schemas.length ∧ (r.joins.drop a.1).foldl hitJ a.2 = roundR r.joins o) (fun a => [(7, iT a.1)]) [(2, _), (4, _), (5, _), (6, _)] (fun a => [(1, .row 4 1 (boolsC a.2))]) [(0, _)] (fun a => r.joins.length - a.1) (0, o) (⟨Nat.zero_le _, hol, rfl⟩) (round := fun a hI => ?_)
    clear hbl hlt1
    obtain ⟨i, p⟩ := a
    obtain ⟨hi, hpl, hpr⟩ := hI
    simp only at hi hpl hpr ⊢
    by_cases hlt2 : i < r.joins.length
    · have hj2 := List.getElem?_eq_getElem hlt2
      generalize r.joins[i] = j at hj2
      rw [drop_at hj2, List.foldl_cons] at hpr
      obtain ⟨q1, q2, q3, q4⟩ := hr j (List.mem_of_getElem? hj2)
      obtain ⟨ja, jb, jl⟩ := j
      obtain ⟨ka, hka⟩ := Int.eq_ofNat_of_zero_le q1
      obtain ⟨kb, hkb⟩ := Int.eq_ofNat_of_zero_le q3
      simp only at hka hkb
      subst hka hkb
      simp only at q2 q4
      have ha1 : ka < p.length := by omega
      have hb1 : kb < p.length := by omega
      have ha := List.getElem?_eq_getElem ha1
      generalize p[ka] = ba at ha
      have hb := List.getElem?_eq_getElem hb1
      generalize p[kb] = bb at hb
      have hit : hitJ p ⟨ka, kb, jl⟩ = if (ba || bb) = true then (p.set ka true).set kb true else p := by
        unfold hitJ; simp only [Int.toNat_natCast, ha, hb, Option.getD_some]
      refine GO ?_
      refine Ch.r (OpT.indexW (j := ka) (by rw [boolsC_len]; exact ha1)) ⟨rfl, rfl, trivial⟩ rfl ?_
      refine Ch.r (OpT.loadW1 (boolsC_get ha)) ⟨rfl, trivial⟩ rfl ?_
      refine GO ?_
      refine Ch.gmk (r := ?_)
      refine GO ?_
      refine Ch.gro (h := fun _ => OpT.indexW (j := kb) (by rw [boolsC_len]; exact hb1)) (r := ?_)
      refine Ch.gro (h := fun _ => OpT.loadW1 (boolsC_get hb)) (r := ?_)
      refine GO ?_
      refine W.cond rfl (fun hc2 => ?_) (fun hc2 => ?_)
      · rw [if_pos hc2] at hit
        refine GO ?_
        refine Ch.r (OpT.indexW (j := ka) (by rw [boolsC_len]; exact ha1)) ⟨rfl, rfl, trivial⟩ rfl ?_
        refine Ch.storeW (v := [bl true]) (hj := by rw [boolsC_len]; exact ha1) (r := ?_)
        rw [boolsC_set]
        refine GO ?_
        refine Ch.r (OpT.indexW (j := kb) (by rw [boolsC_len, List.length_set]; exact hb1)) ⟨rfl, rfl, trivial⟩ rfl ?_
        refine Ch.storeW (v := [bl true]) (hj := by rw [boolsC_len, List.length_set]; exact hb1) (r := ?_)
        rw [boolsC_set]
        refine GO ?_
        rw [hit] at hpr
        exact W.ag (i + 1, (p.set ka true).set kb true) ⟨hlt2, by simp [hpl], hpr⟩ (by simp only; omega)
      · rw [if_neg (by rw [hc2]; nofun)] at hit
        refine GO ?_
        rw [hit] at hpr
        exact W.ag (i + 1, p) ⟨hlt2, hpl, hpr⟩ (by simp only; omega)
    · obtain rfl : i = r.joins.length := by omega
      rw [List.drop_length, List.foldl_nil] at hpr
      refine GO ?_
      exact W.ag (q + 1, p) ⟨hlt, hpl, by rw [hpr]; exact hrd2⟩ (by simp only; omega)
  · obtain rfl : q = r.schemas.length := by omega
    have hlt1 : ¬ (r.schemas.length : Int) < ((boolsC o).length : Int) := by omega
    rw [Nat.sub_self, roundsR] at hrd
    subst hrd
    refine GO ?_
    refine W.swap 0 1 (h := ?_)
    exact finH
end Go.Proofs.YtddddgbboipfeaaGreatDoor
namespace Go.Proofs.YtddddgbboipfeaaGreatDoor
open Go.Sv
set_option maxRecDepth 10000 in
set_option maxHeartbeats 2000000 in
theorem raddJC (r : Registry) (a b : Int) (l : List Lens) (hr : InR r.schemas.length r.joins) (hn : r.schemas.length ≤ 1000) (hj : r.joins.length ≤ 1000) (hft : ∀ x ∈ r.schemas, x.typ.fit) (hfl : Lens.fit l) : ∀ n, Con Tryz.prog 52 [agD (regF r), iT a, iT b, dT (sl 16 (lensesC l))] [] n (regU (addJE r a b l)) [] n := by
  refine fnI Tryz.func52 Tryz.ntmps52 (h := fun S w0 β0 X => ?_)
  have hq := (rfl : addJE r a b l = addJE r a b l)
  conv at hq => rhs; rw [addJE]
  refine GO ?_
  refine W.cond rfl (fun h0 => ?_) (fun h0 => ?_)
  · rw [regU_e (hq.trans (if_pos (by simp at h0; omega)))]
    refine GO ?_
    refine W.boxL 1 zR (regF zeroR) nil_reg (h := ?_)
    exact fin2
  have h0 : ¬ (a < 0 ∨ b < 0 ∨ (r.schemas.length : Int) ≤ a ∨ (r.schemas.length : Int) ≤ b) := by simp at h0; omega
  rw [if_neg h0] at hq
  obtain ⟨ai, rfl⟩ := Int.eq_ofNat_of_zero_le (show 0 ≤ a by omega)
  obtain ⟨bi, rfl⟩ := Int.eq_ofNat_of_zero_le (show 0 ≤ b by omega)
  have hrl := reachR_len r.schemas.length r.joins ai
  have hrc := rreachC r ai hr (by omega) (by omega) (by omega)
  generalize reachR r.schemas.length r.joins (ai : Int) = R at *
  have hbl : bi < R.length := by omega
  have hb := List.getElem?_eq_getElem hbl
  generalize R[bi] = bb at hb
  have hx := List.getElem?_eq_getElem (show ai < r.schemas.length by omega)
  generalize r.schemas[ai]'(by omega) = x at hx
  have hy := List.getElem?_eq_getElem (show bi < r.schemas.length by omega)
  generalize r.schemas[bi]'(by omega) = y at hy
  rw [Int.toNat_natCast, Int.toNat_natCast, hb, hx, hy] at hq
  simp only at hq
  have hT := rtargetC x.typ l (hft x (List.mem_of_getElem? hx)) hfl
  refine GO ?_
  refine Ch.ch [] hrc (r := ?_)
  refine GO ?_
  refine Ch.r (OpT.indexW (j := bi) (by rw [boolsC_len]; exact hbl)) ⟨rfl, rfl, trivial⟩ rfl ?_
  refine Ch.r (OpT.loadW1 (boolsC_get hb)) ⟨rfl, trivial⟩ rfl ?_
  refine GO ?_
  cases bb with
  | true =>
    rw [regU_e (hq.trans (if_pos rfl))]
    refine GO ?_
    refine W.boxL 1 zR (regF zeroR) nil_reg (h := ?_)
    exact fin2
  | false =>
  rw [if_neg (by simp)] at hq
  refine GO ?_
  refine Ch.c (hT) (r := ?_)
  refine GO ?_
  have htf : (Lens.target l x.typ).2 = 0 → (Lens.target l x.typ).1.fit := fun h => by
    obtain ⟨g1, _, _, g4⟩ := target_ok h
    rw [g4] at h ⊢
    exact Typ.right_fit (Lens.steps_right l x.typ g1 h)
  generalize Lens.target l x.typ = tg at *
  refine W.cond rfl (fun h1 => ?_) (fun h1 => ?_)
  · rw [regU_e (hq.trans (if_pos (by simpa using h1)))]
    refine GO ?_
    refine W.boxL 1 zR (regF zeroR) nil_reg (h := ?_)
    exact fin2
  rw [if_neg (by simpa using h1)] at hq
  refine GO ?_
  refine Ch.c (rsameTC tg.1 y.typ (htf (by simpa using h1))) (r := ?_)
  refine GO ?_
  cases hs : tg.1.same y.typ with
  | false =>
    rw [regU_e (hq.trans (if_pos hs))]
    refine GO ?_
    refine W.boxL 1 zR (regF zeroR) nil_reg (h := ?_)
    exact fin2
  | true =>
  rw [if_neg (by rw [hs]; exact nofun)] at hq
  rw [regU_e hq]
  refine GO ?_
  refine Ch.apA (hb := by simp; omega) (r := ?_)
  rw [List.nil_append]
  refine GO ?_
  refine Ch.p (OpT.slice1' (hs := asAg (l := joinF ⟨ai, bi, l⟩) rfl)) ⟨rfl, trivial⟩ ?_
  refine GO ?_
  rw [show regU (⟨r.schemas, r.joins ++ [⟨ai, bi, l⟩]⟩, 0) = .tup [.ag [.d (sl 7 (r.schemas.map namedF)), .d (sl 3 (r.joins.map joinF ++ [joinF ⟨ai, bi, l⟩]))], .one (.d (i64 0))] by simp only [regU, regF, List.map_append, List.map_cons, List.map_nil]]
  refine W.frz 6 (h := ?_)
  exact fin2
end Go.Proofs.YtddddgbboipfeaaGreatDoor
namespace Go.Proofs.YtddddgbboipfeaaGreatDoor
open Go.Sv
set_option maxRecDepth 10000 in
set_option maxHeartbeats 2000000 in
theorem rRightC (r : Registry) (h1 : ∀ x ∈ r.schemas, x.typ.fit) (h2 : ∀ j ∈ r.joins, Lens.fit j.lens) (h3 : r.schemas.length ≤ 1000000) (h4 : r.joins.length ≤ 1000000) : ∀ n, Con Tryz.prog 24 [agD (regF r)] [] n (bT (regRight r)) [] n := by
  refine fnI Tryz.func24 Tryz.ntmps24 (h := fun S w0 β0 X => ?_)
  have hp := regRight_eq r
  have hp0 := (rfl : regRight r = regRight r)
  conv at hp0 => rhs; rw [regRight]
  have st : Stop 4 := ⟨⟩
  refine GO ?_
  refine W.cond rfl (fun hc => ?_) (fun hc => ?_)
  · refine GO ?_
    exact finB (he := by rw [hp0]; simp at hc ⊢; grind)
  clear hp0
  refine GO ?_
  clear st
  refine W.boxL 1 zR (regF zeroR) nil_reg (h := ?_)
  refine GO ?_
  refine W.lpG (fun a : Nat × Registry => a.1 ≤ r.schemas.length ∧ OnWay r a.2 ∧ a.2.joins = [] ∧ foldS r.schemas zeroR = foldS (r.schemas.drop a.1) a.2) (fun a => [(4, iT a.1)]) [(1, _), (3, _)] (fun a => [(1, .box 25 ((regF a.2).map C.d))]) [(0, _)] (fun a => r.schemas.length - a.1) (0, zeroR) (⟨Nat.zero_le _, OnWay.zero r, rfl, rfl⟩) (round := fun a hI => ?_)
  obtain ⟨q, x⟩ := a
  obtain ⟨hq, hw, hj0, hf⟩ := hI
  replace hw : OnWay r x := hw
  replace hj0 : x.joins = [] := hj0
  by_cases hlt : q < r.schemas.length
  · have hy := List.getElem?_eq_getElem hlt
    generalize r.schemas[q] = y at hy
    rw [drop_at hy, foldS_next] at hf
    have hya := h1 y (List.mem_of_getElem? hy)
    refine GO ?_
    refine Ch.c (raddSC x y.name y.typ hya (by have := hw.len; omega)) (r := ?_)
    refine GO ?_
    refine W.cond rfl (fun h0 => ?_) (fun h0 => ?_)
    · refine GO ?_
      refine GO ?_
      exact finB (he := by rw [hp, hf, if_neg (by simpa using h0)]; rfl)
    · have h0 : (addSE x y.name y.typ).2 = 0 := by simpa using h0
      rw [if_pos h0] at hf
      obtain ⟨g1, g2⟩ := hw.addS (List.mem_of_getElem? hy) hj0 h0
      refine GO ?_
      exact W.ag (q + 1, (addSE x y.name y.typ).1) ⟨hlt, g1, g2, hf⟩ (by simp only; omega)
  obtain rfl : q = r.schemas.length := by omega
  rw [List.drop_length] at hf
  rw [hf, foldS, Option.bind_some] at hp
  refine GO ?_
  refine W.lpG (fun a : Nat × Registry => a.1 ≤ r.joins.length ∧ OnWay r a.2 ∧ foldJ r.joins x = foldJ (r.joins.drop a.1) a.2) (fun a => [(7, iT a.1)]) [(1, _), (3, _)] (fun a => [(1, .box 25 ((regF a.2).map C.d))]) [(0, _)] (fun a => r.joins.length - a.1) (0, x) (⟨Nat.zero_le _, hw, rfl⟩) (round := fun a hI => ?_)
  clear hw hj0 hf hq
  obtain ⟨q, z⟩ := a
  obtain ⟨hq, hw, hf⟩ := hI
  replace hw : OnWay r z := hw
  by_cases hlt : q < r.joins.length
  · have hy := List.getElem?_eq_getElem hlt
    generalize r.joins[q] = y at hy
    rw [drop_at hy, foldJ_next] at hf
    have hya := h2 y (List.mem_of_getElem? hy)
    refine GO ?_
    refine Ch.c (raddJC z y.from_ y.to y.lens hw.inr (by have := hw.len; omega) (by have := hw.for_.len hw.inr; have := hw.len; omega) (fun u hu => h1 u (hw.sch u hu)) hya) (r := ?_)
    refine GO ?_
    refine W.cond rfl (fun h0 => ?_) (fun h0 => ?_)
    · refine GO ?_
      refine GO ?_
      exact finB (he := by rw [hp, hf, if_neg (by simpa using h0)]; rfl)
    · have h0 : (addJE z y.from_ y.to y.lens).2 = 0 := by simpa using h0
      rw [if_pos h0] at hf
      refine GO ?_
      exact W.ag (q + 1, (addJE z y.from_ y.to y.lens).1) ⟨hlt, hw.addJ h0, hf⟩ (by simp only; omega)
  obtain rfl : q = r.joins.length := by omega
  rw [List.drop_length] at hf
  rw [hf] at hp
  refine GO ?_
  exact finB (he := by rw [hp]; rfl)
end Go.Proofs.YtddddgbboipfeaaGreatDoor
