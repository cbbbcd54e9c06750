/- Part 38 of what TransFills asks: for every input it returns true, and its input reads as it did. No condition. -/
import Derived.Test.YtddddgbboipfeaaGreatDoorPt27
import Derived.Test.YtddddgbboipfeaaGreatDoorPt30
import Derived.Test.YtddddgbboipfeaaGreatDoorPt31
import Derived.Test.YtddddgbboipfeaaGreatDoorPt32
import Derived.Test.YtddddgbboipfeaaGreatDoorPt33
import Derived.Test.YtddddgbboipfeaaGreatDoorPt36
import Derived.Test.YtddddgbboipfeaaGreatDoorPt37
namespace Go.Proofs.YtddddgbboipfeaaGreatDoor
open Go.Sv
set_option maxRecDepth 10000 in
theorem adropC (l : List Res) (ed : Int) (st : List Int) (ks : List Str) (hl : l.length ≤ 1000000) (hf : ∀ x ∈ l, x.fit) : Con Tryz.prog 127 [dT (sl 8 (l.map resF)), iT ed, dT (intsD st), dT (strsD ks)] [] 0 (.one (.key 0)) [(0, .row 50 8 ((resDrop l ed st ks).map resF))] 1 := by
  refine fnH Tryz.func127 Tryz.ntmps127 (h := fun S w0 β0 X => ?_)
  have sp : Stop 3 := ⟨⟩
  refine GO ?_
  refine Ch.c (atC ed st ks) (r := ?_)
  refine GO ?_
  clear sp
  refine W.nilT 10 50 8 (h := ?_)
  refine GO ?_
  refine W.lpG ((· ≤ l.length)) (fun k => [(10, .one (.key 0)), (19, iT k)]) [(8, _), (9, _), (17, _), (18, _)] (fun k => [(0, .row 50 8 ((resDrop (l.take k) ed st ks).map resF))]) [] (l.length - ·) 0 (Nat.zero_le _) (round := fun k hk => ?_)
  have hle := drop_take (l := l) (k := k) ed st ks
  by_cases hlt : k < l.length
  · have hx := List.getElem?_eq_getElem hlt
    generalize l[k] = x at hx
    have hq := filter_take (q := fun x => !(resLess x (placeRes ed st ks) == 0)) hx
    have hl2 : ((resDrop (l.take k) ed st ks).map resF).length ≤ k := by rw [List.length_map]; exact hle
    have hc := at1C ed st ks x
    rw [show firstNZ [cmpI x.edge ed, cmpL cmpI x.step st, cmpL cmpS x.at_ ks] = resLess x (placeRes ed st ks) from resLess_first x (placeRes ed st ks)] at hc
    refine GO ?_
    refine Ch.dy (ts := [agD (resF x)]) (cs := [adr (keyF ed st ks)]) hc (r := ?_)
    refine GO ?_
    by_cases h1 : resLess x (placeRes ed st ks) = 0
    · have h2 : resDrop (l.take (k + 1)) ed st ks = resDrop (l.take k) ed st ks := by rw [resDrop, hq, if_neg (by simpa using h1), List.append_nil]; rfl
      refine GO ?_
      rw [← h2]
      exact W.ag (k + 1) (hlt) (by omega)
    · have h2 : resDrop (l.take (k + 1)) ed st ks = resDrop (l.take k) ed st ks ++ [x] := by rw [resDrop, hq, if_pos (by simpa using h1)]; rfl
      refine GO ?_
      refine Ch.c (copiedC x (hf x (List.mem_of_getElem? hx))) (r := ?_)
      refine GO ?_
      rw [show (resDrop (l.take k) ed st ks).map resF ++ [resF x] = (resDrop (l.take (k + 1)) ed st ks).map resF by rw [h2, List.map_append]; rfl]
      refine W.swap 0 2 (h := ?_)
      exact W.ag (k + 1) (hlt) (by omega)
  · obtain rfl : k = l.length := by omega
    rw [List.take_length]
    refine GO ?_
    exact finH
end Go.Proofs.YtddddgbboipfeaaGreatDoor
namespace Go.Proofs.YtddddgbboipfeaaGreatDoor
open Go.Sv
theorem len_size (l : List Lens) : l.length ≤ Lens.size l := Lens.size_len l
set_option maxRecDepth 10000 in
theorem r7SizeC (l : List Lens) (hs : Lens.size l ≤ 1000000000) : ∀ n, Con Tryz.prog 133 [dT (sl 16 (lensesC l))] [] n (iT (Lens.size l)) [] n := by
  have hz := Lens.size_subs l
  refine fnI Tryz.func133 Tryz.ntmps133 (h := fun S w0 β0 X => ?_)
  refine GO ?_
  refine W.lp ((· ≤ l.length)) (fun k => [(4, iT k), (3, iT (k + Lens.subsSize (l.take k) : Nat))]) [(0, _)] (l.length - ·) 0 (Nat.zero_le _) (round := fun k hk => ?_)
  have hle := subs_take_le l k
  by_cases hlt : k < l.length
  · have hx := List.getElem?_eq_getElem hlt
    generalize l[k] = x at hx
    have hm := sub_size (List.mem_of_getElem? hx)
    have hle2 := subs_take_le l (k + 1)
    have ht := Lens.take_subsSize hx
    refine GO ?_
    refine Ch.c (r7SizeC x.subs (by omega)) (r := ?_)
    refine GO ?_
    rw [show ((k + Lens.subsSize (l.take k) : Nat) : Int) + 1 + Lens.size x.subs = (k + 1 + Lens.subsSize (l.take (k + 1)) : Nat) by rw [ht]; omega]
    exact W.ag (k + 1) (hlt) (by omega)
  · obtain rfl : k = l.length := by omega
    refine GO ?_
    exact finI (he := by rw [List.take_length, hz])
termination_by Lens.size l
set_option maxRecDepth 10000 in
theorem r7DepthC (l : List Lens) (hs : Lens.size l ≤ 1000000000) : ∀ n, Con Tryz.prog 134 [dT (sl 16 (lensesC l))] [] n (iT (Lens.depth l)) [] n := by
  refine fnI Tryz.func134 Tryz.ntmps134 (h := fun S w0 β0 X => ?_)
  by_cases h0 : (l.length : Int) = 0
  · obtain rfl : l = [] := List.eq_nil_of_length_eq_zero (by omega)
    refine GO ?_
    exact finI (he := by rfl)
  have hne : l.length ≠ 0 := by omega
  have hll := len_size l
  have hd := Lens.depth_le _ l (Nat.le_refl _)
  have hd1 : 1 ≤ Lens.depth l := by
    have h1 := Lens.take_depth (List.getElem?_eq_getElem (show 0 < l.length by omega))
    have h2 := Lens.depth_take l (0 + 1)
    omega
  refine GO ?_
  refine W.lp ((· ≤ l.length)) (fun k => [(4, iT k), (3, iT (Lens.depth (l.take k) - 1 : Nat))]) [(0, _)] (l.length - ·) 0 (Nat.zero_le _) (round := fun k hk => ?_)
  have hle := Lens.depth_take l k
  by_cases hlt : k < l.length
  · have hx := List.getElem?_eq_getElem hlt
    generalize l[k] = x at hx
    have hm := sub_size (List.mem_of_getElem? hx)
    have ht := Lens.take_depth hx
    refine GO ?_
    refine Ch.c (r7DepthC x.subs (by omega)) (r := ?_)
    refine GO ?_
    rw [show (if (Lens.depth x.subs : Int) > ((Lens.depth (l.take k) - 1 : Nat) : Int) then (Lens.depth x.subs : Int) else ((Lens.depth (l.take k) - 1 : Nat) : Int)) = (Lens.depth (l.take (k + 1)) - 1 : Nat) by rw [ht]; split <;> omega]
    exact W.ag (k + 1) (hlt) (by omega)
  · obtain rfl : k = l.length := by omega
    rw [List.take_length]
    refine GO ?_
    exact finI (he := by omega)
termination_by Lens.size l
end Go.Proofs.YtddddgbboipfeaaGreatDoor
namespace Go.Proofs.YtddddgbboipfeaaGreatDoor
open Go.Sv
theorem ins_stop (f : Fld) : ∀ (l : List Fld) (k : Nat), k ≤ l.length → (∀ j y, j < k → l[j]? = some y → sLt y.name f.name = true) → (∀ y, l[k]? = some y → sLt y.name f.name = false) → Typ.ins f l = l.take k ++ [f] ++ l.drop k
  | [], k, hk, _, _ => by
    obtain rfl : k = 0 := by simpa using hk
    rfl
  | y :: l, 0, _, _, h => by
    rw [Typ.ins, h y rfl]; rfl
  | y :: l, k + 1, hk, h1, h2 => by
    rw [Typ.ins, h1 0 y (by omega) rfl, if_pos rfl, ins_stop f l k (by simpa using hk) (fun j z hj hz => h1 (j + 1) z (by omega) (by simpa using hz)) (fun z hz => h2 z (by simpa using hz))]
    rfl
set_option maxRecDepth 10000 in
theorem r7withC (t : Typ) (f : Fld) (hl : t.fields.length ≤ 1000000) : ∀ n, Con Tryz.prog 213 [agD (typF t), agD (fldF f)] [] n (agD (typF (t.with_ f))) [] n := by
  refine fnI Tryz.func213 Tryz.ntmps213 (h := fun S w0 β0 X => ?_)
  refine GO ?_
  refine W.lp (fun k => k ≤ t.fields.length ∧ ∀ j y, j < k → t.fields[j]? = some y → sLt y.name f.name = true) (fun k => [(5, iT k)]) [(2, _), (3, _), (4, _)] (t.fields.length - ·) 0 (⟨Nat.zero_le _, fun j y hj => by omega⟩) (round := fun k hk => ?_)
  refine GO ?_
  refine Ch.g (h := fun hg => OpT.indexR (xs := t.fields) (j := k) (v := (t.fields[k]?).getD f) (hj := by simp at hg; simp [hg])) (r := ?_)
  refine GO ?_
  refine W.cond rfl (fun h1 => ?_) (fun h1 => ?_)
  · simp only [Bool.and_eq_true, decide_eq_true_eq] at h1
    have hn : ∀ j y, j < k + 1 → t.fields[j]? = some y → sLt y.name f.name = true := fun j y hj hy => by
      rcases (by omega : j < k ∨ j = k) with h | rfl
      · exact hk.2 j y h hy
      · rw [hy] at h1; exact h1.2
    refine GO ?_
    exact W.ag (k + 1) (⟨by omega, hn⟩) (by omega)
  · have hs := ins_stop f t.fields k hk.1 hk.2 fun y hy => by
      have hlt := (List.getElem?_eq_some_iff.1 hy).1
      rw [hy] at h1
      simp [hlt] at h1
      exact h1
    refine GO ?_
    rw [(rowFlds t.fields).eq]
    refine Ch.p (OpT.upto k (by rw [List.length_map]; exact hk.1)) ⟨rfl, rfl, trivial⟩ ?_
    refine Ch.apA (hb := by simp; omega) (r := ?_)
    refine GO ?_
    refine Ch.p (OpT.slice1' (hs := asAg (l := fldF f) rfl)) ⟨rfl, trivial⟩ ?_
    refine Ch.apA (hb := by simp; omega) (r := ?_)
    refine GO ?_
    rw [(rowFlds t.fields).eq]
    refine Ch.p (OpT.from k (by rw [List.length_map]; exact hk.1)) ⟨rfl, rfl, trivial⟩ ?_
    refine Ch.apA (hb := by simp; omega) (r := ?_)
    refine GO ?_
    rw [show [] ++ (t.fields.map fldF).take k ++ [fldF f] ++ (t.fields.map fldF).drop k = (t.with_ f).fields.map fldF by rw [Typ.with_, hs]; show _ = (t.fields.take k ++ [f] ++ t.fields.drop k).map fldF; rw [List.map_append, List.map_append, List.map_take, List.map_drop]; rfl]
    refine W.frz 6 (h := ?_)
    refine W.nilB 2 3 9 1 (h := ?_)
    refine W.nilB 2 5 62 6 (h := ?_)
    refine W.frz 7 (h := ?_)
    refine W.frz 8 (h := ?_)
    exact fin1 (he := by exact Eq.trans rfl (recT_eq _).symm)
theorem filter_take2 {α : Type} {p : α → Bool} {l : List α} {k : Nat} {x : α} (hx : l[k]? = some x) : (l.take (k + 1)).filter p = (l.take k).filter p ++ if p x then [x] else [] := by
  rw [List.take_add_one, hx, List.filter_append]
  congr 1
  simp [List.filter_cons]
set_option maxRecDepth 10000 in
theorem r7withoutC (t : Typ) (s : Str) (hl : t.fields.length ≤ 1000000) : ∀ n, Con Tryz.prog 214 [agD (typF t), sT s] [] n (agD (typF (t.without s))) [] n := by
  refine fnI Tryz.func214 Tryz.ntmps214 (h := fun S w0 β0 X => ?_)
  have s2 : Stop 2 := ⟨⟩
  refine GO ?_
  clear s2
  refine W.nilB 2 4 66 8 (h := ?_)
  refine GO ?_
  refine W.lpG ((· ≤ t.fields.length)) (fun k => [(6, iT k)]) [(1, _), (2, _), (4, _), (5, _)] (fun k => [(3, .row 66 8 (((t.fields.take k).filter fun x => !(x.name.toList == s.toList)).map fldF))]) [(0, _), (1, _), (2, _)] (t.fields.length - ·) 0 (Nat.zero_le _) (round := fun k hk => ?_)
  by_cases hlt : k < t.fields.length
  · have hx := List.getElem?_eq_getElem hlt
    generalize t.fields[k] = x at hx
    have hft := filter_take2 (p := fun x : Fld => !(x.name.toList == s.toList)) hx
    have hle : ((t.fields.take k).filter fun x : Fld => !(x.name.toList == s.toList)).length ≤ 1000000 := Nat.le_trans (List.length_filter_le ..) (by rw [List.length_take]; omega)
    refine GO ?_
    refine W.cond rfl (fun h => ?_) (fun h => ?_)
    · rw [h, if_pos rfl] at hft
      refine GO ?_
      rw [show ((t.fields.take k).filter fun x => !(x.name.toList == s.toList)).map fldF ++ [List.take 8 (fldF x)] = ((t.fields.take (k + 1)).filter fun x => !(x.name.toList == s.toList)).map fldF by rw [hft, List.map_append]; rfl]
      refine W.swap 3 4 (h := ?_)
      exact W.ag (k + 1) (hlt) (by omega)
    · rw [h, if_neg (by decide), List.append_nil] at hft
      refine GO ?_
      rw [← hft]
      exact W.ag (k + 1) (hlt) (by omega)
  · obtain rfl : k = t.fields.length := by omega
    rw [List.take_length]
    refine GO ?_
    refine W.frz 3 (h := ?_)
    refine W.nilB 1 3 9 1 (h := ?_)
    refine W.nilB 1 5 62 6 (h := ?_)
    refine W.frz 4 (h := ?_)
    refine W.frz 5 (h := ?_)
    exact fin1 (he := by exact Eq.trans rfl (recT_eq _).symm)
end Go.Proofs.YtddddgbboipfeaaGreatDoor
namespace Go.Proofs.YtddddgbboipfeaaGreatDoor
open Go.Sv
theorem rfieldN {t : Typ} {s : Str} (hl : t.fields.length ≤ 1000000) (h : t.find s = none) : ∀ n, Con Tryz.prog 211 [agD (typF t), sT s] [] n (iT (-1)) [] n := fun n => by
  have := rfieldC t s hl n
  rcases find_cases t s with ⟨h1, _⟩ | ⟨j, x, _, _, h3, _⟩
  · rwa [h1] at this
  · rw [h] at h3; cases h3
theorem find_at {t : Typ} {s : Str} {f : Fld} (h : t.find s = some f) : ∃ j : Nat, t.fields[j]? = some f ∧ fieldIdx t s = (j : Int) := by
  rcases find_cases t s with ⟨_, h2⟩ | ⟨j, x, h1, h2, h3, _⟩
  · rw [h2] at h; cases h
  · rw [h3] at h; cases h; exact ⟨j, h1, h2⟩
theorem rfieldS {t : Typ} {s : Str} {j : Nat} (hl : t.fields.length ≤ 1000000) (h : fieldIdx t s = (j : Int)) : ∀ n, Con Tryz.prog 211 [agD (typF t), sT s] [] n (iT (j : Int)) [] n := fun n => by
  have := rfieldC t s hl n
  rwa [h] at this
theorem f_name {t : Typ} {s : Str} {f : Fld} (h : t.find s = some f) (ho : f.opt = false) (x : Typ) : Fld.mk f.name f.opt x = .mk s false x := by rw [(Typ.find_kind h).2, ho]
set_option maxRecDepth 10000 in
theorem r7setC (t : Typ) (s : Str) (x : Typ) (f : Fld) (hl : t.fields.length ≤ 1000000) (hf : t.find s = some f) (ho : f.opt = false) : ∀ n, Con Tryz.prog 216 [agD (typF t), sT s, agD (typF x)] [] n (agD (typF (t.set s x))) [] n := by
  refine fnI Tryz.func216 Tryz.ntmps216 (h := fun S w0 β0 X => ?_)
  obtain ⟨j, hj, hi⟩ := find_at hf
  rw [Typ.set, ← f_name hf ho]
  refine GO ?_
  refine Ch.c (rfieldS hl hi) (r := ?_)
  refine GO ?_
  refine Ch.c (r7withoutC t s hl) (r := ?_)
  refine GO ?_
  refine Ch.c (r7withC (t.without s) (.mk f.name f.opt x) (wo_len t s hl)) (r := ?_)
  refine GO ?_
  exact fin1
def raddT (s : Lens) (t : Typ) : Typ := if addE t s.a s.typ s.doc = 0 then t.with_ (.mk s.a false s.typ) else t
set_option maxRecDepth 10000 in
theorem r7addC (t : Typ) (s : Lens) (hl : t.fields.length ≤ 1000000) (hs : s.typ.fit) (hd : s.doc.fit) : ∀ n, Con Tryz.prog 210 [agD (typF t), agD (lensF s)] [] n (recU (raddT s t) (addE t s.a s.typ s.doc)) [] n := by
  refine fnI Tryz.func210 Tryz.ntmps210 (h := fun S w0 β0 X => ?_)
  refine GO ?_
  refine Ch.c (rnameC s.a) (r := ?_)
  refine GO ?_
  refine W.cond rfl (fun h1 => ?_) (fun h1 => ?_)
  · rw [recU_e (t := t) (e := 1) (by grind [raddT, addE]) (by grind [addE])]
    refine GO ?_
    exact fin2
  cases hf : t.find s.a with
  | some f =>
    obtain ⟨j, _, hi⟩ := find_at hf
    have hj : ¬ ((j : Int) < 0) := by omega
    rw [recU_e (t := t) (e := 5) (by grind [raddT, addE]) (by grind [addE])]
    refine GO ?_
    refine Ch.c (rfieldS hl hi) (r := ?_)
    refine GO ?_
    exact fin2
  | none =>
    refine GO ?_
    refine Ch.c (rfieldN hl hf) (r := ?_)
    refine GO ?_
    refine Ch.c (rrightTC s.typ hs) (r := ?_)
    refine GO ?_
    refine Ch.gc (hc := fun _ => rscalarTC s.typ) (r := ?_)
    refine GO ?_
    refine W.cond rfl (fun h2 => ?_) (fun h2 => ?_)
    · rw [recU_e (t := t) (e := 7) (by grind [raddT, addE, scalarE]) (by grind [addE, scalarE])]
      refine GO ?_
      exact fin2
    refine GO ?_
    refine Ch.c (risC s.typ s.doc hs hd) (r := ?_)
    refine GO ?_
    refine W.cond rfl (fun h3 => ?_) (fun h3 => ?_)
    · rw [recU_e (t := t) (e := 8) (by grind [raddT, addE, scalarE]) (by grind [addE, scalarE])]
      refine GO ?_
      exact fin2
    rw [recU_e (t := t.with_ (.mk s.a false s.typ)) (e := 0) (by grind [raddT, addE, scalarE]) (by grind [addE, scalarE])]
    refine GO ?_
    refine Ch.c (r7withC t (.mk s.a false s.typ) hl) (r := ?_)
    refine GO ?_
    exact fin2
set_option maxRecDepth 10000 in
theorem r7move4C (t : Typ) (f : Fld) (s : Lens) (ht : t.right = true) (hf : t.find s.a = some f) (ho : f.opt = false) (k4 : s.kind = 4) : ∀ n, Con Tryz.prog 215 [agD (typF t), agD (lensF s), agD (typF f.typ)] [] n (recU (hoiT t f s.a s.b) (hoistE t f s.b)) [] n := by
  refine fnI Tryz.func215 Tryz.ntmps215 (h := fun S w0 β0 X => ?_)
  have hr := Typ.find_typ ht hf
  have hl := Typ.right_len ht
  have hl2 := Typ.right_len hr
  obtain ⟨hk, hn⟩ := Typ.find_kind hf
  refine GO ?_
  refine W.cond rfl (fun h => ?_) (fun h => ?_)
  · have h : f.typ.kind ≠ 1 := by grind
    rw [recU_e (t := t) (e := 7) (by grind [hoiT, hoistE]) (by grind [hoistE])]
    refine GO ?_
    exact fin2
  have h : f.typ.kind = 1 := by grind
  cases hb : f.typ.find s.b with
  | none =>
    rw [recU_e (t := t) (e := 9) (by grind [hoiT, hoistE]) (by grind [hoistE])]
    refine GO ?_
    refine Ch.c (rfieldN hl2 hb) (r := ?_)
    refine GO ?_
    exact fin2
  | some o =>
    obtain ⟨j, hj, hi⟩ := find_at hb
    have hj0 : ¬ ((j : Int) < 0) := by omega
    refine GO ?_
    refine Ch.c (rfieldS hl2 hi) (r := ?_)
    refine GO ?_
    refine W.cond rfl (fun h2 => ?_) (fun h2 => ?_)
    · rw [recU_e (t := t) (e := 7) (by grind [hoiT, hoistE]) (by grind [hoistE])]
      refine GO ?_
      exact fin2
    cases hg : t.find s.b with
    | some g =>
      obtain ⟨i, _, hii⟩ := find_at hg
      have hi0 : ¬ ((i : Int) < 0) := by omega
      rw [recU_e (t := t) (e := 5) (by grind [hoiT, hoistE]) (by grind [hoistE])]
      refine GO ?_
      refine Ch.c (rfieldS hl hii) (r := ?_)
      refine GO ?_
      exact fin2
    | none =>
      have h0 : hoistE t f s.b = 0 := by grind [hoistE]
      rw [recU_e (t := (t.set s.a (f.typ.without s.b)).with_ o) (e := 0) (by rw [hoiT, if_pos h0, hoistT, hb]) h0]
      refine GO ?_
      refine Ch.c (rfieldN hl hg) (r := ?_)
      refine GO ?_
      refine Ch.c (r7withoutC f.typ s.b hl2) (r := ?_)
      refine GO ?_
      refine Ch.c (r7setC t s.a (f.typ.without s.b) f hl hf ho) (r := ?_)
      refine GO ?_
      refine Ch.c (r7withC (t.set s.a (f.typ.without s.b)) o (Nat.le_trans (set_len ..) (by have := right_len ht; omega))) (r := ?_)
      refine GO ?_
      exact fin2
set_option maxRecDepth 10000 in
theorem r7move5C (t : Typ) (f : Fld) (s : Lens) (ht : t.right = true) (hf : t.find s.a = some f) (ho : f.opt = false) (k5 : s.kind = 5) : ∀ n, Con Tryz.prog 215 [agD (typF t), agD (lensF s), agD (typF f.typ)] [] n (recU (pluT t f s.a s.b) (plungeE t f s.a s.b)) [] n := by
  refine fnI Tryz.func215 Tryz.ntmps215 (h := fun S w0 β0 X => ?_)
  have hr := Typ.find_typ ht hf
  have hl := Typ.right_len ht
  have hl2 := Typ.right_len hr
  obtain ⟨hk, hn⟩ := Typ.find_kind hf
  have k4 : ¬ s.kind = 4 := by omega
  cases hb : t.find s.b with
  | none =>
    rw [recU_e (t := t) (e := 9) (by grind [pluT, plungeE]) (by grind [plungeE])]
    refine GO ?_
    refine Ch.c (rfieldN hl hb) (r := ?_)
    refine GO ?_
    exact fin2
  | some o =>
    obtain ⟨j, hj, hi⟩ := find_at hb
    have hj0 : ¬ ((j : Int) < 0) := by omega
    refine GO ?_
    refine Ch.c (rfieldS hl hi) (r := ?_)
    refine GO ?_
    refine W.cond rfl (fun h => ?_) (fun h => ?_) <;> simp only [toList_beq] at h
    · rw [recU_e (t := t) (e := 7) (by grind [pluT, plungeE]) (by grind [plungeE])]
      refine GO ?_
      exact fin2
    have h1 : f.typ.kind = 1 := by grind
    cases hg : f.typ.find s.b with
    | some g =>
      obtain ⟨i, _, hii⟩ := find_at hg
      have hi0 : ¬ ((i : Int) < 0) := by omega
      rw [recU_e (t := t) (e := 5) (by grind [pluT, plungeE]) (by grind [plungeE])]
      refine GO ?_
      refine Ch.c (rfieldS hl2 hii) (r := ?_)
      refine GO ?_
      exact fin2
    | none =>
      have h0 : plungeE t f s.a s.b = 0 := by grind [plungeE]
      rw [recU_e (t := (t.set s.a (f.typ.with_ o)).without s.b) (e := 0) (by rw [pluT, if_pos h0, plungeT, hb]) h0]
      refine GO ?_
      refine Ch.c (rfieldN hl2 hg) (r := ?_)
      refine GO ?_
      refine Ch.c (r7withC f.typ o hl2) (r := ?_)
      refine GO ?_
      refine Ch.c (r7setC t s.a (f.typ.with_ o) f hl hf ho) (r := ?_)
      refine GO ?_
      refine Ch.c (r7withoutC (t.set s.a (f.typ.with_ o)) s.b (Nat.le_trans (set_len ..) (by have := right_len ht; omega))) (r := ?_)
      refine GO ?_
      exact fin2
end Go.Proofs.YtddddgbboipfeaaGreatDoor
namespace Go.Proofs.YtddddgbboipfeaaGreatDoor
open Go.Sv
theorem swapNums_at : ∀ (l : List (Int × Int)) (i : Nat), i < 2 * l.length → ∃ p, l[i / 2]? = some p ∧ (swapNums l)[i]? = some (if i % 2 = 0 then p.1 else p.2)
  | [], i, h => by simp at h
  | p :: l, 0, _ => ⟨p, rfl, rfl⟩
  | p :: l, 1, _ => ⟨p, rfl, rfl⟩
  | p :: l, i + 2, h => by
    obtain ⟨q, h1, h2⟩ := swapNums_at l i (by simp at h; omega)
    refine ⟨q, ?_, ?_⟩
    · rw [show (i + 2) / 2 = i / 2 + 1 by omega]; simpa using h1
    · rw [show (i + 2) % 2 = i % 2 by omega]; exact h2
theorem swapF_at (p : Int × Int) (i : Nat) : (swapF p)[i % 2]? = some (i64 (if i % 2 = 0 then p.1 else p.2)) := by
  rcases (by omega : i % 2 = 0 ∨ i % 2 = 1) with h | h <;> rw [h] <;> rfl
theorem swapNums_l2 (l : List (Int × Int)) : (swapNums l).length = 2 * l.length := by
  induction l with
  | nil => rfl
  | cons p l ih => rw [swapNums, List.flatMap_cons, List.length_append]; rw [swapNums] at ih; rw [ih]; simp; omega
theorem nodup_up {l : List Int} {k : Nat} {x : Int} (hx : l[k]? = some x) (h : (l.take k).Nodup) (hn : x ∉ l.take k) : (l.take (k + 1)).Nodup := by
  rw [List.take_add_one, hx]
  exact List.nodup_append.2 ⟨h, by simp, fun a ha b hb e => hn (by simp at hb; rw [← hb, ← e]; exact ha)⟩
theorem nodup_not {l : List Int} {k j : Nat} {x : Int} (hj : j < k) (hx : l[k]? = some x) (hy : l[j]? = some x) : ¬ l.Nodup := fun h => by
  have := (List.getElem?_inj (by exact (List.getElem?_eq_some_iff.1 hy).1) h).1 (hy.trans hx.symm)
  omega
set_option maxRecDepth 10000 in
theorem r7swapsC (l : List (Int × Int)) (t : Typ) (hl : l.length ≤ 1000000) : ∀ n, Con Tryz.prog 217 [dT (sl 2 (l.map swapF)), agD (typF t)] [] n (iT (swapsE l t)) [] n := by
  refine fnI Tryz.func217 Tryz.ntmps217 (h := fun S w0 β0 X => ?_)
  have hlen := swapNums_l2 l
  refine GO ?_
  refine W.cond rfl (fun h => ?_) (fun h => ?_)
  · refine GO ?_
    exact finI (he := by rw [swapsE, if_pos (by simp at h; omega)])
  have hb : ¬ (l.length = 0 ∨ 32 < l.length) := by simp at h; omega
  clear h
  refine GO ?_
  refine W.lp (fun k => k ≤ 2 * l.length ∧ ((swapNums l).take k).Nodup) (fun k => [(4, iT 0), (5, iT k)]) [(0, _), (3, _)] (2 * l.length - ·) 0 (⟨Nat.zero_le _, by simp⟩) (round := fun k hk => ?_)
  by_cases hlt : k < 2 * l.length
  · obtain ⟨p, hp, hx⟩ := swapNums_at l k hlt
    refine GO ?_
    refine W.lp (fun j => j ≤ k ∧ (if k % 2 = 0 then p.1 else p.2) ∉ (swapNums l).take j) (fun j => [(4, iT 0), (6, iT j)]) [(0, _), (3, _), (5, _), (17, _), (18, _), (19, _), (20, _), (21, _)] (k - ·) 0 (⟨Nat.zero_le _, by simp⟩) (round := fun j hj => ?_)
    by_cases hlj : j < k
    · obtain ⟨q, hq, hy⟩ := swapNums_at l j (by omega)
      refine GO ?_
      refine Ch.p (OpT.quo2 (by omega)) ⟨rfl, trivial⟩ ?_
      refine GO ?_
      refine Ch.p OpT.rem2 ⟨rfl, trivial⟩ ?_
      refine GO ?_
      refine Ch.p (OpT.idxArr (k % 2) rfl (by omega) (swapF_at p k) Tryz.underlying171) ⟨rfl, rfl, trivial⟩ ?_
      refine GO ?_
      refine Ch.p (OpT.quo2 (by omega)) ⟨rfl, trivial⟩ ?_
      refine GO ?_
      refine Ch.p OpT.rem2 ⟨rfl, trivial⟩ ?_
      refine GO ?_
      refine Ch.p (OpT.idxArr (j % 2) rfl (by omega) (swapF_at q j) Tryz.underlying171) ⟨rfl, rfl, trivial⟩ ?_
      refine GO ?_
      refine W.cond rfl (fun h => ?_) (fun h => ?_)
      · have h := of_decide_eq_true h
        refine GO ?_
        exact finI (he := by rw [swapsE, if_pos (.inr (.inr (nodup_not hlj hx (by rw [hy, h]))))])
      · have h := of_decide_eq_false h
        have hn : (if k % 2 = 0 then p.1 else p.2) ∉ (swapNums l).take (j + 1) := by
          rw [List.take_add_one, hy]
          simp only [Option.toList_some, List.mem_append, List.mem_singleton, not_or]
          exact ⟨hj.2, h⟩
        refine GO ?_
        exact W.ag (j + 1) (⟨hlj, hn⟩) (by omega)
    · obtain rfl : j = k := by omega
      refine GO ?_
      exact W.ag (j + 1) (⟨hlt, nodup_up hx hk.2 hj.2⟩) (by omega)
  · obtain rfl : k = 2 * l.length := by omega
    have hnd := hk.2
    rw [List.take_of_length_le (by omega)] at hnd
    have hV : swapsE l t = if (swapNums l).any (fun n => decide (n < t.lo) || decide (t.hi < n)) then 8 else 0 := by rw [swapsE, if_neg (by simp only [not_or, Classical.not_not] at hb ⊢; exact ⟨hb.1, hb.2, hnd⟩)]
    rw [hV]
    refine GO ?_
    refine W.lp (fun j => j ≤ 2 * l.length ∧ ((swapNums l).take j).any (fun n => decide (n < t.lo) || decide (t.hi < n)) = false) (fun j => [(4, iT 0), (7, iT j)]) [(0, _), (3, _)] (2 * l.length - ·) 0 (⟨Nat.zero_le _, by simp⟩) (round := fun j hj => ?_)
    by_cases hlj : j < 2 * l.length
    · obtain ⟨q, hq, hy⟩ := swapNums_at l j hlj
      refine GO ?_
      refine Ch.p (OpT.quo2 (by omega)) ⟨rfl, trivial⟩ ?_
      refine GO ?_
      refine Ch.p OpT.rem2 ⟨rfl, trivial⟩ ?_
      refine GO ?_
      refine Ch.p (OpT.idxArr (j % 2) rfl (by omega) (swapF_at q j) Tryz.underlying171) ⟨rfl, rfl, trivial⟩ ?_
      refine GO ?_
      refine W.cond rfl (fun h => ?_) (fun h => ?_)
      · refine GO ?_
        exact finI (he := by rw [if_pos (List.any_eq_true.2 ⟨_, List.mem_of_getElem? hy, h⟩)])
      · refine GO ?_
        exact W.ag (j + 1) (⟨hlj, by rw [List.take_add_one, hy, List.any_append, hj.2]; simpa using h⟩) (by omega)
    · obtain rfl : j = 2 * l.length := by omega
      have hn := hj.2
      rw [List.take_of_length_le (by omega)] at hn
      refine GO ?_
      exact finI (he := by rw [hn]; rfl)
end Go.Proofs.YtddddgbboipfeaaGreatDoor
namespace Go.Proofs.YtddddgbboipfeaaGreatDoor
open Go.Sv
set_option maxRecDepth 10000 in
theorem rsameTC (t u : Typ) (hf : t.fit) : ∀ n, Con Tryz.prog 95 [agD (typF t), agD (typF u)] [] n (bT (t.same u)) [] n := by
  have hs := Typ.same_parts t u
  have hn := hf.names
  have h8 := hf.fields
  have h9 := hf.of
  refine fnI Tryz.func95 Tryz.ntmps95 (h := fun S w0 β0 X => ?_)
  refine GO ?_
  refine Ch.gc (hc := fun _ => rrowsC t.names u.names hn) (r := ?_)
  refine GO ?_
  refine W.cond rfl (fun h1 => ?_) (fun h1 => ?_)
  · refine GO ?_
    exact finB (he := by rw [hs]; by_cases e1 : t.fields.length = u.fields.length <;> by_cases e2 : t.of.length = u.of.length <;> simp [eqF_false, e1, e2] at h1 ⊢ <;> grind)
  have hq : (t.fields.length : Int) = u.fields.length ∧ (t.of.length : Int) = u.of.length ∧ t.same u = (eqF Typ.sameF t.fields u.fields && eqF Typ.same t.of u.of) := by
    simp only [Bool.or_eq_false_iff, Bool.not_eq_false', decide_eq_true_eq] at h1
    obtain ⟨⟨⟨⟨⟨a, b⟩, c⟩, d⟩, e⟩, f⟩ := h1
    exact ⟨d, e, by rw [hs]; simp [a, b, c, f]⟩
  obtain ⟨q1, q2, hs⟩ := hq
  refine GO ?_
  refine W.lp (fun k => k ≤ t.fields.length ∧ eqF Typ.sameF (t.fields.drop k) (u.fields.drop k) = eqF Typ.sameF t.fields u.fields) (fun k => [(5, iT k)]) [(2, _), (3, _)] (t.fields.length - ·) 0 (⟨Nat.zero_le _, rfl⟩) (round := fun k hk => ?_)
  by_cases hlt : k < t.fields.length
  · have hx := List.getElem?_eq_getElem hlt
    generalize t.fields[k] = x at hx
    have hmm := List.mem_of_getElem? hx
    have hy := List.getElem?_eq_getElem (show k < u.fields.length by omega)
    generalize u.fields[k]'(by omega) = y at hy
    have he := eqF_drop (g := Typ.sameF) hx hy
    rw [Typ.sameF_parts] at he
    refine GO ?_
    refine Ch.g (h := fun _ => OpT.indexR (hj := hx)) (r := ?_)
    refine GO ?_
    refine Ch.g (h := fun _ => OpT_neB Tryz.underlying4) (r := ?_)
    refine GO ?_
    refine Ch.g (h := fun _ => OpT.indexR (hj := hx)) (r := ?_)
    refine GO ?_
    refine Ch.gc (hc := fun _ => rsameTC x.typ y.typ (hf.fld hmm)) (r := ?_)
    refine GO ?_
    refine W.cond rfl (fun h2 => ?_) (fun h2 => ?_)
    · refine GO ?_
      exact finB (he := by rw [hs, ← hk.2, he]; simp at h2; grind)
    · refine GO ?_
      exact W.ag (k + 1) (⟨hlt, by rw [← hk.2, he]; simp at h2; simp [h2]⟩) (by omega)
  obtain rfl : k = t.fields.length := by omega
  have h3 := hk.2
  rw [List.drop_length, show t.fields.length = u.fields.length by omega, List.drop_length] at h3
  rw [← h3, eqF, Bool.true_and] at hs
  refine GO ?_
  refine W.lp (fun k => k ≤ t.of.length ∧ eqF Typ.same (t.of.drop k) (u.of.drop k) = eqF Typ.same t.of u.of) (fun k => [(6, iT k)]) [(2, _), (3, _)] (t.of.length - ·) 0 (⟨Nat.zero_le _, rfl⟩) (round := fun k hk => ?_)
  by_cases hlt : k < t.of.length
  · have hx := List.getElem?_eq_getElem hlt
    generalize t.of[k] = x at hx
    have hmm := List.mem_of_getElem? hx
    have hy := List.getElem?_eq_getElem (show k < u.of.length by omega)
    generalize u.of[k]'(by omega) = y at hy
    have he := eqF_drop (g := Typ.same) hx hy
    refine GO ?_
    refine Ch.c (rsameTC x y (hf.kid hmm)) (r := ?_)
    refine GO ?_
    cases h4 : x.same y
    · refine GO ?_
      exact finB (he := by rw [hs, ← hk.2, he, h4]; rfl)
    · refine GO ?_
      exact W.ag (k + 1) (⟨hlt, by rw [← hk.2, he, h4, Bool.true_and]⟩) (by omega)
  · obtain rfl : k = t.of.length := by omega
    refine GO ?_
    exact finB (he := by rw [hs, ← hk.2, List.drop_length, show t.of.length = u.of.length by omega, List.drop_length]; rfl)
termination_by t.size
decreasing_by
  all_goals first | exact fld_size (by assumption) | exact of_size (by assumption)
end Go.Proofs.YtddddgbboipfeaaGreatDoor
