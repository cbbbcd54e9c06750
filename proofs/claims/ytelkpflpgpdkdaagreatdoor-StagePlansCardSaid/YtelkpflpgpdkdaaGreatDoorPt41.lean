/- Part 41 of what StageOrder and StagePlans ask: for every input each returns true, and its input reads as it did. No condition. -/
import Derived.Test.YtelkpflpgpdkdaaGreatDoorPt29
import Derived.Test.YtelkpflpgpdkdaaGreatDoorPt30
import Derived.Test.YtelkpflpgpdkdaaGreatDoorPt32
import Derived.Test.YtelkpflpgpdkdaaGreatDoorPt36
import Derived.Test.YtelkpflpgpdkdaaGreatDoorPt37
import Derived.Test.YtelkpflpgpdkdaaGreatDoorPt40
namespace Go.Proofs.YtelkpflpgpdkdaaGreatDoor
open Go.Sv
set_option maxRecDepth 10000
set_option maxRecDepth 10000 in
set_option maxHeartbeats 2000000 in
theorem insertFC (ls : List (List D)) (x0 x1 x2 x3 x4 x5 x6 x7 : D) (i : Nat) (hi : i ≤ ls.length) (hn : ls.length ≤ 1000000) : Con Tryz.prog 79 [.one (.key 0), iT i, .one (.key 1)] [(0, .row 99 8 ls), (1, .row 99 8 [[x0, x1, x2, x3, x4, x5, x6, x7]])] 2 (.one (.key 2)) [(2, .row 99 8 (ls.take i ++ [[x0, x1, x2, x3, x4, x5, x6, x7]] ++ ls.drop i))] 3 := by
  refine fnH Tryz.func79 Tryz.ntmps79 (h := fun S w0 β0 X => ?_)
  have s7 : Stop 7 := ⟨⟩
  have s8 : Stop 8 := ⟨⟩
  refine GO ?_
  refine Ch.r (OpT.fromN hi) ⟨rfl, rfl, trivial⟩ rfl ?_
  refine GO ?_
  by_cases hin : i = ls.length
  · subst hin
    refine W.cond rfl (fun h2 => ?_) (fun h2 => ?_)
    rotate_left
    · exact absurd h2 (by simp)
    refine W.frz 1 (h := ?_)
    clear s7
    refine GO ?_
    rw [List.take_length, List.drop_length, List.append_nil]
    exact finH
  have hi : i < ls.length := by omega
  refine W.cond rfl (fun h2 => ?_) (fun h2 => ?_)
  · exact absurd h2 (by simp; omega)
  refine W.cap (ls := ls) 0 (by omega) (h := fun c hc hc2 => ?_)
  clear s7 s8
  have s9 : Stop 9 := ⟨⟩
  have s10 : Stop 10 := ⟨⟩
  have s13 : Stop 13 := ⟨⟩
  rw [show (([[x0, x1, x2, x3, x4, x5, x6, x7]] : List (List D)).length : Int) = 1 from rfl]
  refine GO ?_
  refine Ch.r (OpT.capC (ls := ls) (m := 0) (c := c)) ⟨rfl, trivial⟩ rfl ?_
  refine GO ?_
  by_cases hg : c < ls.length + 1
  · refine W.cond rfl (fun h3 => ?_) (fun h3 => ?_)
    rotate_left
    · exact absurd h3 (by simp; omega)
    clear s9
    refine GO ?_
    refine Ch.r (OpT.uptoC (ls := ls) (m := 0) (c := c) (i := i) (by omega)) ⟨rfl, rfl, trivial⟩ rfl ?_
    refine GO ?_
    rw [show (ls.length : Int) + 1 - i = ((ls.length + 1 - i : Nat) : Int) by omega]
    refine Ch.nr (OpT.appendZ (ls := ls) (m := 0) (i := i) (c := c) (zc := ls.length + 1 - i) (by omega) (by omega) (by omega) (by omega)) ⟨rfl, rfl, trivial⟩ (r := ?_)
    refine GO ?_
    refine W.cap (ls := [[x0, x1, x2, x3, x4, x5, x6, x7]]) 1 (by simp) (h := fun c1 hc1 hc3 => ?_)
    refine W.hdr 2 1 (ls := [[x0, x1, x2, x3, x4, x5, x6, x7]]) (h := ?_)
    generalize hzz : Sv.zeroD _ = z
    have hzl : (ls.take i ++ List.replicate (ls.length + 1 - i) z).length = ls.length + 1 := by rw [List.length_append, List.length_take, List.length_replicate]; omega
    refine W.cap (ls := ls.take i ++ List.replicate (ls.length + 1 - i) z) 2 (by omega) (h := fun c2 hc4 hc5 => ?_)
    clear s10
    have s11 : Stop 11 := ⟨⟩
    refine GO ?_
    refine Ch.r (OpT.fromC (ls := ls.take i ++ List.replicate (ls.length + 1 - i) z) (m := 0) (i := i) (by omega)) ⟨rfl, rfl, trivial⟩ rfl ?_
    refine GO ?_
    refine Ch.wr1 (OpT.copyS (ls := ls.take i ++ List.replicate (ls.length + 1 - i) z) (ls2 := [[x0, x1, x2, x3, x4, x5, x6, x7]]) (κ2 := 1) (i := i) (i2 := 0) (cnt := 1) (by decide) (by simp) (by omega) (by rw [hzl]; simp only [Nat.min_def, List.length_singleton]; split <;> omega)) ⟨rfl, rfl, trivial⟩ (r := ?_)
    rw [List.drop_zero, List.take_of_length_le (show ([[x0, x1, x2, x3, x4, x5, x6, x7]] : List (List D)).length ≤ 1 by simp), ins_grow hi rfl]
    refine GO ?_
    have hyl : (ls.take i ++ [[x0, x1, x2, x3, x4, x5, x6, x7]] ++ List.replicate (ls.length - i) z).length = ls.length + 1 := by rw [List.length_append, List.length_append, List.length_take, List.length_replicate, List.length_singleton]; omega
    clear s11
    refine GO ?_
    refine Ch.r (OpT.fromC (ls := ls.take i ++ [[x0, x1, x2, x3, x4, x5, x6, x7]] ++ List.replicate (ls.length - i) z) (m := 0) (i := i + 1) (by omega)) ⟨rfl, rfl, trivial⟩ rfl ?_
    refine GO ?_
    refine Ch.r (OpT.fromC (ls := ls) (m := 0) (i := i) (by omega)) ⟨rfl, rfl, trivial⟩ rfl ?_
    refine Ch.wr1 (OpT.copyS (ls := ls.take i ++ [[x0, x1, x2, x3, x4, x5, x6, x7]] ++ List.replicate (ls.length - i) z) (ls2 := ls) (κ2 := 0) (i := i + 1) (i2 := i) (cnt := ls.length - i) (by decide) (by omega) (by omega) (by rw [hyl]; simp only [Nat.min_def]; split <;> omega)) ⟨rfl, rfl, trivial⟩ (r := ?_)
    rw [ins_grow2 hi]
    refine GO ?_
    refine W.uncap 2 (h := ?_)
    exact finH
  · refine W.cond rfl (fun h3 => ?_) (fun h3 => ?_)
    · exact absurd h3 (by simp; omega)
    clear s13
    have s16 : Stop 16 := ⟨⟩
    refine GO ?_
    refine Ch.wk (OpT.growC (ls := ls) (m := 0) (c := c) (i := ls.length + 1) (m' := 1) rfl (by omega)) ⟨rfl, rfl, trivial⟩ (r := ?_)
    refine GO ?_
    refine Ch.r (OpT.fromC (ls := ls) (m := 1) (c := c) (i := i + 1) (by omega)) ⟨rfl, rfl, trivial⟩ rfl ?_
    refine Ch.r2 (OpT.apart (ls := ls) (l := [x0, x1, x2, x3, x4, x5, x6, x7]) (κ := 2) (κ2 := 1) (tr := 4) (fun args w => by rw [run_callFunc_extern Tryz.func113 (by kernel_rfl) (by kernel_rfl) (by kernel_rfl) (e := Extern.SlicesOverlaps.overlaps #[61, 61] #[4]) (by kernel_rfl)]) (by decide) (by omega)) ⟨rfl, rfl, trivial⟩ (r := ?_)
    refine GO ?_
    refine Ch.r (OpT.fromC (ls := ls) (m := 1) (c := c) (i := i + 1) (by omega)) ⟨rfl, rfl, trivial⟩ rfl ?_
    refine GO ?_
    refine Ch.r (OpT.fromC (ls := ls) (m := 1) (c := c) (i := i) (by omega)) ⟨rfl, rfl, trivial⟩ rfl ?_
    refine Ch.wr0 (OpT.copyU (ls := ls) (c := c) (i := i) (cnt := ls.length - i) hi rfl (by omega) (by omega) rfl) ⟨rfl, rfl, trivial⟩ (r := ?_)
    refine GO ?_
    refine W.cap (ls := [[x0, x1, x2, x3, x4, x5, x6, x7]]) 1 (by simp) (h := fun c1 hc1 hc3 => ?_)
    refine W.hdr 2 1 (ls := [[x0, x1, x2, x3, x4, x5, x6, x7]]) (h := ?_)
    have hyl : (ls.take (i + 1) ++ ls.drop i).length = ls.length + 1 := by rw [List.length_append, List.length_take, List.length_drop]; omega
    clear s16
    refine GO ?_
    refine Ch.r (OpT.fromC (ls := ls.take (i + 1) ++ ls.drop i) (m := 0) (i := i) (by omega)) ⟨rfl, rfl, trivial⟩ rfl ?_
    refine GO ?_
    refine Ch.wr1 (OpT.copyS (ls := ls.take (i + 1) ++ ls.drop i) (ls2 := [[x0, x1, x2, x3, x4, x5, x6, x7]]) (κ2 := 1) (i := i) (i2 := 0) (cnt := 1) (by decide) (by simp) (by omega) (by rw [hyl]; simp only [Nat.min_def, List.length_singleton]; split <;> omega)) ⟨rfl, rfl, trivial⟩ (r := ?_)
    rw [List.drop_zero, List.take_of_length_le (show ([[x0, x1, x2, x3, x4, x5, x6, x7]] : List (List D)).length ≤ 1 by simp), ins_room hi]
    refine GO ?_
    refine W.uncap 2 (h := ?_)
    exact finH
end Go.Proofs.YtelkpflpgpdkdaaGreatDoor
namespace Go.Proofs.YtelkpflpgpdkdaaGreatDoor
open Go.Sv
set_option maxRecDepth 10000
open Go.RowKit Go.Lib Go.Shelf Go.Sort
def cmpB (a b : Str) : Int := Lib.compareBytes a.data.toList b.data.toList
theorem scmpC (a b : Str) : ∀ n, Con Tryz.prog 78 [sT a, sT b] [] n (iT (cmpB a b)) [] n := Con.raw (enters_of Tryz.func78 (by kernel_rfl) rfl) fun β S w vs hv hG => by
  obtain ⟨vs⟩ := vs
  match vs, hv with
  | [u, v], h =>
    have e : u = .string a := h.1
    have e2 : v = .string b := h.2.1
    subst e e2
    refine (Any.strings_Compare Tryz.lays106 a b w).mono ?_
    rintro e w' ⟨rfl, rfl⟩
    exact ⟨_, rfl, Kept.refl _ _, rfl⟩
theorem put1fC (f : FileP) (s : Str) : ∀ n, Con Tryz.prog 77 [agD (fileF f), sT s] [] n (iT (cmpB f.name s)) [] n := by
  refine fnI Tryz.func77 Tryz.ntmps77 (h := fun S w0 β0 X => ?_)
  refine GO ?_
  refine Ch.c (scmpC f.name s) (r := ?_)
  refine GO ?_
  exact fin1
theorem shr_one {P : Program} {t : TypeId} {i j q : Nat} (hij : (i + j) / 2 = q) (w : World) : (binOp .shr t (.int .u64 ((i : Int) + j)) (.int .u64 1)).run P w = .ok (.int .u64 (q : Int)) w := by
  have e : (i : Int) + j = ((i + j : Nat) : Int) := by omega
  rw [e]
  generalize i + j = a at *
  subst hij
  have h1 : ((a : Int)).fdiv (2 ^ 1) = ((a / 2 : Nat) : Int) := by rw [Int.fdiv_eq_ediv_of_nonneg _ (by decide)]; rfl
  show (Sem.run P (Op.shift .shr .u64 (a : Int) .u64 1) w) = _
  have h2 : min (Int.toNat 1) IntKind.u64.bits = 1 := by decide
  simp only [Op.shift, h2, h1, show ¬ ((1 : Int) < 0) by decide, if_false, Sem.run_pure]
def FSort (l : List FileP) : Prop := l.Pairwise fun a b => cmpB a.name b.name < 0
/-- Where a file of a name stands, or would. -/
def filePos (l : List FileP) (s : Str) : Nat := (l.takeWhile fun f => decide (cmpB f.name s < 0)).length
theorem filePos_le (l : List FileP) (s : Str) : filePos l s ≤ l.length := (List.takeWhile_sublist _).length_le
theorem filePos_lt : ∀ {l : List FileP} {s : Str} {k : Nat} {x : FileP}, l[k]? = some x → k < filePos l s → cmpB x.name s < 0
  | [], _, _, _, h, _ => by simp at h
  | y :: l, s, k, x, h, hk => by
    unfold filePos at hk
    rw [List.takeWhile_cons] at hk
    split at hk
    · rename_i hy
      cases k with
      | zero => simp at h; subst h; simpa using hy
      | succ k => exact filePos_lt (l := l) (k := k) (by simpa using h) (by simpa [filePos] using hk)
    · simp at hk
theorem filePos_ge : ∀ {l : List FileP} {s : Str} {k : Nat} {x : FileP}, FSort l → l[k]? = some x → filePos l s ≤ k → ¬ cmpB x.name s < 0
  | [], _, _, _, _, h, _ => by simp at h
  | y :: l, s, k, x, hs, h, hk => by
    obtain ⟨h1, h2⟩ := List.pairwise_cons.1 hs
    unfold filePos at hk
    rw [List.takeWhile_cons] at hk
    split at hk
    · cases k with
      | zero => simp at hk
      | succ k => exact filePos_ge (l := l) (k := k) h2 (by simpa using h) (by simpa [filePos] using hk)
    · rename_i hy
      cases k with
      | zero => simp at h; subst h; simpa using hy
      | succ k =>
        intro hc
        have h3 := h1 x (List.mem_of_getElem? (by simpa using h))
        exact hy (decide_eq_true (show cmpB y.name s < 0 from cmpB_trans _ _ _ h3 hc))
def fileHad (l : List FileP) (s : Str) : Bool := match l[filePos l s]? with
  | some f => decide (cmpB f.name s = 0)
  | none => false
set_option maxHeartbeats 1000000 in
theorem bsearchC (l : List FileP) (s : Str) (hs : FSort l) (hl : l.length ≤ 1000000) : ∀ n, Con Tryz.prog 76 [dT (sl 8 (l.map fileF)), sT s, dT (cloD 77 [])] [] n (.tup [.one (.d (i64 (filePos l s : Nat))), .one (.d (bl (fileHad l s)))]) [] n := by
  refine fnI Tryz.func76 Tryz.ntmps76 (h := fun S w0 β0 X => ?_)
  have hple := filePos_le l s
  refine GO ?_
  refine W.lp (fun a : Nat × Nat => a.1 ≤ filePos l s ∧ filePos l s ≤ a.2 ∧ a.2 ≤ l.length) (fun a => [(9, iT a.1), (10, iT a.2)]) [(0, _), (1, _), (2, _), (6, _), (7, _), (8, _)] (fun a => a.2 - a.1) (0, l.length) (⟨Nat.zero_le _, hple, Nat.le_refl _⟩) (round := fun a hI => ?_)
  obtain ⟨i, j⟩ := a
  simp only at hI ⊢
  have hmid : ((i + j) / 2 : Nat) < l.length ∨ ¬ i < j := by omega
  by_cases hlt : i < j
  · have hml : (i + j) / 2 < l.length := by omega
    have hx := List.getElem?_eq_getElem hml
    generalize hq : (i + j) / 2 = q at *
    generalize l[q] = x at hx
    have hc1 := filePos_lt (s := s) hx
    have hc2 := filePos_ge (s := s) hs hx
    refine GO ?_
    refine Ch.p (OpT.conv (k := .i64) (k' := .u64) (a := (i : Int) + j) (hr := by rw [IntKind.wrap_u64]; omega)) ⟨rfl, trivial⟩ ?_
    refine Ch.p (OpT.binI (k := .u64) (k' := .u64) (kr := .u64) (a := (i : Int) + j) (b := 1) (c := (q : Int)) (shr_one (by omega))) ⟨rfl, rfl, trivial⟩ ?_
    refine Ch.p (OpT.conv (k := .u64) (k' := .i64) (a := (q : Int)) (hr := by rw [IntKind.wrap_i64]; omega)) ⟨rfl, trivial⟩ ?_
    refine GO ?_
    refine Ch.dy (ts := [agD (fileF x), sT s]) (cs := []) (put1fC x s) (r := ?_)
    refine GO ?_
    refine W.cond rfl (fun h => ?_) (fun h => ?_)
    · have h : cmpB x.name s < 0 := by simpa using h
      refine GO ?_
      refine W.ag (q + 1, j) ⟨?_, hI.2.1, hI.2.2⟩ (by simp only; omega)
      exact Nat.lt_of_not_le fun hle => hc2 hle h
    · have h : ¬ cmpB x.name s < 0 := by simpa using h
      refine GO ?_
      refine W.ag (i, q) ⟨hI.1, ?_, by omega⟩ (by simp only; omega)
      exact Nat.le_of_not_lt fun hlt2 => h (hc1 hlt2)
  · obtain rfl : i = filePos l s := by omega
    have hfh : fileHad l s = fileHad l s := rfl
    conv at hfh => rhs; rw [fileHad]
    by_cases hpl : filePos l s < l.length
    · have hx := List.getElem?_eq_getElem hpl
      generalize l[filePos l s] = x at hx
      rw [hx] at hfh
      refine GO ?_
      refine Ch.g (h := fun _ => OpT.dynD (ts := [agD (fileF x), sT s]) (cs := []) (put1fC x s)) (r := ?_)
      refine GO ?_
      exact fin2 (he := by
        rw [hfh]
        simp only [T.tup.injEq, List.cons.injEq, U.one.injEq, C.d.injEq, and_true, true_and]
        congr 1
        rw [show decide ((filePos l s : Int) < l.length) = true from decide_eq_true (by omega), Bool.true_and])
    · refine GO ?_
      refine Ch.g (out := dT (adr (fileF default))) (h := fun hc => absurd hc (by simp; omega)) (r := ?_)
      refine GO ?_
      refine Ch.g (out := iT 0) (h := fun hc => absurd hc (by simp; omega)) (r := ?_)
      refine GO ?_
      exact fin2 (he := by rw [hfh, List.getElem?_eq_none (show l.length ≤ filePos l s by omega), show decide ((filePos l s : Int) < l.length) = false from decide_eq_false (by omega)]; rfl)
end Go.Proofs.YtelkpflpgpdkdaaGreatDoor
namespace Go.Proofs.YtelkpflpgpdkdaaGreatDoor
open Go.Sv
set_option maxRecDepth 10000
theorem Con.borrowT {P : Program} {f : FuncId} {args args' : List T} {H0 : HL} {out : T} {n0 : Nat} (h : ∀ n, Con P f args' [] n out [] n) (ha : Lend args H0 args') (hk0 : out.keys = []) (hx : ∀ β β' w w' v, out.is β w v → out.is β' w' v) : Con P f args H0 n0 out H0 n0 :=
  ⟨(h n0).1, Nat.le_refl _, fun β S w vs hv hO => by
    have hV : Sub (View β H0 S w) (View β [] S w) := hide_sub (Kept.refl [] w) fun q _ hq => ⟨by simp, fun hm => hq (List.mem_append_right _ hm)⟩
    refine ((h n0).2.2 β S w vs (ha.is hO.toOwns (fun _ h => h) hv) ⟨⟨nofun, nofun, nofun, hO.lt⟩, hO.gl.mono hV⟩).mono ?_
    rintro e w' ⟨v, β', h1, h2, h3, h4, h5, h6, h7⟩
    have hk : Kept [] w w' := ⟨h2.os, h2.tape, h2.output, h2.size, fun k hk _ => h2.block k hk (by simp [blks])⟩
    have hV2 : Sub (View β H0 S w) (View β H0 S w') := hide_sub hk fun q _ hq => ⟨by simp, hq⟩
    refine ⟨v, β, h1, ⟨hk.os, hk.tape, hk.output, hk.size, fun k hk' _ => hk.block k hk' (by simp)⟩, fun _ _ => rfl, bel0 hk0, hx _ _ _ _ _ h5, ⟨fun e he => ?_, hO.apart, hO.out, fun b hb => Nat.lt_of_lt_of_le (hO.lt b hb) hk.size⟩, fun b hb => .inl hb⟩
    obtain ⟨k1, k2, k3⟩ := hO.is e he
    exact ⟨k1, k2, Own.keep (fun _ _ => rfl) hV2 (fun b _ x hx => hk.heap (by simp) hx) k3⟩⟩
set_option maxHeartbeats 1000000 in
theorem mappedOC (l : List FileP) (hl : l.length ≤ 1000000) (hs : ∀ f ∈ l, StS f.state) : Con Tryz.prog 66 [dT (sl 8 (l.map fileF)), dT (cloD 67 [])] [] 0 (.one (.key 0)) [(0, .row 99 8 (l.map fileF))] 1 := by
  refine fnH Tryz.func66 Tryz.ntmps66 (h := fun S w0 β0 X => ?_)
  have st : Stop 2 := ⟨⟩
  refine GO ?_
  clear st
  refine W.nilT 5 99 8 (h := ?_)
  refine GO ?_
  refine W.lpG ((· ≤ l.length)) (fun k => [(5, .one (.key 0)), (10, iT k)]) [(1, _), (8, _), (9, _)] (fun k => [(0, .row 99 8 ((l.take k).map fileF))]) [] (l.length - ·) 0 (Nat.zero_le _) (round := fun k hk => ?_)
  by_cases hlt : k < l.length
  · have hx := List.getElem?_eq_getElem hlt
    generalize l[k] = x at hx
    have hlen : (l.take k).length = k := by rw [List.length_take]; omega
    refine GO ?_
    refine Ch.dy (ts := [agD (fileF x)]) (cs := []) (fcopiedC x (hs x (List.mem_of_getElem? hx))) (r := ?_)
    refine GO ?_
    rw [← take_map_succ hx]
    refine W.swap 0 2 (h := ?_)
    exact W.ag (k + 1) (hlt) (by omega)
  · obtain rfl : k = l.length := by omega
    rw [List.take_length]
    refine GO ?_
    exact finH
theorem sCopyOC (s : Snp) (hs : SnpG s) : Con Tryz.prog 44 [agD (snapF s)] [] 0 (.ag ((regF s.reg).map C.d ++ [.key 0])) [(0, .row 99 8 (s.files.map fileF))] 1 := by
  refine fnH Tryz.func44 Tryz.ntmps44 (h := fun S w0 β0 X => ?_)
  refine GO ?_
  refine Ch.c (gCopyC s.reg hs.reg.ok.typs (fun j hj => (hs.reg.ok.lens j hj).1) (by have := hs.reg.ok.len; omega) (by have := hs.reg.ok.len; omega)) (r := ?_)
  refine GO ?_
  refine Ch.ch [] (mappedOC s.files hs.len hs.sts) (r := ?_)
  refine GO ?_
  refine W.swap 0 2 (h := ?_)
  exact finH
/-- As snap's put says. -/
def putFs (l : List FileP) (f : FileP) : List FileP := if fileHad l f.name then l.set (filePos l f.name) f else l.take (filePos l f.name) ++ [f] ++ l.drop (filePos l f.name)
set_option maxHeartbeats 2000000 in
theorem sputfC (s : Snp) (f : FileP) (hs : SnpG s) (ho : FSort s.files) : ∀ n, Con Tryz.prog 49 [agD (snapF s), agD (fileF f)] [] n (agD (snapF ⟨s.reg, putFs s.files f⟩)) [] n := by
  refine fnI Tryz.func49 Tryz.ntmps49 (h := fun S w0 β0 X => ?_)
  have hb : ∀ n0, Con Tryz.prog 76 [.one (.key 0), sT f.name, dT (cloD 77 [])] [(0, .row 99 8 (s.files.map fileF))] n0 (.tup [.one (.d (i64 (filePos s.files f.name : Nat))), .one (.d (bl (fileHad s.files f.name)))]) [(0, .row 99 8 (s.files.map fileF))] n0 := fun n0 => Con.borrowT (bsearchC s.files f.name ho hs.len) (.row (.same rfl (.same rfl .nil))) rfl fun _ _ _ _ _ ⟨us, h1, h2⟩ => ⟨us, h1, by match us, h2 with | [_, _], h => exact h⟩
  have hpl := filePos_le s.files f.name
  have hq := (rfl : putFs s.files f = putFs s.files f)
  conv at hq => rhs; rw [putFs]
  have hat : fileHad s.files f.name = true → filePos s.files f.name < s.files.length := fun h => by
    unfold fileHad at h
    split at h
    · rename_i x hx; exact (List.getElem?_eq_some_iff.1 hx).1
    · cases h
  have hlen := hs.len
  have hcp := sCopyOC s hs
  generalize fileHad s.files f.name = had at *
  generalize filePos s.files f.name = p at *
  refine GO ?_
  refine Ch.ch [] hcp (r := ?_)
  refine GO ?_
  refine Ch.ch [3] (hb 1) (r := ?_)
  refine GO ?_
  refine W.cond rfl (fun h => ?_) (fun h => ?_)
  · have h : had = true := h
    rw [if_pos h] at hq
    have hpl2 : p < (s.files.map fileF).length := by rw [List.length_map]; exact hat h
    refine GO ?_
    refine Ch.r (OpT.indexW hpl2) ⟨rfl, rfl, trivial⟩ rfl ?_
    refine Ch.storeW (v := fileF f) (hs := asAg (l := fileF f) rfl) (hj := hpl2) (r := ?_)
    refine GO ?_
    rw [show (s.files.map fileF).set p (fileF f) = (putFs s.files f).map fileF by rw [hq, List.map_set]]
    refine W.frz 3 (h := ?_)
    exact fin1
  · have h : had = false := by simpa using h
    rw [if_neg (by rw [h]; simp)] at hq
    have hin := insertFC (s.files.map fileF) (str f.name) (i64 f.schema) (i64 f.state.doc.kind) (i64 f.state.doc.num) (str f.state.doc.str) (strsD f.state.doc.keys) (sl 5 (docsC f.state.doc.kids)) (sl 8 (f.state.res.map resF)) p (by rw [List.length_map]; exact hpl) (by rw [List.length_map]; exact hlen)
    rw [show (s.files.map fileF).take p ++ [[str f.name, i64 f.schema, i64 f.state.doc.kind, i64 f.state.doc.num, str f.state.doc.str, strsD f.state.doc.keys, sl 5 (docsC f.state.doc.kids), sl 8 (f.state.res.map resF)]] ++ (s.files.map fileF).drop p = (putFs s.files f).map fileF by rw [hq, List.map_append, List.map_append, List.map_take, List.map_drop]; rfl] at hin
    refine GO ?_
    refine Ch.nw (OpT.slice1O (hs := asAg (l := fileF f) rfl)) ⟨rfl, trivial⟩ ?_
    refine GO ?_
    refine Ch.ch [3, 4] hin (r := ?_)
    refine GO ?_
    refine W.frz 5 (h := ?_)
    exact fin1
end Go.Proofs.YtelkpflpgpdkdaaGreatDoor
namespace Go.Proofs.YtelkpflpgpdkdaaGreatDoor
open Go.Sv
set_option maxRecDepth 10000
/-- A row out of which some have been taken, when j have been looked at. -/
structure DelQ (l : List Res) (p : Res → Bool) (j : Nat) (ls : List (List D)) : Prop where
  len : ls.length = l.length
  kept : ls.take ((l.take j).filter fun x => !p x).length = ((l.take j).filter fun x => !p x).map resF
  rest : ls.drop j = (l.drop j).map resF
  lt : ((l.take j).filter fun x => !p x).length < j
  jl : j ≤ l.length
  eight : ∀ x ∈ ls, x.length = 8
theorem DelQ.next {l : List Res} {p : Res → Bool} {j : Nat} {ls : List (List D)} {x : Res} (h : DelQ l p j ls) (hx : l[j]? = some x) : ((l.take (j + 1)).filter fun x => !p x).length = (if p x then 0 else 1) + ((l.take j).filter fun x => !p x).length ∧ DelQ l p (j + 1) (if p x then ls else ls.set ((l.take j).filter fun x => !p x).length (resF x)) := by
  have hf := filter_succ (q := fun x => !p x) hx
  have hjl := (List.getElem?_eq_some_iff.1 hx).1
  have hlt := h.lt
  have hd : ls.drop (j + 1) = (l.drop (j + 1)).map resF := by
    have := congrArg (List.drop 1) h.rest
    rwa [List.drop_drop, ← List.map_drop, List.drop_drop] at this
  cases hp : p x with
  | true =>
    rw [hp] at hf
    simp only [Bool.not_true, Bool.false_eq_true, if_false, List.append_nil] at hf
    exact ⟨by rw [hf]; simp, by rw [if_pos rfl]; exact ⟨h.len, by rw [hf]; exact h.kept, hd, by rw [hf]; omega, hjl, h.eight⟩⟩
  | false =>
    rw [hp] at hf
    simp only [Bool.not_false, if_true] at hf
    refine ⟨by rw [hf, List.length_append]; simp; omega, by
      rw [if_neg Bool.false_ne_true]
      refine ⟨by rw [List.length_set]; exact h.len, ?_, by rw [List.drop_set, if_pos (by omega)]; exact hd, by rw [hf, List.length_append, List.length_singleton]; omega, hjl, fun y hy => ?_⟩
      · rw [hf, List.length_append, List.length_singleton, List.map_append, ← h.kept, List.take_add_one, List.getElem?_set_self (by rw [h.len]; omega), List.take_set_of_le (Nat.le_refl _)]
        rfl
      · rcases List.mem_or_eq_of_mem_set hy with h1 | rfl
        · exact h.eight y h1
        · rfl⟩
set_option maxRecDepth 10000 in
set_option maxHeartbeats 1000000 in
theorem delRC (l : List Res) (f : FuncId) (cs : List D) (p : Res → Bool) (hl : l.length ≤ 1000000) (hc : ∀ x ∈ l, ∀ n, Con Tryz.prog f ([agD (resF x)] ++ cs.map dT) [] n (bT (p x)) [] n) : Con Tryz.prog 109 [.one (.key 0), dT (cloD f cs)] [(0, .row 161 8 (l.map resF))] 1 (.one (.key 1)) [(1, .row 161 8 ((l.filter fun x => !p x).map resF))] 2 := by
  have h8 : ∀ x ∈ l.map resF, x.length = 8 := fun x hx => by obtain ⟨y, _, rfl⟩ := List.mem_map.1 hx; rfl
  refine fnH Tryz.func109 Tryz.ntmps109 (h := fun S w0 β0 X => ?_)
  have s11 : Stop 11 := ⟨⟩
  have s12 : Stop 12 := ⟨⟩
  have hidx : ∀ n0, Con Tryz.prog 142 [.one (.key 0), dT (cloD f cs)] [(0, .row 161 8 (l.map resF))] n0 (iT (idxOf p l)) [(0, .row 161 8 (l.map resF))] n0 := fun n0 => Con.borrow (indexResC f cs p hc) (.row (.same rfl .nil)) fun _ _ _ h => h
  rcases idxOf_cases p l with ⟨hi, hno⟩ | ⟨i, x, hi, hx, hpx, hno⟩
  · rw [hi] at hidx
    have hfl : (l.filter fun x => !p x) = l := List.filter_eq_self.2 fun y hy => by rw [hno y hy]; rfl
    rw [hfl]
    refine GO ?_
    refine Ch.ch [0] (hidx 1) (r := ?_)
    refine GO ?_
    refine W.dup 0 (h := ?_)
    exact finH
  · rw [hi] at hidx
    have hil := (List.getElem?_eq_some_iff.1 hx).1
    have h0 : ((l.take i).filter fun x => !p x) = l.take i := List.filter_eq_self.2 fun y hy => by rw [hno y hy]; rfl
    have h1 : ((l.take (i + 1)).filter fun x => !p x) = l.take i := by rw [filter_succ hx, h0, hpx]; simp
    have hI : DelQ l p (i + 1) (l.map resF) := ⟨List.length_map _, by rw [h1, List.length_take, Nat.min_eq_left (by omega), List.map_take], by rw [List.map_drop], by rw [h1, List.length_take]; omega, hil, h8⟩
    have hcnt : i = ((l.take (i + 1)).filter fun x => !p x).length := by rw [h1, List.length_take, Nat.min_eq_left (by omega)]
    refine GO ?_
    refine Ch.ch [0] (hidx 1) (r := ?_)
    refine GO ?_
    refine W.lpG (fun a : Nat × Nat × List (List D) => DelQ l p a.1 a.2.2 ∧ a.2.1 = ((l.take a.1).filter fun x => !p x).length) (fun a => [(5, iT a.2.1), (6, iT a.1)]) [(0, _), (1, _), (4, _)] (fun a => [(0, .row 161 8 a.2.2)]) [] (fun a => l.length - a.1) (i + 1, i, l.map resF) (⟨hI, hcnt⟩) (round := fun a hI => ?_)
    clear hcnt h1 h0
    obtain ⟨j, k, ls⟩ := a
    obtain ⟨hI, hk⟩ := hI
    simp only at hI hk ⊢
    have hlen := hI.len
    by_cases hlt : j < ls.length
    · have hjl : j < l.length := by omega
      have hy := List.getElem?_eq_getElem hjl
      generalize l[j] = y at hy
      obtain ⟨n1, hI2⟩ := hI.next hy
      have hgy : ls[j]? = some (resF y) := by
        have := congrArg (fun z => z[0]?) hI.rest
        simpa [List.getElem?_drop, hy] using this
      have hlt2 := hI.lt
      rw [← hk] at n1 hI2 hlt2
      refine GO ?_
      refine Ch.r (OpT.indexW hlt) ⟨rfl, rfl, trivial⟩ rfl ?_
      refine Ch.r (OpT.loadW hgy) ⟨rfl, trivial⟩ rfl ?_
      refine GO ?_
      refine Ch.dy (ts := [agD (resF y)]) (cs := cs) (hc y (List.mem_of_getElem? hy)) (r := ?_)
      refine GO ?_
      cases hp : p y with
      | true =>
        rw [hp] at n1 hI2
        simp only [if_true, Nat.zero_add] at n1 hI2
        refine GO ?_
        exact W.ag ((j + 1, k, ls)) (⟨hI2, n1.symm⟩) (by simp only; omega)
      | false =>
        rw [hp] at n1 hI2
        simp only [Bool.false_eq_true, if_false] at n1 hI2
        have hkl : k < ls.length := by omega
        refine GO ?_
        refine Ch.r (OpT.indexW hkl) ⟨rfl, rfl, trivial⟩ rfl ?_
        refine Ch.storeW (hs := asAg (l := resF y) rfl) (hj := hkl) (r := ?_)
        refine GO ?_
        exact W.ag ((j + 1, k + 1, ls.set k (resF y))) (⟨hI2, by simp only; omega⟩) (by simp only; omega)
    · have hj : j = l.length := by have := hI.jl; omega
      subst hj
      have hlt2 := hI.lt
      have hkept := hI.kept
      rw [← hk] at hkept hlt2
      rw [List.take_length] at hkept hk
      refine GO ?_
      refine W.cap (ls := ls) 0 (by omega) (h := fun c hc hc2 => ?_)
      clear s11
      refine GO ?_
      refine Ch.r (OpT.fromC (ls := ls) (m := 0) (i := k) (by omega)) ⟨rfl, rfl, trivial⟩ rfl ?_
      refine Ch.wr0 (OpT.clearS (ls := ls) (i := k) (m := ls.length + 0 - k) (by omega) (by omega)) ⟨rfl, trivial⟩ (r := ?_)
      refine GO ?_
      refine W.uncap 0 (h := ?_)
      clear s12
      refine GO ?_
      refine Ch.wk (OpT.uptoO (ls := ls.take k ++ List.replicate (ls.length + 0 - k) (Sv.zeroD [ZK.int IntKind.i64, ZK.slice, ZK.slice, ZK.int IntKind.i64, ZK.int IntKind.i64, ZK.str, ZK.slice, ZK.slice])) (i := k) (by rw [List.length_append, List.length_take]; omega)) ⟨rfl, rfl, trivial⟩ (r := ?_)
      have e9 : ∀ z : List D, ((ls.take k ++ List.replicate (ls.length + 0 - k) z).take k) = (l.filter fun x => !p x).map resF := fun z => by rw [List.take_append_of_le_length (by rw [List.length_take]; omega), List.take_take, Nat.min_self]; exact hkept
      rw [e9]
      refine GO ?_
      exact finH
end Go.Proofs.YtelkpflpgpdkdaaGreatDoor
namespace Go.Proofs.YtelkpflpgpdkdaaGreatDoor
open Go.Sv
set_option maxRecDepth 10000
set_option maxHeartbeats 1000000 in
theorem stCopyOC (s : State) (hf : StFit s) : Con Tryz.prog 103 [agD (stateF s)] [] 0 (.ag ((docF s.doc).map C.d ++ [.key 0])) [(0, .row 161 8 (s.res.map resF))] 1 := by
  refine fnH Tryz.func103 Tryz.ntmps103 (h := fun S w0 β0 X => ?_)
  obtain ⟨h1, h2, h3⟩ := hf
  have st : Stop 2 := ⟨⟩
  refine GO ?_
  refine Ch.c (docCopyC s.doc h1) (r := ?_)
  refine GO ?_
  clear st
  refine W.nilB 2 5 161 8 (h := ?_)
  refine GO ?_
  refine W.lpG ((· ≤ s.res.length)) (fun k => [(13, iT k)]) [(12, _), (11, _), (1, _), (2, _), (3, _)] (fun k => [(3, .row 161 8 ((s.res.take k).map resF))]) [(0, _), (1, _), (2, _)] (s.res.length - ·) 0 (Nat.zero_le _) (round := fun k hk => ?_)
  by_cases hlt : k < s.res.length
  · have hx := List.getElem?_eq_getElem hlt
    generalize s.res[k] = x at hx
    have hlen : (s.res.take k).length = k := by rw [List.length_take]; omega
    refine GO ?_
    refine Ch.c (copiedC x (h3 x (List.mem_of_getElem? hx))) (r := ?_)
    refine GO ?_
    rw [← take_map_succ hx]
    refine W.swap 3 5 (h := ?_)
    exact W.ag (k + 1) (hlt) (by omega)
  · obtain rfl : k = s.res.length := by omega
    rw [List.take_length]
    refine GO ?_
    refine W.swap 0 3 (h := ?_)
    exact finH
def findR (m : List Res) (x : Res) : Int := idxOf (fun y => decide (firstNZ [cmpI y.edge x.edge, cmpL cmpI y.step x.step, cmpL cmpS y.at_ x.at_] = 0)) m
/-- As snap.Kept says. -/
def keptL (l m : List Res) : List Res := l.filter fun x => !decide (findR m x < 0)
theorem skept1C (m : List Res) (x : Res) : ∀ n, Con Tryz.prog 110 [agD (resF x), dT (adr [sl 8 (m.map resF)])] [] n (bT (decide (findR m x < 0))) [] n := by
  refine fnI Tryz.func110 Tryz.ntmps110 (h := fun S w0 β0 X => ?_)
  refine GO ?_
  refine Ch.c (afindC m x.edge x.step x.at_) (r := ?_)
  refine GO ?_
  exact fin1
theorem nil_st (l : List Res) (w : World) (us : List Value) (h : Cells w [i64 0, i64 0, str ⟨#[]⟩, nilD, nilD, sl 8 (l.map resF)] us) : Cells w (stateF ⟨zeroDoc, l⟩) us := by
  match us, h with
  | [_, _, _, _, _, _], h => exact ⟨h.1, h.2.1, h.2.2.1, nil_sl 1 _ _ h.2.2.2.1, nil_sl 5 _ _ h.2.2.2.2.1, h.2.2.2.2.2.1, trivial⟩
set_option maxHeartbeats 1000000 in
theorem sKeptC (l m : List Res) (hl : l.length ≤ 90000) (hf : ∀ x ∈ l, x.fit) : ∀ n, Con Tryz.prog 75 [dT (sl 8 (l.map resF)), dT (sl 8 (m.map resF))] [] n (dT (sl 8 ((keptL l m).map resF))) [] n := by
  refine fnI Tryz.func75 Tryz.ntmps75 (h := fun S w0 β0 X => ?_)
  have hcp := (stCopyOC ⟨zeroDoc, l⟩ ⟨stS_zero.1.1, hl, hf⟩).argL (args := [agD [i64 0, i64 0, str ⟨#[]⟩, nilD, nilD, sl 8 (l.map resF)]]) ⟨.ag (nil_st l), trivial⟩
  have hdl := delRC l 110 [adr [sl 8 (m.map resF)]] (fun x => decide (findR m x < 0)) (by omega) fun x _ => skept1C m x
  have st : Stop 1 := ⟨⟩
  refine GO ?_
  refine W.frzB 0 [sl 8 (m.map resF)] (h := ?_)
  clear st
  refine GO ?_
  refine Ch.ch [] hcp (r := ?_)
  refine GO ?_
  refine Ch.ch [1] hdl (r := ?_)
  refine GO ?_
  refine W.frz 3 (h := ?_)
  exact fin1
end Go.Proofs.YtelkpflpgpdkdaaGreatDoor
