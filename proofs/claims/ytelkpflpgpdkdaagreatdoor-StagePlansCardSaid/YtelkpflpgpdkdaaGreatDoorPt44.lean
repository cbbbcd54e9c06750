/- Part 44 of what StageOrder and StagePlans ask: for every input each returns true, and its input reads as it did. No condition. -/
import Derived.Test.YtelkpflpgpdkdaaGreatDoorPt16
import Derived.Test.YtelkpflpgpdkdaaGreatDoorPt36
import Derived.Test.YtelkpflpgpdkdaaGreatDoorPt43
import Derived.Test.YtelkpflpgpdkdaaGreatDoorCards
import Derived.Test.YtelkpflpgpdkdaaGreatDoorRows
import Derived.Test.YtelkpflpgpdkdaaGreatDoorTie
import Derived.ChangeArms
import Derived.OpenShut
import Derived.SevenTiedAt
import Derived.LaidMore
import Derived.LaidLaws
import Derived.ProofKit
import Derived.ChangeSame
import Derived.ChangeVars
import Derived.JoinedOf
import Derived.Lay
import Derived.Lib.LaidTab
namespace Go.Proofs.YtelkpflpgpdkdaaGreatDoor
open Go.Sv
open Go.RowKit
theorem sn_get : ∀ (l : List (Int × Int)) (k : Nat) (p : Int × Int), l[k]? = some p → (swapNums l)[k * 2]? = some p.1 ∧ (swapNums l)[k * 2 + 1]? = some p.2
  | [], _, _, h => by simp at h
  | q :: l, 0, p, h => by
    rw [List.getElem?_cons_zero] at h
    cases h
    exact ⟨rfl, rfl⟩
  | q :: l, k + 1, p, h => by
    rw [List.getElem?_cons_succ] at h
    obtain ⟨h1, h2⟩ := sn_get l k p h
    rw [show (k + 1) * 2 = k * 2 + 1 + 1 by omega]
    exact ⟨h1, h2⟩
theorem swapsC : SwapsH := fun l t hl hn => Con.raw (enters_of Tryz.func257 (by kernel_rfl) rfl) fun β S w vs hv hg => by
  obtain ⟨vs⟩ := vs
  match vs, hv with
  | [v1, v2], hv =>
    obtain ⟨h1, h2, _⟩ := hv
    obtain ⟨a, c, rfl, _, _, hc⟩ := h1
    obtain ⟨us, rfl, hu⟩ := h2
    match us, hu with
    | [u0, u1, u2, u3, u4, u5], hu =>
      have e0 : u0 = .int .i64 t.kind := hu.1
      have e1 : u1 = .int .i64 t.lo := hu.2.1
      have e2 : u2 = .int .i64 t.hi := hu.2.2.1
      subst e0 e1 e2
      rw [List.length_map]
      refine (lswaps_raw t l u3 u4 u5 a c w hl hn fun k x y hx hy => ?_).mono ?_
      · have hk : k < l.length := by
          have := (List.getElem?_eq_some_iff.1 hx).1
          rw [swapNums_len] at this
          omega
        have hp := List.getElem?_eq_getElem hk
        generalize l[k] = p at hp
        obtain ⟨g1, g2⟩ := sn_get l k p hp
        cases (hx.symm.trans g1)
        cases (hy.symm.trans g2)
        obtain ⟨_, b, o, us, rfl, hl, hcs⟩ := hc k (swapF p) (by rw [List.getElem?_map, hp]; rfl)
        match us, hcs with
        | [w0, w1], hcs =>
          have f0 : w0 = .int .i64 p.1 := hcs.1
          have f1 : w1 = .int .i64 p.2 := hcs.2.1
          subst f0 f1
          refine ⟨b, o, rfl, ?_, ?_⟩
          · exact hide_shown.cell _ _ (hl 0 _ rfl)
          · exact hide_shown.cell _ _ (hl 1 _ rfl)
      · rintro e w' ⟨rfl, hE⟩
        exact ⟨_, rfl, ⟨hE.os, hE.tape, hE.output, hE.size, fun k hk _ => hE.block k hk⟩, rfl⟩
theorem rawC : RawH := ⟨delC, swapsC⟩
end Go.Proofs.YtelkpflpgpdkdaaGreatDoor
namespace Go.Proofs.YtelkpflpgpdkdaaGreatDoor
open Go.Sv
section
variable {H : Type} {enc : TypeId × Value → H} {W : World} {t : TypeId} {N : Nat} {cs : List Value}
def Rd (enc : TypeId × Value → H) (W : World) (N : Nat) (t : TypeId) (cs : List Value) : Prop := ∃ x : DataW H × List MemPlace, DataW.trod enc Tryz.prog W 0 (fun _ => true) true N t cs = some x
theorem lay_cells {l : Lay} (h : lay Tryz.prog t = some l) : Go.Program.cellsOf Tryz.prog t = l.size := by
  obtain ⟨d, i, z, _, hi, ⟨h1, _⟩, _⟩ := lay_all h
  unfold Go.Program.cellsOf
  rw [hi]; exact h1
theorem rd_struct {k : Nat} {fl : List (Nat × Nat)} {z : List ZK} (ht : lay Tryz.prog t = some ⟨.struct, k, fl, z⟩) (h : Rd enc W N t cs) : ∃ n, N = n + 1 ∧ cs.length = k ∧ ∀ (i o u : Nat) (lu : Lay), fl[i]? = some (o, u) → lay Tryz.prog u = some lu → Rd enc W n u ((cs.drop o).take lu.size) := by
  obtain ⟨fs, hfs, hfl⟩ := lay_struct ht
  obtain ⟨x, hx⟩ := h
  obtain ⟨xs, n, h1, _, h2, h3, h4⟩ := DataW.trod_struct hfs hx
  refine ⟨n, h1, h2.trans (lay_cells ht), fun i o u lu hi hu => ?_⟩
  subst hfl
  rw [List.getElem?_map] at hi
  cases hf : fs.toList[i]? with
  | none => rw [hf] at hi; cases hi
  | some f =>
    rw [hf] at hi
    cases hi
    have := h4 i f (by rw [← Array.getElem?_toList]; exact hf)
    have hlt : i < xs.length := by have := (List.getElem?_eq_some_iff.1 hf).1; rw [Array.length_toList] at this; omega
    rw [List.getElem?_eq_getElem hlt, lay_cells hu] at this
    exact ⟨_, this⟩
theorem rd_int {k : IntKind} {s : Nat} {fl : List (Nat × Nat)} {z : List ZK} (ht : lay Tryz.prog t = some ⟨.int k, s, fl, z⟩) (h : Rd enc W N t cs) : ∃ n, cs = [.int k n] ∧ (Lit.int k n).wf = true := by
  obtain ⟨x, hx⟩ := h
  obtain ⟨n, h1, _, h2⟩ := DataW.trod_int (lay_int ht) hx
  exact ⟨n, h1, h2⟩
theorem rd_str {s : Nat} {fl : List (Nat × Nat)} {z : List ZK} (ht : lay Tryz.prog t = some ⟨.str, s, fl, z⟩) (h : Rd enc W N t cs) : ∃ s, cs = [.string s] := by
  obtain ⟨x, hx⟩ := h
  obtain ⟨s, h1, _, _⟩ := DataW.trod_string (lay_str ht) hx
  exact ⟨s, h1⟩
theorem rd_bool (ht : Go.Program.underlying Tryz.prog t = some .bool) (h : Rd enc W N t cs) : ∃ b, cs = [.bool b] := by
  obtain ⟨x, hx⟩ := h
  obtain ⟨b, h1, _⟩ := DataW.trod_bool ht hx
  exact ⟨b, h1⟩
theorem list_of {α : Type} (n : Nat) (Q : Nat → α → Prop) (h : ∀ k, k < n → ∃ x, Q k x) : ∃ l : List α, l.length = n ∧ ∀ k x, l[k]? = some x → Q k x := by
  induction n with
  | zero => exact ⟨[], rfl, fun k x hk => by simp at hk⟩
  | succ n ih =>
    obtain ⟨l, hl, hq⟩ := ih (fun k hk => h k (by omega))
    obtain ⟨x, hx⟩ := h n (by omega)
    refine ⟨l ++ [x], by simp [hl], fun k y hk => ?_⟩
    by_cases hk' : k < l.length
    · rw [List.getElem?_append_left hk'] at hk; exact hq k y hk
    · have hlt := (List.getElem?_eq_some_iff.1 hk).1
      have : k = n := by simp at hlt; omega
      subst this
      rw [List.getElem?_append_right (by omega)] at hk
      simp [hl] at hk
      exact hk ▸ hx
theorem rd_slice {α : Type} {e k : Nat} {fl : List (Nat × Nat)} {z : List ZK} {le : Lay} {g : α → List D} {Q : α → Prop} (ht : lay Tryz.prog t = some ⟨.slice e, k, fl, z⟩) (he : lay Tryz.prog e = some le) (hs : Nat.blt 0 le.size = true) (hel : ∀ n us, n < N → Rd enc W n e us → ∃ y : α, Cells W (g y) us ∧ Q y) (h : Rd enc W N t cs) :
    ∃ l : List α, Cells W [sl le.size (l.map g)] cs ∧ ∀ y ∈ l, Q y := by
  have hs : 0 < le.size := by simpa using hs
  obtain ⟨x, hx⟩ := h
  rcases DataW.trod_slice (lay_slice ht) hx with ⟨rfl, _⟩ | ⟨⟨b, o, sp⟩, len, cap, elems, rest, n, hn, rfl, _, _, hl, hm, hlen, hat, _⟩
  · exact ⟨[], ⟨⟨none, 0, rfl, Nat.le_refl _, by unfold maxLen; omega, by simp⟩, trivial⟩, by simp⟩
  rw [lay_cells he] at hat
  obtain ⟨l, h1, h2⟩ := list_of len (fun j (y : α) => Q y ∧ ∃ us, us.length = le.size ∧ Cells W (g y) us ∧ sp = none ∧ Lie W b (o + j * le.size) us) fun j hj => by
    have h3 := hat j hj
    rw [List.getElem?_eq_getElem (by omega)] at h3
    obtain ⟨us, h4, h5⟩ := Option.bind_eq_some_iff.1 h3
    obtain ⟨y, h6, h7⟩ := hel n us (by omega) ⟨_, h5⟩
    obtain ⟨_, h8, h9⟩ := World.cells?_some h4
    have hsp : sp = none := by
      have g3 := hat 0 (by omega)
      rw [List.getElem?_eq_getElem (by omega)] at g3
      obtain ⟨us, g4, _⟩ := Option.bind_eq_some_iff.1 g3
      obtain ⟨_, g8, g9⟩ := World.cells?_some g4
      have h0 := g9 0 hs
      rw [List.getElem?_eq_getElem (by omega)] at h0
      simpa [Addr.add] using World.cell?_spot h0
    subst hsp
    refine ⟨y, h7, us, h8, h6, rfl, fun i u hi => ?_⟩
    have hlt := (List.getElem?_eq_some_iff.1 hi).1
    have := h9 i (by omega)
    rw [hi] at this
    rwa [Addr.add_mid, Addr.add_mid] at this
  refine ⟨l, ⟨⟨some ⟨b, o, sp⟩, cap, by rw [List.length_map, h1], by rw [List.length_map]; omega, hm, fun j d hj => ?_⟩, trivial⟩, fun y hy => ?_⟩
  · rw [List.getElem?_map] at hj
    cases hy : l[j]? with
    | none => rw [hy] at hj; cases hj
    | some y =>
      rw [hy] at hj
      cases hj
      obtain ⟨_, us, h3, h4, rfl, h5⟩ := h2 j y hy
      exact ⟨by rw [← h3]; exact h4.len, b, o, us, rfl, h5, h4⟩
  · obtain ⟨j, hj, rfl⟩ := List.getElem_of_mem hy
    exact (h2 j _ (List.getElem?_eq_getElem hj)).1
theorem strs_came (h : Rd enc W N 45 cs) : ∃ l : List Str, Cells W [strsD l] cs := by
  obtain ⟨l, h1, _⟩ := rd_slice (g := fun s : Str => [str s]) (Q := fun _ => True) rfl rfl rfl (fun n us _ hu => by
    obtain ⟨s, rfl⟩ := rd_str rfl hu
    exact ⟨s, ⟨rfl, trivial⟩, trivial⟩) h
  exact ⟨l, h1⟩
theorem ints_came (h : Rd enc W N 24 cs) : ∃ l : List Int, Cells W [intsD l] cs := by
  obtain ⟨l, h1, _⟩ := rd_slice (g := fun s : Int => [i64 s]) (Q := fun _ => True) rfl rfl rfl (fun n us _ hu => by
    obtain ⟨s, rfl, _⟩ := rd_int rfl hu
    exact ⟨s, ⟨rfl, trivial⟩, trivial⟩) h
  exact ⟨l, h1⟩
set_option maxRecDepth 10000 in
theorem doc_came : ∀ (N : Nat) (cs : List Value), Rd enc W N 48 cs → ∃ d : Doc, Cells W (docF d) cs := by
  intro N
  induction N using Nat.strongRecOn with
  | _ N ih =>
  intro cs h
  obtain ⟨n, rfl, hl, hf⟩ := rd_struct rfl h
  match cs, hl with
  | [c0, c1, c2, c3, c4], _ =>
    obtain ⟨k, e0, _⟩ := rd_int rfl (hf 0 _ _ _ rfl rfl)
    obtain ⟨m, e1, _⟩ := rd_int rfl (hf 1 _ _ _ rfl rfl)
    obtain ⟨s, e2⟩ := rd_str rfl (hf 2 _ _ _ rfl rfl)
    obtain ⟨ks, e3⟩ := strs_came (hf 3 _ _ _ rfl rfl)
    obtain ⟨l, e4, _⟩ := rd_slice (g := docF) (Q := fun _ => True) rfl rfl rfl (fun n' us hn hu => by
      obtain ⟨d, hd⟩ := ih n' (by omega) us hu
      exact ⟨d, hd, trivial⟩) (hf 4 _ _ _ rfl rfl)
    cases e0; cases e1; cases e2
    refine ⟨.mk k m s ks l, rfl, rfl, rfl, e3.1, ?_, trivial⟩
    show (sl 5 (docsC l)).is W _
    rw [(rowDocs l).eq]
    exact e4.1
end
end Go.Proofs.YtelkpflpgpdkdaaGreatDoor
namespace Go.Proofs.YtelkpflpgpdkdaaGreatDoor
open Go Go.Sv Go.RowKit Go.ChangeShapes Go.WideShapes Go.ChangeAt
theorem cOwn : ownKnob Tryz.prog.godebug = none := by kernel_rfl
theorem cLaidOut : laidOutB Tryz.prog = true := by kernel_rfl
theorem sub_hide (w : World) : Sub w (hide [] w) := fun k o hk _ => by rw [hide_at, hk]; simp
theorem cellsC_of {β : Env} {V : World} : ∀ {l : List D} {us : List Value}, Cells V l us → CellsC β V (l.map C.d) us
  | [], [], _ => trivial
  | _ :: _, _ :: _, h => ⟨h.1, cellsC_of h.2⟩
theorem tab_of {W : World} (h : laidMetH Tryz.prog Rows.stageOrderRow.laid W) : Gl Tryz.prog W := by
  rw [MakeChecks.laidMetH_plain _ _ _ (by kernel_rfl)] at h
  obtain ⟨ps, ⟨g0, t0, cs0, f0, p0, q0, hg0, ht0, hv0, hd0, ⟨g1, t1, cs1, f1, p1, q1, hg1, ht1, hv1, hd1, ⟨g2, t2, cs2, f2, p2, q2, hg2, ht2, hv2, hd2, _, _⟩, _⟩, _⟩, _, _⟩ := h
  have hg : Tryz.prog.globalNamed "internal/strconv.uint64pow10" = some 1 := by kernel_rfl
  obtain rfl := Option.some.inj (hg.symm.trans hg2)
  have hty : (Tryz.prog.globals[1]?).map (·.type) = some 336 := by kernel_rfl
  obtain rfl := Option.some.inj (hty.symm.trans ht2)
  show W.var? Tryz.prog "internal/strconv.uint64pow10" = _
  rw [hv2, ← Lib.cells_of_tab (k := .u64) (zs := Lib.pow10Tab) (n := 20) (e := 147) Tryz.underlying336 Tryz.underlying147 (by kernel_rfl) (by kernel_rfl) hd2]
end Go.Proofs.YtelkpflpgpdkdaaGreatDoor
