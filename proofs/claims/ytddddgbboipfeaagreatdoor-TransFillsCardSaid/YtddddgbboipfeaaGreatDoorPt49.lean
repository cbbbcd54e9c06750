/- Part 49 of what TransFills asks: for every input it returns true, and its input reads as it did. No condition. -/
import Derived.Test.YtddddgbboipfeaaGreatDoorPt25
import Derived.Test.YtddddgbboipfeaaGreatDoorPt48
import Derived.Test.YtddddgbboipfeaaGreatDoorCards
import Derived.Test.YtddddgbboipfeaaGreatDoorRows
import Derived.Test.YtddddgbboipfeaaGreatDoorTie
import Derived.ChangeArms
import Derived.OpenShut
import Derived.SevenTiedAt
import Derived.LaidMore
import Derived.LaidLaws
import Derived.ProofKit
import Derived.ChangeSame
import Derived.ChangeVars
import Derived.JoinedOf
import Derived.Lay
import Derived.Lib.LaidTab
namespace Go.Proofs.YtddddgbboipfeaaGreatDoor
open Go.Sv
section
variable {H : Type} {enc : TypeId × Value → H} {W : World} {t : TypeId} {N : Nat} {cs : List Value}
def Rd (enc : TypeId × Value → H) (W : World) (N : Nat) (t : TypeId) (cs : List Value) : Prop := ∃ x : DataW H × List MemPlace, DataW.trod enc Tryz.prog W 0 (fun _ => true) true N t cs = some x
theorem lay_cells {l : Lay} (h : lay Tryz.prog t = some l) : Go.Program.cellsOf Tryz.prog t = l.size := by
  obtain ⟨d, i, z, _, hi, ⟨h1, _⟩, _⟩ := lay_all h
  unfold Go.Program.cellsOf
  rw [hi]; exact h1
theorem rd_struct {k : Nat} {fl : List (Nat × Nat)} {z : List ZK} (ht : lay Tryz.prog t = some ⟨.struct, k, fl, z⟩) (h : Rd enc W N t cs) : ∃ n, N = n + 1 ∧ cs.length = k ∧ ∀ (i o u : Nat) (lu : Lay), fl[i]? = some (o, u) → lay Tryz.prog u = some lu → Rd enc W n u ((cs.drop o).take lu.size) := by
  obtain ⟨fs, hfs, hfl⟩ := lay_struct ht
  obtain ⟨x, hx⟩ := h
  obtain ⟨xs, n, h1, _, h2, h3, h4⟩ := DataW.trod_struct hfs hx
  refine ⟨n, h1, h2.trans (lay_cells ht), fun i o u lu hi hu => ?_⟩
  subst hfl
  rw [List.getElem?_map] at hi
  cases hf : fs.toList[i]? with
  | none => rw [hf] at hi; cases hi
  | some f =>
    rw [hf] at hi
    cases hi
    have := h4 i f (by rw [← Array.getElem?_toList]; exact hf)
    have hlt : i < xs.length := by have := (List.getElem?_eq_some_iff.1 hf).1; rw [Array.length_toList] at this; omega
    rw [List.getElem?_eq_getElem hlt, lay_cells hu] at this
    exact ⟨_, this⟩
theorem rd_int {k : IntKind} {s : Nat} {fl : List (Nat × Nat)} {z : List ZK} (ht : lay Tryz.prog t = some ⟨.int k, s, fl, z⟩) (h : Rd enc W N t cs) : ∃ n, cs = [.int k n] ∧ (Lit.int k n).wf = true := by
  obtain ⟨x, hx⟩ := h
  obtain ⟨n, h1, _, h2⟩ := DataW.trod_int (lay_int ht) hx
  exact ⟨n, h1, h2⟩
theorem rd_str {s : Nat} {fl : List (Nat × Nat)} {z : List ZK} (ht : lay Tryz.prog t = some ⟨.str, s, fl, z⟩) (h : Rd enc W N t cs) : ∃ s, cs = [.string s] := by
  obtain ⟨x, hx⟩ := h
  obtain ⟨s, h1, _, _⟩ := DataW.trod_string (lay_str ht) hx
  exact ⟨s, h1⟩
theorem rd_bool (ht : Go.Program.underlying Tryz.prog t = some .bool) (h : Rd enc W N t cs) : ∃ b, cs = [.bool b] := by
  obtain ⟨x, hx⟩ := h
  obtain ⟨b, h1, _⟩ := DataW.trod_bool ht hx
  exact ⟨b, h1⟩
theorem list_of {α : Type} (n : Nat) (Q : Nat → α → Prop) (h : ∀ k, k < n → ∃ x, Q k x) : ∃ l : List α, l.length = n ∧ ∀ k x, l[k]? = some x → Q k x := by
  induction n with
  | zero => exact ⟨[], rfl, fun k x hk => by simp at hk⟩
  | succ n ih =>
    obtain ⟨l, hl, hq⟩ := ih (fun k hk => h k (by omega))
    obtain ⟨x, hx⟩ := h n (by omega)
    refine ⟨l ++ [x], by simp [hl], fun k y hk => ?_⟩
    by_cases hk' : k < l.length
    · rw [List.getElem?_append_left hk'] at hk; exact hq k y hk
    · have hlt := (List.getElem?_eq_some_iff.1 hk).1
      have : k = n := by simp at hlt; omega
      subst this
      rw [List.getElem?_append_right (by omega)] at hk
      simp [hl] at hk
      exact hk ▸ hx
theorem rd_slice {α : Type} {e k : Nat} {fl : List (Nat × Nat)} {z : List ZK} {le : Lay} {g : α → List D} {Q : α → Prop} (ht : lay Tryz.prog t = some ⟨.slice e, k, fl, z⟩) (he : lay Tryz.prog e = some le) (hs : Nat.blt 0 le.size = true) (hel : ∀ n us, n < N → Rd enc W n e us → ∃ y : α, Cells W (g y) us ∧ Q y) (h : Rd enc W N t cs) :
    ∃ l : List α, Cells W [sl le.size (l.map g)] cs ∧ ∀ y ∈ l, Q y := by
  have hs : 0 < le.size := by simpa using hs
  obtain ⟨x, hx⟩ := h
  rcases DataW.trod_slice (lay_slice ht) hx with ⟨rfl, _⟩ | ⟨⟨b, o, sp⟩, len, cap, elems, rest, n, hn, rfl, _, _, hl, hm, hlen, hat, _⟩
  · exact ⟨[], ⟨⟨none, 0, rfl, Nat.le_refl _, by unfold maxLen; omega, by simp⟩, trivial⟩, by simp⟩
  rw [lay_cells he] at hat
  obtain ⟨l, h1, h2⟩ := list_of len (fun j (y : α) => Q y ∧ ∃ us, us.length = le.size ∧ Cells W (g y) us ∧ sp = none ∧ Lie W b (o + j * le.size) us) fun j hj => by
    have h3 := hat j hj
    rw [List.getElem?_eq_getElem (by omega)] at h3
    obtain ⟨us, h4, h5⟩ := Option.bind_eq_some_iff.1 h3
    obtain ⟨y, h6, h7⟩ := hel n us (by omega) ⟨_, h5⟩
    obtain ⟨_, h8, h9⟩ := World.cells?_some h4
    have hsp : sp = none := by
      have g3 := hat 0 (by omega)
      rw [List.getElem?_eq_getElem (by omega)] at g3
      obtain ⟨us, g4, _⟩ := Option.bind_eq_some_iff.1 g3
      obtain ⟨_, g8, g9⟩ := World.cells?_some g4
      have h0 := g9 0 hs
      rw [List.getElem?_eq_getElem (by omega)] at h0
      simpa [Addr.add] using World.cell?_spot h0
    subst hsp
    refine ⟨y, h7, us, h8, h6, rfl, fun i u hi => ?_⟩
    have hlt := (List.getElem?_eq_some_iff.1 hi).1
    have := h9 i (by omega)
    rw [hi] at this
    rwa [Addr.add_mid, Addr.add_mid] at this
  refine ⟨l, ⟨⟨some ⟨b, o, sp⟩, cap, by rw [List.length_map, h1], by rw [List.length_map]; omega, hm, fun j d hj => ?_⟩, trivial⟩, fun y hy => ?_⟩
  · rw [List.getElem?_map] at hj
    cases hy : l[j]? with
    | none => rw [hy] at hj; cases hj
    | some y =>
      rw [hy] at hj
      cases hj
      obtain ⟨_, us, h3, h4, rfl, h5⟩ := h2 j y hy
      exact ⟨by rw [← h3]; exact h4.len, b, o, us, rfl, h5, h4⟩
  · obtain ⟨j, hj, rfl⟩ := List.getElem_of_mem hy
    exact (h2 j _ (List.getElem?_eq_getElem hj)).1
theorem strs_came (h : Rd enc W N 26 cs) : ∃ l : List Str, Cells W [strsD l] cs := by
  obtain ⟨l, h1, _⟩ := rd_slice (g := fun s : Str => [str s]) (Q := fun _ => True) rfl rfl rfl (fun n us _ hu => by
    obtain ⟨s, rfl⟩ := rd_str rfl hu
    exact ⟨s, ⟨rfl, trivial⟩, trivial⟩) h
  exact ⟨l, h1⟩
theorem ints_came (h : Rd enc W N 48 cs) : ∃ l : List Int, Cells W [intsD l] cs := by
  obtain ⟨l, h1, _⟩ := rd_slice (g := fun s : Int => [i64 s]) (Q := fun _ => True) rfl rfl rfl (fun n us _ hu => by
    obtain ⟨s, rfl, _⟩ := rd_int rfl hu
    exact ⟨s, ⟨rfl, trivial⟩, trivial⟩) h
  exact ⟨l, h1⟩
set_option maxRecDepth 10000 in
theorem doc_came : ∀ (N : Nat) (cs : List Value), Rd enc W N 29 cs → ∃ d : Doc, Cells W (docF d) cs := by
  intro N
  induction N using Nat.strongRecOn with
  | _ N ih =>
  intro cs h
  obtain ⟨n, rfl, hl, hf⟩ := rd_struct rfl h
  match cs, hl with
  | [c0, c1, c2, c3, c4], _ =>
    obtain ⟨k, e0, _⟩ := rd_int rfl (hf 0 _ _ _ rfl rfl)
    obtain ⟨m, e1, _⟩ := rd_int rfl (hf 1 _ _ _ rfl rfl)
    obtain ⟨s, e2⟩ := rd_str rfl (hf 2 _ _ _ rfl rfl)
    obtain ⟨ks, e3⟩ := strs_came (hf 3 _ _ _ rfl rfl)
    obtain ⟨l, e4, _⟩ := rd_slice (g := docF) (Q := fun _ => True) rfl rfl rfl (fun n' us hn hu => by
      obtain ⟨d, hd⟩ := ih n' (by omega) us hu
      exact ⟨d, hd, trivial⟩) (hf 4 _ _ _ rfl rfl)
    cases e0; cases e1; cases e2
    refine ⟨.mk k m s ks l, rfl, rfl, rfl, e3.1, ?_, trivial⟩
    show (sl 5 (docsC l)).is W _
    rw [(rowDocs l).eq]
    exact e4.1
set_option maxRecDepth 10000 in
theorem typ_came : ∀ (N : Nat) (cs : List Value), Rd enc W N 62 cs → ∃ d : Typ, Cells W (typF d) cs := by
  intro N
  induction N using Nat.strongRecOn with
  | _ N ih =>
  intro cs h
  obtain ⟨n, rfl, hl, hf⟩ := rd_struct rfl h
  match cs, hl with
  | [c0, c1, c2, c3, c4, c5], _ =>
    obtain ⟨k, e0, _⟩ := rd_int rfl (hf 0 _ _ _ rfl rfl)
    obtain ⟨a, e1, _⟩ := rd_int rfl (hf 1 _ _ _ rfl rfl)
    obtain ⟨b, e2, _⟩ := rd_int rfl (hf 2 _ _ _ rfl rfl)
    obtain ⟨ns, e3⟩ := strs_came (hf 3 _ _ _ rfl rfl)
    obtain ⟨fs, e4, _⟩ := rd_slice (g := fldF) (Q := fun _ => True) rfl rfl rfl (fun n' us hn hu => by
      obtain ⟨n2, rfl, hl2, hf2⟩ := rd_struct rfl hu
      obtain ⟨s, h0⟩ := rd_str rfl (hf2 0 _ _ _ rfl rfl)
      obtain ⟨o, h1⟩ := rd_bool (by exact Tryz.underlying4) (hf2 1 _ _ _ rfl rfl)
      obtain ⟨t, h2⟩ := ih n2 (by omega) _ (hf2 2 _ _ _ rfl rfl)
      match us, hl2 with
      | u0 :: u1 :: us, hl2 =>
        cases h0; cases h1
        have h5 : us.take 6 = us := List.take_of_length_le (by simp at hl2; omega)
        have h2 : Cells W (typF t) (us.take 6) := h2
        exact ⟨.mk s o t, ⟨rfl, rfl, h5 ▸ h2⟩, trivial⟩) (hf 4 _ _ _ rfl rfl)
    obtain ⟨l, e5, _⟩ := rd_slice (g := typF) (Q := fun _ => True) rfl rfl rfl (fun n' us hn hu => by
      obtain ⟨d, hd⟩ := ih n' (by omega) us hu
      exact ⟨d, hd, trivial⟩) (hf 5 _ _ _ rfl rfl)
    cases e0; cases e1; cases e2
    refine ⟨.mk k a b ns fs l, rfl, rfl, rfl, e3.1, ?_, ?_, trivial⟩
    · show (sl 8 (fldsC fs)).is W _
      rw [(rowFlds fs).eq]
      exact e4.1
    · show (sl 6 (typsC l)).is W _
      rw [(rowTyps l).eq]
      exact e5.1
theorem cells_split {a b : List D} {us : List Value} (h1 : Cells W a (us.take a.length)) (h2 : Cells W b (us.drop a.length)) : Cells W (a ++ b) us := by
  have := All2.append h1 h2
  rwa [List.take_append_drop] at this
theorem swap_came (h : Rd enc W N 171 cs) : ∃ p : Int × Int, Cells W (swapF p) cs ∧ I64 p.1 ∧ I64 p.2 := by
  obtain ⟨x, hx⟩ := h
  obtain ⟨xs, m, _, _, h2, h3, h4⟩ := DataW.trod_array Tryz.underlying171 hx
  have h2 : cs.length = 2 := h2.trans (by kernel_rfl)
  have hc : Go.Program.cellsOf Tryz.prog 3 = 1 := by kernel_rfl
  rw [hc] at h4
  match cs, h2 with
  | [c0, c1], _ =>
    have a0 := h4 0 (by omega)
    have a1 := h4 1 (by omega)
    rw [List.getElem?_eq_getElem (by omega)] at a0 a1
    obtain ⟨n0, e0, _, w0⟩ := DataW.trod_int Tryz.underlying3 a0
    obtain ⟨n1, e1, _, w1⟩ := DataW.trod_int Tryz.underlying3 a1
    cases e0; cases e1
    exact ⟨(n0, n1), ⟨rfl, rfl, trivial⟩, w0, w1⟩
theorem wides_of : ∀ {l : List Lens}, (∀ s ∈ l, Lens.wide1 s) → Lens.wides l
  | [], _ => by unfold Lens.wides; trivial
  | s :: l, h => by unfold Lens.wides; exact ⟨h s (List.mem_cons_self ..), wides_of fun x hx => h x (List.mem_cons_of_mem _ hx)⟩
set_option maxRecDepth 10000 in
theorem lens_came : ∀ (N : Nat) (cs : List Value), Rd enc W N 71 cs → ∃ s : Lens, Cells W (lensF s) cs ∧ Lens.wide1 s := by
  intro N
  induction N using Nat.strongRecOn with
  | _ N ih =>
  intro cs h
  obtain ⟨n, rfl, hl, hf⟩ := rd_struct rfl h
  match cs, hl with
  | u0 :: u1 :: u2 :: us, hl =>
    obtain ⟨k, e0, _⟩ := rd_int rfl (hf 0 _ _ _ rfl rfl)
    obtain ⟨a, e1⟩ := rd_str rfl (hf 1 _ _ _ rfl rfl)
    obtain ⟨b, e2⟩ := rd_str rfl (hf 2 _ _ _ rfl rfl)
    obtain ⟨t, e3⟩ := typ_came _ _ (hf 3 _ _ _ rfl rfl)
    obtain ⟨d, e4⟩ := doc_came _ _ (hf 4 _ _ _ rfl rfl)
    obtain ⟨ws, e5, q5⟩ := rd_slice (g := swapF) (Q := fun p : Int × Int => I64 p.1 ∧ I64 p.2) rfl rfl rfl (fun n' us _ hu => swap_came hu) (hf 5 _ _ _ rfl rfl)
    obtain ⟨l, e6, q6⟩ := rd_slice (g := lensF) (Q := Lens.wide1) rfl rfl rfl (fun n' us hn hu => ih n' (by omega) us hu) (hf 6 _ _ _ rfl rfl)
    cases e0; cases e1; cases e2
    refine ⟨.mk k a b t d ws l, ⟨rfl, rfl, rfl, cells_split (a := typF t) e3 (cells_split (a := docF d) (b := [sl 2 (ws.map swapF), sl 16 (lensesC l)]) e4 ?_)⟩, ?_⟩
    · rw [(rowLens l).eq]
      have hlen : ((us.drop 6).drop 5).length = 2 := by simp only [List.length_cons] at hl; rw [List.length_drop, List.length_drop]; omega
      have e5 : Cells W [sl 2 (ws.map swapF)] (((us.drop 6).drop 5).take 1) := by rw [List.drop_drop]; exact e5
      have e6 : Cells W [sl 16 (l.map lensF)] ((((us.drop 6).drop 5).drop 1).take 1) := by rw [List.drop_drop, List.drop_drop]; exact e6
      show Cells W _ ((us.drop 6).drop 5)
      generalize (us.drop 6).drop 5 = vs at *
      match vs, hlen with
      | [v0, v1], _ => exact ⟨e5.1, e6.1, trivial⟩
    · unfold Lens.wide1
      refine ⟨fun m hm => ?_, wides_of q6⟩
      obtain ⟨p, hp, hm⟩ := List.mem_flatMap.1 hm
      have := q5 p hp
      rcases List.mem_cons.1 hm with rfl | hm
      · exact this.1
      · rw [List.mem_singleton.1 hm]; exact this.2
set_option maxRecDepth 10000 in
theorem res_came (h : Rd enc W N 50 cs) : ∃ x : Res, Cells W (resF x) cs := by
  obtain ⟨n, rfl, hl, hf⟩ := rd_struct rfl h
  match cs, hl with
  | u0 :: u1 :: u2 :: us, hl =>
    obtain ⟨k, e0, _⟩ := rd_int rfl (hf 0 _ _ _ rfl rfl)
    obtain ⟨st, e1⟩ := ints_came (hf 1 _ _ _ rfl rfl)
    obtain ⟨ks, e2⟩ := strs_came (hf 2 _ _ _ rfl rfl)
    obtain ⟨d, e3⟩ := doc_came _ _ (hf 3 _ _ _ rfl rfl)
    cases e0
    have e3 : Cells W (docF d) us := by
      have h5 : us.take 5 = us := List.take_of_length_le (by simp at hl; omega)
      exact h5 ▸ e3
    exact ⟨⟨k, st, ks, d⟩, rfl, e1.1, e2.1, e3⟩
set_option maxRecDepth 10000 in
theorem state_came (h : Rd enc W N 32 cs) : ∃ s : State, Cells W (stateF s) cs := by
  obtain ⟨n, rfl, hl, hf⟩ := rd_struct rfl h
  obtain ⟨d, e3⟩ := doc_came _ _ (hf 0 _ _ _ rfl rfl)
  obtain ⟨l, e6, _⟩ := rd_slice (g := resF) (Q := fun _ => True) rfl rfl rfl (fun n' us hn hu => by
    obtain ⟨x, hx⟩ := res_came hu
    exact ⟨x, hx, trivial⟩) (hf 1 _ _ _ rfl rfl)
  refine ⟨⟨d, l⟩, cells_split (a := docF d) e3 ?_⟩
  have h5 : (cs.drop 5).take 1 = cs.drop 5 := List.take_of_length_le (by rw [List.length_drop]; omega)
  exact h5 ▸ e6
set_option maxRecDepth 10000 in
theorem reg_came (h : Rd enc W N 25 cs) : ∃ r : Registry, Cells W (regF r) cs ∧ ∀ j ∈ r.joins, Lens.wides j.lens := by
  obtain ⟨n, rfl, hl, hf⟩ := rd_struct rfl h
  match cs, hl with
  | [u0, u1], _ =>
    obtain ⟨ss, e0, _⟩ := rd_slice (g := namedF) (Q := fun _ => True) rfl rfl rfl (fun n' us hn hu => by
      obtain ⟨n2, rfl, hl2, hf2⟩ := rd_struct rfl hu
      obtain ⟨s, h0⟩ := rd_str rfl (hf2 0 _ _ _ rfl rfl)
      obtain ⟨t, h2⟩ := typ_came _ _ (hf2 1 _ _ _ rfl rfl)
      match us, hl2 with
      | u0 :: us, hl2 =>
        cases h0
        have h5 : us.take 6 = us := List.take_of_length_le (by simp at hl2; omega)
        exact ⟨⟨s, t⟩, ⟨rfl, h5 ▸ h2⟩, trivial⟩) (hf 0 _ _ _ rfl rfl)
    obtain ⟨js, e1, q1⟩ := rd_slice (g := joinF) (Q := fun j : Join => Lens.wides j.lens) rfl rfl rfl (fun n' us hn hu => by
      obtain ⟨n2, rfl, hl2, hf2⟩ := rd_struct rfl hu
      obtain ⟨a, h0, _⟩ := rd_int rfl (hf2 0 _ _ _ rfl rfl)
      obtain ⟨b, h1, _⟩ := rd_int rfl (hf2 1 _ _ _ rfl rfl)
      obtain ⟨l, h2, q⟩ := rd_slice (g := lensF) (Q := Lens.wide1) rfl rfl rfl (fun n' us hn hu => lens_came _ _ hu) (hf2 2 _ _ _ rfl rfl)
      match us, hl2 with
      | [u0, u1, u2], hl2 =>
        cases h0; cases h1
        refine ⟨⟨a, b, l⟩, ⟨rfl, rfl, ?_, trivial⟩, wides_of q⟩
        rw [(rowLens l).eq]
        exact h2.1) (hf 1 _ _ _ rfl rfl)
    exact ⟨⟨ss, js⟩, ⟨e0.1, e1.1, trivial⟩, q1⟩
end
end Go.Proofs.YtddddgbboipfeaaGreatDoor
namespace Go.Proofs.YtddddgbboipfeaaGreatDoor
open Go Go.Sv Go.RowKit Go.ChangeShapes Go.WideShapes Go.ChangeAt
theorem cOwn : ownKnob Tryz.prog.godebug = none := by kernel_rfl
theorem cLaidOut : laidOutB Tryz.prog = true := by kernel_rfl
theorem sub_hide (w : World) : Sub w (hide [] w) := fun k o hk _ => by rw [hide_at, hk]; simp
theorem cellsC_of {β : Env} {V : World} : ∀ {l : List D} {us : List Value}, Cells V l us → CellsC β V (l.map C.d) us
  | [], [], _ => trivial
  | _ :: _, _ :: _, h => ⟨h.1, cellsC_of h.2⟩
theorem tab_of {W : World} (h : laidMetH Tryz.prog Rows.transFillsRow.laid W) : Gl Tryz.prog W := by
  rw [MakeChecks.laidMetH_plain _ _ _ (by kernel_rfl)] at h
  obtain ⟨ps, ⟨g0, t0, cs0, f0, p0, q0, hg0, ht0, hv0, hd0, ⟨g1, t1, cs1, f1, p1, q1, hg1, ht1, hv1, hd1, ⟨g2, t2, cs2, f2, p2, q2, hg2, ht2, hv2, hd2, _, _⟩, _⟩, _⟩, _, _⟩ := h
  have hg : Tryz.prog.globalNamed "internal/strconv.uint64pow10" = some 1 := by kernel_rfl
  obtain rfl := Option.some.inj (hg.symm.trans hg2)
  have hty : (Tryz.prog.globals[1]?).map (·.type) = some 284 := by kernel_rfl
  obtain rfl := Option.some.inj (hty.symm.trans ht2)
  show W.var? Tryz.prog "internal/strconv.uint64pow10" = _
  rw [hv2, ← Lib.cells_of_tab (k := .u64) (zs := Lib.pow10Tab) (n := 20) (e := 187) Tryz.underlying284 Tryz.underlying187 (by kernel_rfl) (by kernel_rfl) hd2]
end Go.Proofs.YtddddgbboipfeaaGreatDoor
namespace Go.Proofs.YtddddgbboipfeaaGreatDoor
open Go Go.Sv Go.RowKit Go.ChangeShapes Go.WideShapes Go.ChangeAt
theorem cWalk (W : World) (cs0 cs2 : Array Value) (x : Int) (r : Registry) (s : State) (hr : Cells W (regF r) cs0.toList) (hs : Cells W (stateF s) cs2.toList) (hw : ∀ j ∈ r.joins, Lens.wides j.lens) (hL : Gl Tryz.prog W) :
    Calls Tryz.prog 3 #[.agg cs0, .int .i64 x, .agg cs2] W fun e W' => e = .returned (.bool true) ∧ Below W.heap.size W W' := by
  have hc := (fillsC rawC r x s (fun hf => few_regG (by unfold fewBoth at hf; rw [Bool.and_eq_true] at hf; exact hf.1) hw) 0).2.2 (fun _ => undef) [] W #[.agg cs0, .int .i64 x, .agg cs2]
  have hS := sub_hide W
  refine (hc ⟨⟨cs0.toList, by simp, cellsC_of (hr.mono hS)⟩, rfl, ⟨cs2.toList, by simp, cellsC_of (hs.mono hS)⟩, trivial⟩ ⟨⟨nofun, nofun, nofun, nofun⟩, hL.mono hS⟩).mono ?_
  rintro e W' ⟨v, β', rfl, hk, _, _, hv, _, _⟩
  have hv : v = .bool true := hv
  subst hv
  exact ⟨rfl, hk.os, hk.tape, hk.output, hk.size, fun k hk' => hk.block k hk' nofun⟩
theorem cMet (os : Os) (args : Array Value) : laidMetH Tryz.prog Rows.transFillsRow.laid ((World.laidAll Tryz.prog os Rows.transFillsRow.laid).forCall (fun _ _ => 0) ⟨#[], args, []⟩).memory := by
  rw [MakeChecks.laidMetH_plain _ _ _ (by kernel_rfl)]; exact laidMet_laidAll _ (by kernel_rfl) (by kernel_rfl)
set_option maxRecDepth 100000 in
theorem cLifted (os : Os) (started : os.Started) (H : Type) (enc : TypeId × Value → H) :
    ReturnsInHanded {} Tryz.checked os 3 .any (fun w args => (Rows.transFillsSpec.pre enc Tryz.prog Tryz.f3 [] false w args ∧ laidMetH Tryz.prog Rows.transFillsRow.laid w) ∧ sizedMet enc Tryz.prog Tryz.f3 (OpenSpec.ofChange Rows.transFillsSpec) false w args)
      (Rows.transFillsSpec.post enc Tryz.prog Tryz.f3 false true false false) := by
  refine returnsInHanded_of_change_and (C := Tryz.checked) (X := fun w _ => laidMetH Tryz.prog Rows.transFillsRow.laid w) (fun _ _ _ hh h => h.of_heap hh) cOwn started (by kernel_rfl) Tryz.func3
    (ChangeSpec.witness_shaped (enc := enc) (C := Tryz.checked) (os := os) (X := fun w _ => laidMetH Tryz.prog Rows.transFillsRow.laid w) false (World.laidAll Tryz.prog os Rows.transFillsRow.laid) #[.agg #[.slice none 0 0, .slice none 0 0], .int .i64 0, .agg #[.int .i64 0, .int .i64 0, .string ⟨#[]⟩, .slice none 0 0, .slice none 0 0, .slice none 0 0]] 8 (World.laidAll_os _ _ _) (World.shaped_of_ZipB (by kernel_rfl) (by kernel_rfl)) (by kernel_rfl) (by kernel_rfl) (by kernel_rfl) (cMet os _)) ?_
  intro W base args ds gs before hval0 hW _ _ hL _
  have hval : ∀ (j : Nat) t v, Tryz.f3.params[j]? = some t → args[j]? = some v → Value.okWide Tryz.prog W .any base t v := hval0
  have hW' := hW
  obtain ⟨p, q, hA0, hV, rfl, hfz, hnd⟩ := hW
  have hA : DataW.TrodAll enc Tryz.prog W 0 (fun _ => true) true Tryz.f3.params.toList args.toList ds p := hA0
  rw [Tryz.params3] at hA hval
  obtain ⟨v0, vs0, d0, ds0, p0, q0, hargs, rfl, rfl, h0, r0⟩ := trodAll_cons hA
  obtain ⟨v1, vs1, d1, ds1, p1, q1, rfl, rfl, rfl, h1, r1⟩ := trodAll_cons r0
  obtain ⟨v2, vs2, d2, ds2, p2, q2, rfl, rfl, rfl, h2, r2⟩ := trodAll_cons r1
  obtain ⟨rfl, rfl, rfl⟩ := trodAll_nil r2
  obtain rfl : args = #[v0, v1, v2] := by cases args; simp_all
  obtain ⟨rfl, rfl⟩ := trodVars_none hV
  have k0 := h0
  have k2 := h2
  have lt0 : ∀ x ∈ p0, x.block < W.heap.size := by obtain ⟨m, hm⟩ := k0; exact DataW.trod_lt m _ _ _ hm
  have lt2 : ∀ x ∈ p2, x.block < W.heap.size := by obtain ⟨m, hm⟩ := k2; exact DataW.trod_lt m _ _ _ hm
  obtain ⟨cs0, rfl, _⟩ := okWide_struct Tryz.underlying25 (hval 0 25 v0 rfl rfl)
  obtain ⟨cs2, rfl, _⟩ := okWide_struct Tryz.underlying32 (hval 2 32 v2 rfl rfl)
  obtain ⟨x1, rfl, rfl, rfl, w1⟩ := open_int Tryz.underlying3 (hval 1 3 v1 rfl rfl) h1
  obtain ⟨m0, hm0⟩ := h0
  obtain ⟨m2, hm2⟩ := h2
  obtain ⟨r, hr, hwd⟩ := reg_came (N := m0) ⟨_, hm0⟩
  obtain ⟨s, hs⟩ := state_came (N := m2) ⟨_, hm2⟩
  clear hA0 hval0
  refine (cWalk W cs0 cs2 x1 r s hr hs hwd (tab_of hL)).mono fun e W' ⟨he, bel⟩ => ?_
  subst he
  exact ⟨_, rfl, _, _, _, [], _, [], hW', trodAll_mk1 (shut_bool Tryz.underlying4 _), (trodAll_cons_mk (Below.trod cLaidOut (by kernel_rfl) (of_decide_eq_true (by kernel_rfl)) k0 bel lt0) (trodAll_cons_mk (shut_int Tryz.underlying3 w1) (trodAll_cons_mk (Below.trod cLaidOut (by kernel_rfl) (of_decide_eq_true (by kernel_rfl)) k2 bel lt2) trodAll_mk0))), rfl, bel.frame _, fun h => by cases h⟩
end Go.Proofs.YtddddgbboipfeaaGreatDoor
