/- All and Twice of a Net. -/
import Derived.Test.YtfedndlmlbgboaaTurn
namespace Go.Proofs.Ytfedndlmlbgboaa
open Go.RowKit Go.Conc

def flat (l : List Msg) : List Value := l.flatMap Msg.cells
theorem flat_length (l : List Msg) : (flat l).length = l.length * 4 := by
  induction l with
  | nil => rfl
  | cons m l ih => simp only [flat, List.flatMap_cons, List.length_append, List.length_cons] at *; rw [ih]; simp [Msg.cells]; omega
theorem flat_append (l l' : List Msg) : flat (l ++ l') = flat l ++ flat l' := by simp [flat]

def AllPost (p c cap : Nat) (l : List Msg) (w : World) (e : Ending) (w' : World) : Prop :=
  ∃ v, e = .returned v ∧ w'.ownsRow w.heap.size 30 4 v l.length (flat l) ∧ NetIs w' p c cap l ∧ But c w w'

def AllRel (p c cap : Nat) (l : List Msg) (w : World) (k : Nat) (v : Value) (wr : World) : Prop :=
  wr.ownsRow w.heap.size 30 4 v k (flat (l.take k)) ∧ NetIs wr p c cap (l.drop k ++ l.take k) ∧ But c w wr

theorem Try.info30 : (Try.prog.info? 30).map (fun i => (i.zero, i.size, i.bytes)) = some (some (.agg #[.int .i64 0, .int .i64 0, .int .i64 0, .int .i64 0]), 4, 32) := by kernel_rfl

theorem ownsRow_below {w w' : World} {base e size n : Nat} {v : Value} {xs : List Value} (h : w.ownsRow base e size v n xs) (hb : Below w.heap.size w w') : w'.ownsRow base e size v n xs :=
  h.kept (row := none) ⟨hb.os, hb.tape, hb.output, hb.size, fun k hk _ => hb.block k hk⟩ (by cases v.ownBlock <;> simp)
theorem ownsRow_but {w w' : World} {base e size n c : Nat} {v : Value} {xs : List Value} (h : w.ownsRow base e size v n xs) (hb : But c w w') (hc : c < base) : w'.ownsRow base e size v n xs := by
  refine h.kept (row := some c) ⟨hb.os, hb.tape, hb.output, hb.size, fun k hk hkc => hb.block k hk (by simpa using hkc)⟩ ?_
  by_cases hv : v.ownBlock = none
  · exact .inl hv
  · refine .inr fun he => ?_
    have := (h.lt c he).1
    omega
theorem But.grown {c : Nat} {a w w' : World} {row : Option Nat} (h : But c a w) (hg : w.grownBy w' row) (hr : ∀ k, row = some k → a.heap.size ≤ k) : But c a w' :=
  ⟨hg.os.trans h.os, hg.tape.trans h.tape, hg.output.trans h.output, Nat.le_trans h.size hg.size, fun k hk hc =>
    (hg.block k (Nat.lt_of_lt_of_le hk h.size) (fun e => by have := hr k e.symm; omega)).trans (h.block k hk hc)⟩
theorem NetIs.grown {w w' : World} {p c cap B : Nat} {l : List Msg} (h : NetIs w p c cap l) {row : Option Nat} (hg : w.grownBy w' row) (hr : ∀ k, row = some k → B ≤ k) (hp : p < B) (hc : c < B) : NetIs w' p c cap l :=
  h.keep (hg.block p h.lt.1 fun e => by have := hr p e.symm; omega) (hg.block c h.lt.2.1 fun e => by have := hr c e.symm; omega)

/-- The round's turn in plain lists. -/
theorem turn_list {l : List Msg} {k : Nat} (h : k < l.length) : l.drop k ++ l.take k = l[k] :: (l.drop (k + 1) ++ l.take k) ∧ (l.drop (k + 1) ++ l.take k) ++ [l[k]] = l.drop (k + 1) ++ l.take (k + 1) := by
  refine ⟨by rw [List.drop_eq_getElem_cons h]; rfl, ?_⟩
  rw [List.append_assoc, List.take_succ_eq_append_getElem h]

set_option maxHeartbeats 400000 in
theorem all_any (p c cap : Nat) (l : List Msg) (w : World) (h : NetIs w p c cap l) (hl : l.length ≤ cap) (hcap : cap ≤ 32) :
    Calls Try.prog 22 #[.pointer (some ⟨p, 0, none⟩)] w (AllPost p c cap l w) := by
  obtain ⟨i0, hi, hz0, hz1, hz2⟩ := info_parts Try.info30
  have hlt := h.lt
  have h1 := Lib.hid h
  clear h
  go_enter Try.func22, Try.ntmps22
  go_wp2_with fail
  refine (len_any p c cap l _ h1.out).mono ?_
  rintro e w1 ⟨rfl, rfl⟩
  go_wp2_with fail
  go_loopw [3, 8] (fun v i wr => ∃ k : Nat, k ≤ l.length ∧ i = .int .i64 k ∧ AllRel p c cap l w k v wr) (fun _ i _ => l.length - (intOf i).toNat)
  case atStart => exact ⟨0, Nat.zero_le _, rfl, World.ownsRow_nil _ _ _ _, by simpa using h1.out, But.refl _ _⟩
  case round =>
    obtain ⟨k, hk, rfl, hr⟩ := hrel
    by_cases hlt : k < l.length
    · obtain ⟨ho, hn, hb⟩ := hr
      obtain ⟨t1, t2⟩ := turn_list hlt
      rw [t1] at hn
      have hT := Lib.hid t2
      have hlen : (l.drop (k + 1) ++ l.take k).length < cap := by simp; omega
      have hfl : flat (l.take (k + 1)) = flat (l.take k) ++ l[k].cells := by rw [List.take_succ_eq_append_getElem hlt, flat_append]; simp [flat]
      have HF := Lib.hid hfl
      generalize l[k] = m at *
      generalize l.drop (k + 1) ++ l.take k = r at *
      have HO := Lib.hid ho
      have hb1 := hb.size
      have HN := Lib.hid hn
      have HB := Lib.hid hb
      clear t1 t2 hfl hn ho hb
      go_wp2_with fail
      refine (take_at p c cap (m :: r) _ HN).mono ?_
      rintro e w1 ⟨rfl, hs⟩
      simp only [List.isEmpty_cons, Bool.not_false, List.headD_cons]
      have hb2 := hs.2.size
      have ho := (ownsRow_but HO.out hs.2 (by omega)).alloc (.cells #[.int .i64 m.to, .int .i64 m.epoch, .int .i64 m.seq, .int .i64 m.commit] 30) |>.alloc (.cells #[.int .i64 m.to, .int .i64 m.epoch, .int .i64 m.seq, .int .i64 m.commit] 30)
      have hq := ho.lt
      have HQ := Lib.hid hq
      have HX := Lib.hid ho
      clear ho hq
      go_wp2_with (at_builtin; refine wpList_append_own _ rfl _ _ 37 rfl w.heap.size 30 i0 (.agg #[.int .i64 0, .int .i64 0, .int .i64 0, .int .i64 0]) 4 32 Try.underlying37 hi hz0 hz1 hz2 rfl (by decide) _ _ _ rfl HX.out ⟨w1.heap.size + 1, 0, none⟩ 1 1 m.cells rfl rfl ?c1 ?c2 ?c3 ?c4 ?c5 ?_)
      case c1 =>
        intro j u hj
        rcases j with _ | _ | _ | _ | j <;> simp [Msg.cells, Addr.add] at hj ⊢ <;> simp [hj]
      case c2 => intro u hu; simp [Msg.cells] at hu; rcases hu with rfl | rfl | rfl | rfl <;> rfl
      case c3 => unfold maxLen; omega
      case c4 => omega
      case c5 => simp; omega
      intro v' w2 ho2 hg _
      have hn2 : NetIs w2 p c cap r := by
        refine NetIs.grown (B := w.heap.size) (hs.1.below (((Below.refl _ _).alloc (Nat.le_refl _) _).alloc (by simp) _) (by omega) (by omega)) hg (fun k hk => ?_) (by omega) (by omega)
        exact (HQ.out k hk).1
      have hb2' : But c w w2 := ((HB.out.trans hs.2).alloc _).alloc _ |>.grown hg (fun k hk => (HQ.out k hk).1)
      have hne : some w1.heap.size ≠ u3.ownBlock := fun he => by have := (HO.out.lt _ he.symm).2; omega
      have b0 : w2.cell? ⟨w1.heap.size, 0, none⟩ = some (.int .i64 m.to) := hg.cell (by simp) hne
      have b1 : w2.cell? ⟨w1.heap.size, 1, none⟩ = some (.int .i64 m.epoch) := hg.cell (by simp) hne
      have b2 : w2.cell? ⟨w1.heap.size, 2, none⟩ = some (.int .i64 m.seq) := hg.cell (by simp) hne
      have b3 : w2.cell? ⟨w1.heap.size, 3, none⟩ = some (.int .i64 m.commit) := hg.cell (by simp) hne
      have G2 := Lib.hid hg
      have O2 := Lib.hid ho2
      have N2 := Lib.hid hn2
      have B2 := Lib.hid hb2'
      have hz2' := hb2'.size
      clear hg ho2 hn2 hb2' hne HX HQ HO HN HB hs G2
      go_wp2_with fail
      refine (send_any p c cap r m _ N2.out).mono ?_
      rintro e w3 ⟨rfl, hn3, hb3⟩
      rw [if_pos hlen, hT.out] at hn3
      have hR : AllRel p c cap l w (k + 1) v' w3 := by
        refine ⟨?_, hn3, B2.out.trans hb3⟩
        rw [HF.out]
        exact ownsRow_but O2.out hb3 (by omega)
      have HR := Lib.hid hR
      clear hR hn3 hb3 hT HF O2 N2 B2 b0 b1 b2 b3
      go_wp2_with fail
      go_roundw
      case rel => exact ⟨k + 1, by omega, by go_num, HR.out⟩
      case measure => simp [intOf]; omega
    · have hk' : k = l.length := by omega
      subst hk'
      obtain ⟨ho, hn, hb⟩ := hr
      have hp : AllPost p c cap l w (.returned u3) wr := by
        refine ⟨u3, rfl, by simpa using ho, by simpa using hn, hb⟩
      clear ho hn hb
      go_wp2_with fail
      go_ret
      exact hp
end Go.Proofs.Ytfedndlmlbgboaa
