/- The walk of NetTurns. -/
import Derived.Test.YtfedndlmlbgboaaRoom
namespace Go.Proofs.Ytfedndlmlbgboaa
open Go.RowKit Go.Conc

/-- The messages that NetTurns sends. -/
def sent (zs : List Int) : List Msg := zs.zipIdx.map fun x => ⟨x.1, x.2, 0, 0⟩
theorem sent_length (zs : List Int) : (sent zs).length = zs.length := by simp [sent]
theorem sent_take (zs : List Int) (k : Nat) (h : k < zs.length) : (sent zs).take (k + 1) = (sent zs).take k ++ [⟨zs[k], k, 0, 0⟩] := by
  rw [List.take_succ_eq_append_getElem (by rw [sent_length]; exact h)]
  simp [sent]

/-- A slice of integers that came in: its elements, in cells. -/
def IntsAt (w : World) (v : Value) (zs : List Int) : Prop :=
  (zs = [] ∧ ∃ a cp, v = .slice a 0 cp) ∨ ∃ b o cp, v = .slice (some ⟨b, o, none⟩) zs.length cp ∧ zs.length ≤ cp ∧ cp ≤ maxLen ∧ 0 < zs.length ∧ ∀ k (h : k < zs.length), w.cell? ⟨b, o + k, none⟩ = some (.int .i64 zs[k])

set_option maxRecDepth 100000 in
set_option maxHeartbeats 1000000 in
theorem turns_long (ao : Option Addr) (n cp : Nat) (hn : 31 < n) (hm : n ≤ maxLen) (w : World) : Calls Try.prog 5 #[.slice ao n cp] w (LawPost w) := by
  unfold maxLen at hm
  go_enter Try.func5, Try.ntmps5
  go_wp2_with fail
  refine (small_any _).mono ?_
  rintro e w1 ⟨rfl, hb1⟩
  have hz1 := hb1.size
  go_wp2_with fail
  refine (new_any 32 _).mono ?_
  rintro e w2 ⟨p, c, rfl, hn, hp, hc, hb⟩
  have HP : Hid (LawPost w (.returned (.bool true)) w2) := Lib.hid ⟨rfl, hb1.trans (Below.mono hb hz1)⟩
  clear hb1 hb hn
  go_wp2_with fail
  go_ret
  exact HP.out

set_option maxRecDepth 100000 in
set_option maxHeartbeats 1000000 in
theorem turns_none (ao : Option Addr) (cp : Nat) (w : World) : Calls Try.prog 5 #[.slice ao 0 cp] w (LawPost w) := by
  go_enter Try.func5, Try.ntmps5
  go_wp2_with fail
  refine (small_any _).mono ?_
  rintro e w1 ⟨rfl, hb1⟩
  have hz1 := hb1.size
  go_wp2_with fail
  refine (new_any 32 _).mono ?_
  rintro e w2 ⟨p, c, rfl, hn, hp, hc, hb⟩
  have B2 := Lib.hid (hb1.trans (Below.mono hb hz1))
  have hz2 := B2.out.size
  have N2 := Lib.hid hn
  clear hb1 hb hn
  go_wp2_with fail
  go_loopw [5] (fun i wr => i = .int .i64 0 ∧ wr = w2) (fun _ _ => 0)
  case atStart => exact ⟨rfl, rfl⟩
  case round =>
    obtain ⟨rfl, rfl⟩ := hrel
    go_wp2_with fail
    refine (all_any p c 32 [] _ N2.out (by simp) (by omega)).mono ?_
    rintro e w3 ⟨v, rfl, ho, hn, hb⟩
    have N3 := Lib.hid hn
    have B3 := Lib.hid (B2.out.trans (hb.below (by omega) hz2))
    have hz3 := B3.out.size
    have hcl := N2.out.lt
    have O3 := Lib.hid ho
    obtain ⟨ao2, cp2, rfl⟩ := (Reads.of_owns ho).shape
    clear ho hn hb
    go_wp2_with fail
    go_loopw [7] (fun i wr => i = .int .i64 0 ∧ wr = w3) (fun _ _ => 0)
    case atStart => exact ⟨rfl, rfl⟩
    case round =>
      obtain ⟨rfl, rfl⟩ := hrel
      go_wp2_with fail
      refine (all_any p c 32 [] _ N3.out (by simp) (by omega)).mono ?_
      rintro e w4 ⟨v, rfl, ho, hn, hb⟩
      have N4 := Lib.hid hn
      have B4 := Lib.hid (B3.out.trans (hb.below (by omega) hz3))
      have hz4 := B4.out.size
      have O4 := Lib.hid (ownsRow_but O3.out hb hcl.2.1)
      have O5 := Lib.hid ho
      clear ho hn hb N3 B3 O3
      go_wp2_with fail
      refine (msgs_any _ _ [] [] _ (RowAt.of_owns O5.out) (RowAt.of_owns O4.out) (by simp) (by simp)).mono ?_
      rintro e w' ⟨rfl, j, rfl⟩
      simp only [decide_true]
      go_wp2_with fail
      have hE : Ext w4 (w4.drewN j) := ext_drewN (ext_refl _) _
      refine (turn_any p c 32 [] _ (N4.out.below hE N4.out.lt.1 N4.out.lt.2.1) (by simp)).mono ?_
      rintro e w5 ⟨rfl, hn, hb⟩
      have N5 : Hid (NetIs w5 p c 32 []) := hn
      have B5 := Lib.hid ((B4.out.trans (Below.mono hE hz4)).trans (hb.below (by omega) (by simpa using hz4)))
      have hz5 := B5.out.size
      clear hn hb N4 B4 O4 O5 hE
      simp only [List.isEmpty_nil, Bool.not_true]
      go_wp2_with fail
      refine (drop_any p c 32 [] _ N5.out).mono ?_
      rintro e w6 ⟨rfl, hn, hb⟩
      have HP : Hid (LawPost w (.returned (.bool true)) w6) := Lib.hid ⟨rfl, B5.out.trans (hb.below (by omega) hz5)⟩
      clear hn hb N5 B5
      simp only [List.isEmpty_nil, Bool.not_true]
      go_wp2_with fail
      go_ret
      exact HP.out

theorem CellsAt.of_owns {w : World} {base g n cp : Nat} {l : List Msg} (h : w.ownsRow base 30 4 (.slice (some ⟨g, 0, none⟩) n cp) n (flat l)) (hn : n = l.length) : CellsAt w g 0 l := by
  subst hn
  rcases RowAt.of_owns h with ⟨rfl, _⟩ | ⟨b, o, cp', hv, _, hc⟩
  · intro k m hk; simp at hk
  · simp only [Value.slice.injEq, Option.some.injEq, Addr.mk.injEq] at hv
    obtain ⟨⟨rfl, rfl, _⟩, _⟩ := hv
    exact hc
theorem CellsAt.front {w : World} {g o : Nat} {l l' : List Msg} (h : CellsAt w g o (l ++ l')) : CellsAt w g o l := fun k m hk =>
  h k m (by rw [List.getElem?_append_left (List.getElem?_eq_some_iff.1 hk).1]; exact hk)
theorem CellsAt.tail {w : World} {g : Nat} {m : Msg} {l : List Msg} (h : CellsAt w g 0 (m :: l)) : CellsAt w g 4 l := fun k x hk => by
  have := h (k + 1) x (by simpa using hk)
  have e : ∀ i, 0 + (k + 1) * 4 + i = 4 + k * 4 + i := by omega
  have e0 : 0 + (k + 1) * 4 = 4 + k * 4 := by omega
  simpa only [e, e0] using this
theorem eql30_yes (x : Msg) (w : World) : (binOp .eql 30 (.agg #[.int .i64 x.to, .int .i64 x.epoch, .int .i64 x.seq, .int .i64 x.commit]) (.agg #[.int .i64 x.to, .int .i64 x.epoch, .int .i64 x.seq, .int .i64 x.commit])).run Try.prog w = .ok (.bool true) w := by
  have h := eqIn30 x x w
  rw [run_eql_struct]
  simp only [Msg.val] at h
  rw [h]; simp
theorem guardEq30 (xs ys : Array Value) (a b : Operand) (w : World) : (eqGuard .eql 30 a b (.agg xs) (.agg ys)).run Try.prog w = .ok () w := run_eqGuard_agg w .eql 30 a b xs ys guard30

/-- What stands of the net and of the messages that were there first, while all are turned. -/
def TurnsRel (w : World) (p c : Nat) (L : List Msg) (base : Nat) (v : Value) (k : Nat) (wr : World) : Prop :=
  NetIs wr p c 32 (L.drop k ++ L.take k) ∧ Below w.heap.size w wr ∧ wr.ownsRow base 30 4 v L.length (flat L)

set_option maxRecDepth 100000 in
set_option maxHeartbeats 2000000 in
theorem turns_some (b o n cp : Nat) (zs : List Int) (hl : n = zs.length) (h1 : 0 < n) (hn : n ≤ 31) (hcp : n ≤ cp) (w : World) (hc : ∀ k (h : k < zs.length), w.cell? ⟨b, o + k, none⟩ = some (.int .i64 zs[k])) :
    Calls Try.prog 5 #[.slice (some ⟨b, o, none⟩) n cp] w (LawPost w) := by
  have HC : Hid (∀ wr, Below w.heap.size w wr → ∀ k (h : k < zs.length), wr.cell? ⟨b, o + k, none⟩ = some (.int .i64 zs[k])) :=
    Lib.hid fun wr hB k h => Ext.cell hB (hc k h)
  have HL := Lib.hid hl
  have hsl : (sent zs).length = n := by rw [sent_length, hl]
  have HS := Lib.hid hsl
  clear hc hl hsl
  go_enter Try.func5, Try.ntmps5
  go_wp2_with fail
  refine (small_any _).mono ?_
  rintro e w1 ⟨rfl, hb1⟩
  have hz1 := hb1.size
  go_wp2_with fail
  refine (new_any 32 _).mono ?_
  rintro e w2 ⟨p, c, rfl, hn2, hp, hc, hb⟩
  have B2 := Lib.hid (hb1.trans (Below.mono hb hz1))
  have hz2 := B2.out.size
  have N2 : Hid (NetIs w2 p c 32 []) := hn2
  clear hb1 hb hn2
  go_wp2_with fail
  go_loopw [5] (fun i wr => ∃ k : Nat, k ≤ n ∧ i = .int .i64 k ∧ Hid (NetIs wr p c 32 ((sent zs).take k) ∧ Below w.heap.size w wr)) (fun i _ => n - (intOf i).toNat)
  case atStart => exact ⟨0, Nat.zero_le _, rfl, Lib.hid ⟨N2.out, B2.out⟩⟩
  case round =>
    obtain ⟨k, hk, rfl, hr⟩ := hrel
    by_cases hlt : k < n
    · have hkz : k < zs.length := by rw [← HL.out]; exact hlt
      have hcell := HC.out wr hr.out.2 k hkz
      have hst := sent_take zs k hkz
      have HT := Lib.hid hst
      generalize zs[k] = z at *
      clear hst
      go_wp2_with fail
      refine (send_ok p c 32 _ ⟨z, k, 0, 0⟩ _ hr.out.1 (by rw [List.length_take, HS.out]; omega)).mono ?_
      rintro e w3 ⟨rfl, hs⟩
      have HR := Lib.hid (show NetIs w3 p c 32 ((sent zs).take (k + 1)) ∧ Below w.heap.size w w3 from ⟨by rw [HT.out]; exact hs.out.1, hr.out.2.trans (hs.out.2.below (by omega) hr.out.2.size)⟩)
      clear hs hr HT hcell
      go_wp2_with fail
      go_roundw
      case rel => exact ⟨k + 1, by omega, by go_num, HR⟩
      case measure => simp [intOf]; omega
    · obtain rfl : k = n := by omega
      have hall : (sent zs).take k = sent zs := List.take_of_length_le (by rw [HS.out]; exact Nat.le_refl _)
      have N3 : Hid (NetIs wr p c 32 (sent zs)) := Lib.hid (by have := hr.out.1; rwa [hall] at this)
      have B3 := Lib.hid hr.out.2
      have hz3 := B3.out.size
      clear hr hall
      generalize sent zs = L at *
      go_wp2_with fail
      refine (all_any p c 32 L _ N3.out (by rw [HS.out]; omega) (by omega)).mono ?_
      rintro e w4 ⟨v, rfl, ho, hn4, hb⟩
      have hcl := N3.out.lt
      have R4 : Hid (TurnsRel w p c L wr.heap.size v 0 w4) := Lib.hid ⟨by simpa using hn4, B3.out.trans (hb.below (by omega) hz3), ho⟩
      obtain ⟨g, cv, hv, hcv, hg, _, _⟩ := ownsRow_cell ho (by rw [HS.out]; omega)
      rw [HS.out] at hv hcv
      clear ho hn4 hb N3 B3
      subst hv
      obtain ⟨wo, rfl⟩ : ∃ wo : World, wo = wr := ⟨_, rfl⟩
      go_wp2_with fail
      go_loopw [7] (fun i w' => ∃ j : Nat, j ≤ k ∧ i = .int .i64 j ∧ Hid (TurnsRel w p c L wo.heap.size (.slice (some ⟨g, 0, none⟩) k cv) j w')) (fun i _ => k - (intOf i).toNat)
      case atStart => exact ⟨0, Nat.zero_le _, rfl, R4⟩
      case round =>
        obtain ⟨j, hj, rfl, hr⟩ := hrel
        by_cases hlt : j < k
        · obtain ⟨hn5, hB5, ho5⟩ := hr.out
          obtain ⟨t1, t2⟩ := turn_list (l := L) (k := j) (by rw [HS.out]; exact hlt)
          have hT := turn_any p c 32 _ wr hn5 (by simp [HS.out]; omega)
          have hT' : Calls Try.prog 14 #[.pointer (some ⟨p, 0, none⟩)] wr fun e w' => e = .returned (.bool true) ∧ Hid (TurnsRel w p c L wo.heap.size (.slice (some ⟨g, 0, none⟩) k cv) (j + 1) w') := by
            refine hT.mono fun e w' ⟨e1, e2, e3⟩ => ?_
            rw [t1] at e1 e2
            refine ⟨by simpa using e1, ?_, hB5.trans (e3.below (by omega) hB5.size), ownsRow_but ho5 e3 hcl.2.1⟩
            rw [← t2]
            simpa using e2
          clear hT hr hn5 hB5 ho5 t1 t2
          go_wp2_with fail
          refine hT'.mono ?_
          rintro e w5 ⟨rfl, hr⟩
          clear hT'
          go_wp2_with fail
          go_roundw
          case rel => exact ⟨j + 1, by omega, by go_num, hr⟩
          case measure => simp [intOf]; omega
        · obtain rfl : j = k := by omega
          obtain ⟨hn5, hB5, ho5⟩ := hr.out
          have hz5 := hB5.size
          have hall : L.drop j ++ L.take j = L := by
            rw [List.drop_of_length_le (by rw [HS.out]; exact Nat.le_refl _), List.take_of_length_le (by rw [HS.out]; exact Nat.le_refl _)]; rfl
          rw [hall] at hn5
          have N5 := Lib.hid hn5
          have B5 := Lib.hid hB5
          have O5 := Lib.hid ho5
          clear hr hall hn5 hB5 ho5
          have hne : ((j : Int) == 0) = false := by simp; omega
          go_wp2_with fail
          refine (all_any p c 32 L _ N5.out (by rw [HS.out]; omega) (by omega)).mono ?_
          rintro e w6 ⟨v2, rfl, ho6, hn6, hb6⟩
          have O6 := Lib.hid (ownsRow_but O5.out hb6 hcl.2.1)
          have OV := Lib.hid ho6
          have N6 := Lib.hid hn6
          have B6 := Lib.hid (B5.out.trans (hb6.below (by omega) hz5))
          have hz6 := B6.out.size
          clear ho6 hn6 hb6 N5 B5 O5
          go_wp2_with fail
          refine (msgs_any _ _ L L _ (RowAt.of_owns OV.out) (RowAt.of_owns O6.out) (by rw [HS.out]; omega) (by rw [HS.out]; omega)).mono ?_
          rintro e w' ⟨rfl, i, rfl⟩
          have hE : Ext w6 (w6.drewN i) := ext_drewN (ext_refl _) _
          have N7 := Lib.hid (N6.out.below hE N6.out.lt.1 N6.out.lt.2.1)
          have B7 := Lib.hid (B6.out.trans (Below.mono hE hz6))
          have O7 := Lib.hid (hE.owns O6.out)
          have hz7 := B7.out.size
          clear N6 B6 O6 OV hE
          simp only [decide_true]
          obtain ⟨m0, rest, hL⟩ : ∃ m0 rest, L = m0 :: rest := by
            cases L with
            | nil => have := HS.out; simp at this; omega
            | cons m0 rest => exact ⟨m0, rest, rfl⟩
          subst hL
          have hrl : rest.length + 1 = j := by have := HS.out; simpa using this
          have HR := Lib.hid hrl
          clear hrl
          go_wp2_with fail
          have hte : twiceErr 32 (m0 :: rest) = 0 := by
            show (if rest.length + 1 < 32 then (0 : Int) else 2) = 0
            rw [if_pos (by have := HR.out; omega)]
          have htl : twiceList 32 (m0 :: rest) = m0 :: rest ++ [m0] := by
            show (if rest.length + 1 < 32 then m0 :: rest ++ [m0] else m0 :: rest) = m0 :: rest ++ [m0]
            rw [if_pos (by have := HR.out; omega)]
          refine (twice_any p c 32 (m0 :: rest) _ N7.out (by rw [HS.out]; omega) (by omega)).mono ?_
          rintro e w8 ⟨rfl, hn8, hb8⟩
          rw [htl] at hn8
          rw [hte]
          have N8 : Hid (NetIs w8 p c 32 (m0 :: (rest ++ [m0]))) := Lib.hid hn8
          have B8 := Lib.hid (B7.out.trans (hb8.below (by omega) hz7))
          have O8 := Lib.hid (ownsRow_but O7.out hb8 hcl.2.1)
          have hz8 := B8.out.size
          clear hn8 hb8 N7 B7 O7 htl hte
          go_wp2_with fail
          refine (drop_any p c 32 _ _ N8.out).mono ?_
          rintro e w9 ⟨rfl, hn9, hb9⟩
          have N9 : Hid (NetIs w9 p c 32 (rest ++ [m0])) := Lib.hid hn9
          have B9 := Lib.hid (B8.out.trans (hb9.below (by omega) hz8))
          have O9 := Lib.hid (ownsRow_but O8.out hb9 hcl.2.1)
          have hz9 := B9.out.size
          clear hn9 hb9 N8 B8 O8
          simp only [List.isEmpty_cons, Bool.not_false]
          go_wp2_with fail
          refine (all_any p c 32 _ _ N9.out (by have := HR.out; simp; omega) (by omega)).mono ?_
          rintro e w10 ⟨v3, rfl, ho10, hn10, hb10⟩
          have B10 := Lib.hid (B9.out.trans (hb10.below (by omega) hz9))
          have O10 := Lib.hid (ownsRow_but O9.out hb10 hcl.2.1)
          obtain ⟨g3, cv3, hv3, hcv3, hg3, _, hcc3⟩ := ownsRow_cell ho10 (by simp)
          have hlen3 : (rest ++ [m0]).length = j := by have := HR.out; simp; omega
          rw [hlen3] at hv3 hcv3
          clear hn10 hb10 N9 B9 O9
          subst hv3
          go_wp2_with fail
          have C3 : CellsAt w10 g3 0 (rest ++ [m0]) := CellsAt.of_owns (n := j) (by rw [hlen3] at ho10; exact ho10) hlen3.symm
          have CW : CellsAt w10 g 0 (m0 :: rest) := CellsAt.of_owns (n := j) (by have := O10.out; rw [HS.out] at this; exact this) HS.out.symm
          obtain ⟨r, rfl⟩ : ∃ r, j = r + 1 := ⟨rest.length, HR.out.symm⟩
          have hrr : rest.length = r := by have := HR.out; omega
          have a3 := C3 r m0 (by rw [← hrr]; simp)
          have a0 := CW 0 m0 rfl
          simp only [Nat.zero_add, Nat.zero_mul] at a3 a0
          obtain ⟨a30, a31, a32, a33⟩ := a3
          obtain ⟨a00, a01, a02, a03⟩ := a0
          have hM : ∀ ao cw n, (cv = 1 → ao = some ⟨g, 0, none⟩) → (¬ cv = 1 → ao = some ⟨g, 4, none⟩) → r ≤ cw → Calls Try.prog 21 #[.slice (some ⟨g3, 0, none⟩) r cv3, .slice ao r cw] (w10.drewN n) fun e w'' => e = .returned (.bool true) ∧ ∃ m, w'' = w10.drewN m := by
            intro ao cw n h1 h2 hcw
            have hE : Ext w10 (w10.drewN n) := ext_drewN (ext_refl _) _
            have e1 : RowAt (w10.drewN n) (.slice (some ⟨g3, 0, none⟩) r cv3) rest := .inr ⟨g3, 0, cv3, by rw [hrr], by omega, fun k m hk => by
              obtain ⟨q0, q1, q2, q3⟩ := C3.front k m hk
              exact ⟨hE.cell q0, hE.cell q1, hE.cell q2, hE.cell q3⟩⟩
            have e2 : RowAt (w10.drewN n) (.slice ao r cw) rest := by
              by_cases hcv1 : cv = 1
              · have hr0 : rest = [] := List.eq_nil_of_length_eq_zero (by omega)
                refine .inl ⟨hr0, ao, cw, ?_⟩
                rw [hr0] at hrr
                rw [← hrr]; rfl
              · rw [h2 hcv1]
                refine .inr ⟨g, 4, cw, by rw [hrr], by omega, fun k m hk => ?_⟩
                obtain ⟨q0, q1, q2, q3⟩ := CW.tail k m hk
                exact ⟨hE.cell q0, hE.cell q1, hE.cell q2, hE.cell q3⟩
            have := msgs_any _ _ rest rest (w10.drewN n) e1 e2 (by omega) (by omega)
            simp only [decide_true] at this
            exact Calls.quiet_of this
          have HM := Lib.hid hM
          have HPp : Hid (∀ n, LawPost w (.returned (.bool true)) (w10.drewN n)) := Lib.hid fun n => ⟨rfl, B10.out.trans (Below.mono (ext_drewN (ext_refl _) _) B10.out.size)⟩
          have hq := eql30_yes m0
          have hg := guardEq30
          clear hM C3 CW ho10 hcc3 O10 hrr HR HS HL HC hlen3
          by_cases hcv1 : cv = 1
          · subst hcv1
            obtain rfl : r = 0 := by omega
            simp only [Nat.zero_mul, Nat.zero_add] at a30 a31 a32 a33
            go_quiet ((go_at_call 21; exact HM.out _ _ _ (fun _ => rfl) (fun h => absurd rfl h) (by omega)))
            go_wp2_with fail
            go_ret
            exact HPp.out _
          · have hcv2 : 1 < cv := by omega
            have hcv0 : cv - 1 ≠ 0 := by omega
            go_quiet ((go_at_call 21; exact HM.out _ _ _ (fun h => absurd h hcv1) (fun _ => rfl) (by omega)))
            go_wp2_with fail
            go_ret
            exact HPp.out _

theorem turns_walk (v : Value) (zs : List Int) (w : World) (h : IntsAt w v zs) : Calls Try.prog 5 #[v] w (LawPost w) := by
  rcases h with ⟨rfl, a, cp, rfl⟩ | ⟨b, o, cp, rfl, hcp, hm, hpos, hc⟩
  · exact turns_none a cp w
  · by_cases hn : zs.length ≤ 31
    · exact turns_some b o zs.length cp zs rfl hpos hn hcp w hc
    · exact turns_long _ _ _ (by omega) (Nat.le_trans hcp hm) w
end Go.Proofs.Ytfedndlmlbgboaa
