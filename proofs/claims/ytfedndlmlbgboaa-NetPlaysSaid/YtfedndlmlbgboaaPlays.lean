/- The walk of NetPlays. -/
import Derived.Test.YtfedndlmlbgboaaOrder
import Derived.Deep.RegionWith
import Derived.Deep.RegionHeld3
import Derived.Deep.DeepCutAuto
namespace Go.Proofs.Ytfedndlmlbgboaa
open Go.RowKit Go.Conc

theorem i64_and7 (n : Int) : bits .and .i64 n 7 = n % 8 := by
  have h7 : (BitVec.ofInt 64 7).toNat = 2 ^ 3 - 1 := by decide
  have key : (BitVec.ofInt 64 n &&& BitVec.ofInt 64 7).toNat = (n % ((2 ^ 64 : Nat) : Int)).toNat % 2 ^ 3 := by
    rw [BitVec.toNat_and, BitVec.toNat_ofInt, h7, Nat.and_two_pow_sub_one_eq_mod]
  show IntKind.i64.wrap ((BitVec.ofInt 64 n &&& BitVec.ofInt 64 7).toNat : Nat) = n % 8
  rw [key, IntKind.wrap_i64]
  omega

/-- Both nets hold the row l. -/
structure Both (w : World) (p c q cap : Nat) (l : List Msg) (wr : World) : Prop where
  net : NetIs wr p c cap l
  ref : RefIs wr q cap l
  len : l.length ≤ cap
  below : Below w.heap.size w wr
  pq : p < q
  cq : c < q
  lo : w.heap.size ≤ c ∧ w.heap.size ≤ q

theorem RefIs.but {w w' : World} {q room c : Nat} {l : List Msg} (h : RefIs w q room l) (hb : But c w w') (hc : c < q) : RefIs w' q room l := by
  obtain ⟨v, h1, h2⟩ := h
  exact ⟨v, (hb.block q (Array.getElem?_eq_some_iff.1 h1).1 (by omega)).trans h1, ownsRow_but h2 hb (by omega)⟩
theorem Both.ext {w : World} {p c q cap : Nat} {l : List Msg} {wr w' : World} (h : Both w p c q cap l wr) (hE : Ext wr w') : Both w p c q cap l w' :=
  ⟨h.net.below hE h.net.lt.1 h.net.lt.2.1, h.ref.ext hE, h.len, h.below.trans (Below.mono hE h.below.size), h.pq, h.cq, h.lo⟩
/-- One step of the net, then one of the reference. -/
theorem Both.step {w : World} {p c q cap : Nat} {l l' : List Msg} {wr w1 w2 : World} (h : Both w p c q cap l wr) (hn : NetIs w1 p c cap l') (hb : But c wr w1) (hr : RefIs w2 q cap l') (hb2 : Below q w1 w2) (hl : l'.length ≤ cap) : Both w p c q cap l' w2 :=
  ⟨hn.below hb2 h.pq h.cq, hr, hl, (h.below.trans (hb.below h.lo.1 h.below.size)).trans (Below.mono hb2 h.lo.2), h.pq, h.cq, h.lo⟩

/-- What holds all through the check of a round: the reference's row, where it lies, and both nets. -/
def Keeps (w : World) (p c q cap : Nat) (l : List Msg) (ao : Option Addr) (cp : Nat) (wr : World) : Prop := Both w p c q cap l wr ∧ RowAt wr (.slice ao l.length cp) l
def Held (w : World) (p c q cap : Nat) (l : List Msg) (ao : Option Addr) (cp : Nat) (wr : World) : Prop := wr.cell? ⟨q, 0, none⟩ = some (.slice ao l.length cp) ∧ Keeps w p c q cap l ao cp wr

theorem Both.held {w : World} {p c q cap : Nat} {l : List Msg} {wr : World} (h : Both w p c q cap l wr) : ∃ ao cp, Held w p c q cap l ao cp wr := by
  obtain ⟨v, h1, h2⟩ := h.ref
  obtain ⟨ao, cp, rfl⟩ := (Reads.of_owns h2).shape
  exact ⟨ao, cp, by simp [World.cell?, h1], h, RowAt.of_owns h2⟩
theorem CellsAt.ext {w w' : World} {b o : Nat} {l : List Msg} (h : CellsAt w b o l) (hE : Ext w w') : CellsAt w' b o l := fun k m hk => by
  obtain ⟨a, b, c, d⟩ := h k m hk
  exact ⟨hE.cell a, hE.cell b, hE.cell c, hE.cell d⟩
theorem RowAt.ext {w w' : World} {v : Value} {l : List Msg} (h : RowAt w v l) (hE : Ext w w') : RowAt w' v l :=
  h.imp id fun ⟨b, o, cp, hv, hn, hc⟩ => ⟨b, o, cp, hv, hn, hc.ext hE⟩
theorem Held.ext {w : World} {p c q cap : Nat} {l : List Msg} {ao : Option Addr} {cp : Nat} {wr w' : World} (h : Held w p c q cap l ao cp wr) (hE : Ext wr w') : Held w p c q cap l ao cp w' :=
  ⟨hE.cell h.1, h.2.1.ext hE, h.2.2.ext hE⟩
/-- The reference's own row does not lie in the net's channel. -/
theorem held_len {w : World} {p c q cap : Nat} {l : List Msg} {ao : Option Addr} {cp : Nat} {wr : World} (h : Held w p c q cap l ao cp wr) :
    Calls Try.prog 20 #[.pointer (some ⟨p, 0, none⟩)] wr fun e w' => e = .returned (.int .i64 l.length) ∧ wr = w' := len_any p c cap l wr h.2.1.net

def HeldAll (w : World) (p c q cap : Nat) (l : List Msg) (ao : Option Addr) (cp : Nat) (e : Ending) (w' : World) : Prop :=
  ∃ v, e = .returned v ∧ RowAt w' v l ∧ Held w p c q cap l ao cp w'
theorem held_all {w : World} {p c q cap : Nat} {l : List Msg} {ao : Option Addr} {cp : Nat} {wr : World} (hcap : cap ≤ 32) (h : Held w p c q cap l ao cp wr) :
    Calls Try.prog 22 #[.pointer (some ⟨p, 0, none⟩)] wr (HeldAll w p c q cap l ao cp) := by
  refine (all_any p c cap l wr h.2.1.net h.2.1.len hcap).mono ?_
  rintro e w' ⟨v, rfl, ho, hn, hb⟩
  obtain ⟨h1, hB, hR⟩ := h
  have hqc : q ≠ c := by have := hB.cq; omega
  refine ⟨v, rfl, RowAt.of_owns ho, ?_⟩
  obtain ⟨v2, e1, e2⟩ := hB.ref
  have hv2 : v2 = .slice ao l.length cp := by
    simp [World.cell?, e1] at h1; exact h1
  subst hv2
  exact ⟨hb.cell h1 hqc, ⟨hn, hB.ref.but hb hB.cq, hB.len, hB.below.trans (hb.below hB.lo.1 hB.below.size), hB.pq, hB.cq, hB.lo⟩, RowAt.of_owns (ownsRow_but e2 hb (by have := hB.cq; omega))⟩

def HeldMsgs (w : World) (p c q cap : Nat) (l : List Msg) (ao : Option Addr) (cp : Nat) (e : Ending) (w' : World) : Prop :=
  e = .returned (.bool true) ∧ Held w p c q cap l ao cp w'
theorem held_msgs {w : World} {p c q cap : Nat} {l : List Msg} {ao : Option Addr} {cp : Nat} {wr : World} {v : Value} (hcap : cap ≤ 32) (hv : RowAt wr v l) (h : Held w p c q cap l ao cp wr) :
    Calls Try.prog 21 #[v, .slice ao l.length cp] wr (HeldMsgs w p c q cap l ao cp) := by
  have hl := h.2.1.len
  refine (msgs_any v _ l l wr hv h.2.2 (by omega) (by omega)).mono ?_
  rintro e w' ⟨rfl, k, rfl⟩
  exact ⟨by simp, h.ext (ext_drewN (ext_refl _) _)⟩

def sendErr (cap : Nat) (l : List Msg) : Int := if l.length < cap then 0 else 2
def sendList (cap : Nat) (l : List Msg) (m : Msg) : List Msg := if l.length < cap then l ++ [m] else l
theorem sendList_len (cap : Nat) (l : List Msg) (m : Msg) (h : l.length ≤ cap) : (sendList cap l m).length ≤ cap := by
  unfold sendList; split
  · simp; omega
  · exact h
theorem twiceList_len (cap : Nat) (l : List Msg) (h : l.length ≤ cap) : (twiceList cap l).length ≤ cap := by
  cases l with
  | nil => simp [twiceList]
  | cons m l =>
    show (if l.length + 1 < cap then m :: l ++ [m] else m :: l).length ≤ cap
    split
    · simp; omega
    · exact h

/-- A step of the net: the reference still holds the old row. -/
structure Half (w : World) (p c q cap : Nat) (l l' : List Msg) (wr w1 : World) : Prop where
  old : Both w p c q cap l wr
  net : NetIs w1 p c cap l'
  but : But c wr w1
  ref : RefIs w1 q cap l
theorem Half.mk' {w : World} {p c q cap : Nat} {l l' : List Msg} {wr w1 : World} (h : Both w p c q cap l wr) (hn : NetIs w1 p c cap l') (hb : But c wr w1) : Half w p c q cap l l' wr w1 := ⟨h, hn, hb, h.ref.but hb h.cq⟩
theorem Half.ext {w : World} {p c q cap : Nat} {l l' : List Msg} {wr w1 w2 : World} (h : Half w p c q cap l l' wr w1) (hE : Ext w1 w2) : Half w p c q cap l l' wr w2 :=
  ⟨h.old, h.net.below hE h.net.lt.1 h.net.lt.2.1, h.but.trans (But.of_below hE), h.ref.ext hE⟩

theorem half_send {w : World} {p c q cap : Nat} {l : List Msg} {wr : World} (m : Msg) (h : Both w p c q cap l wr) :
    Calls Try.prog 10 #[.pointer (some ⟨p, 0, none⟩), .agg #[.int .i64 m.to, .int .i64 m.epoch, .int .i64 m.seq, .int .i64 m.commit]] wr fun e w' => e = .returned (.int .i64 (sendErr cap l)) ∧ Hid (Half w p c q cap l (sendList cap l m) wr w') :=
  (send_any p c cap l m wr h.net).mono fun _ _ ⟨e1, e2, e3⟩ => ⟨e1, Half.mk' h e2 e3⟩
theorem whole_send {w : World} {p c q cap : Nat} {l : List Msg} {wr w1 : World} (m : Msg) (hcap : cap ≤ 32) (h : Half w p c q cap l (sendList cap l m) wr w1) :
    Calls Try.prog 11 #[.pointer (some ⟨q, 0, none⟩), .agg #[.int .i64 m.to, .int .i64 m.epoch, .int .i64 m.seq, .int .i64 m.commit]] w1 fun e w' => e = .returned (.int .i64 (sendErr cap l)) ∧ Hid (Both w p c q cap (sendList cap l m) w') :=
  (rsend_any q cap l m w1 h.ref hcap).mono fun _ _ ⟨e1, e2, e3⟩ => ⟨e1, h.old.step h.net h.but e2 e3 (sendList_len cap l m h.old.len)⟩
theorem half_take {w : World} {p c q cap : Nat} {l : List Msg} {wr : World} (h : Both w p c q cap l wr) :
    Calls Try.prog 12 #[.pointer (some ⟨p, 0, none⟩)] wr fun e w' => e = .returned (.tuple #[.agg #[.int .i64 (l.headD msg0).to, .int .i64 (l.headD msg0).epoch, .int .i64 (l.headD msg0).seq, .int .i64 (l.headD msg0).commit], .bool (!l.isEmpty)]) ∧ Hid (Half w p c q cap l l.tail wr w') :=
  (take_any p c cap l wr h.net).mono fun _ _ ⟨e1, e2, e3⟩ => ⟨e1, Half.mk' h e2 e3⟩
theorem whole_take {w : World} {p c q cap : Nat} {l : List Msg} {wr w1 : World} (hcap : cap ≤ 32) (h : Half w p c q cap l l.tail wr w1) :
    Calls Try.prog 13 #[.pointer (some ⟨q, 0, none⟩)] w1 fun e w' => e = .returned (.tuple #[.agg #[.int .i64 (l.headD msg0).to, .int .i64 (l.headD msg0).epoch, .int .i64 (l.headD msg0).seq, .int .i64 (l.headD msg0).commit], .bool (!l.isEmpty)]) ∧ Hid (Both w p c q cap l.tail w' ∧ But q w1 w') :=
  (rtake_any q cap l w1 h.ref (by have := h.old.len; omega)).mono fun _ _ ⟨e1, e2, e3, e4⟩ => ⟨e1, h.old.step h.net h.but e2 e3 (by have := h.old.len; simp; omega), e4⟩
theorem half_turn {w : World} {p c q cap : Nat} {l : List Msg} {wr : World} (h : Both w p c q cap l wr) :
    Calls Try.prog 14 #[.pointer (some ⟨p, 0, none⟩)] wr fun e w' => e = .returned (.bool (!l.isEmpty)) ∧ Hid (Half w p c q cap l (l.tail ++ l.take 1) wr w') :=
  (turn_any p c cap l wr h.net h.len).mono fun _ _ ⟨e1, e2, e3⟩ => ⟨e1, Half.mk' h e2 e3⟩
theorem whole_turn {w : World} {p c q cap : Nat} {l : List Msg} {wr w1 : World} (hcap : cap ≤ 32) (h : Half w p c q cap l (l.tail ++ l.take 1) wr w1) :
    Calls Try.prog 15 #[.pointer (some ⟨q, 0, none⟩)] w1 fun e w' => e = .returned (.bool (!l.isEmpty)) ∧ Hid (Both w p c q cap (l.tail ++ l.take 1) w') :=
  (rturn_any q cap l w1 h.ref (by have := h.old.len; omega)).mono fun _ _ ⟨e1, e2, e3⟩ => ⟨e1, h.old.step h.net h.but e2 e3 (by have := h.old.len; cases l <;> simp at this ⊢ <;> omega)⟩
theorem half_drop {w : World} {p c q cap : Nat} {l : List Msg} {wr : World} (h : Both w p c q cap l wr) :
    Calls Try.prog 16 #[.pointer (some ⟨p, 0, none⟩)] wr fun e w' => e = .returned (.bool (!l.isEmpty)) ∧ Hid (Half w p c q cap l l.tail wr w') :=
  (drop_any p c cap l wr h.net).mono fun _ _ ⟨e1, e2, e3⟩ => ⟨e1, Half.mk' h e2 e3⟩
theorem whole_drop {w : World} {p c q cap : Nat} {l : List Msg} {wr w1 : World} (hcap : cap ≤ 32) (h : Half w p c q cap l l.tail wr w1) :
    Calls Try.prog 17 #[.pointer (some ⟨q, 0, none⟩)] w1 fun e w' => e = .returned (.bool (!l.isEmpty)) ∧ Hid (Both w p c q cap l.tail w') :=
  (rdrop_any q cap l w1 h.ref (by have := h.old.len; omega)).mono fun _ _ ⟨e1, e2, e3⟩ => ⟨e1, h.old.step h.net h.but e2 e3 (by have := h.old.len; simp; omega)⟩
theorem half_twice {w : World} {p c q cap : Nat} {l : List Msg} {wr : World} (hcap : cap ≤ 32) (h : Both w p c q cap l wr) :
    Calls Try.prog 18 #[.pointer (some ⟨p, 0, none⟩)] wr fun e w' => e = .returned (.int .i64 (twiceErr cap l)) ∧ Hid (Half w p c q cap l (twiceList cap l) wr w') :=
  (twice_any p c cap l wr h.net h.len hcap).mono fun _ _ ⟨e1, e2, e3⟩ => ⟨e1, Half.mk' h e2 e3⟩
theorem whole_twice {w : World} {p c q cap : Nat} {l : List Msg} {wr w1 : World} (hcap : cap ≤ 32) (h : Half w p c q cap l (twiceList cap l) wr w1) :
    Calls Try.prog 19 #[.pointer (some ⟨q, 0, none⟩)] w1 fun e w' => e = .returned (.int .i64 (twiceErr cap l)) ∧ Hid (Both w p c q cap (twiceList cap l) w') :=
  (rtwice_any q cap l w1 h.ref (by have := h.old.len; omega) hcap).mono fun _ _ ⟨e1, e2, e3⟩ => ⟨e1, h.old.step h.net h.but e2 e3 (twiceList_len cap l h.old.len)⟩

set_option maxRecDepth 100000 in
set_option maxHeartbeats 4000000 in
theorem plays_walk (room : Int) (ao : Option Addr) (n cp : Nat) (zs : List (Int × Int)) (hn : n = zs.length) (hn' : n ≤ maxLen) (w : World)
    (hz : ∀ k (h : k < zs.length), ∃ b o, ao = some ⟨b, o, none⟩ ∧ w.cell? ⟨b, o + k * 2, none⟩ = some (.int .i64 zs[k].1) ∧ w.cell? ⟨b, o + k * 2 + 1, none⟩ = some (.int .i64 zs[k].2)) :
    Calls Try.prog 3 #[.int .i64 room, .slice ao n cp] w (LawPost w) := by
  unfold maxLen at hn'
  have HZ := Lib.hid hz
  have HN := Lib.hid hn
  clear hz hn
  obtain ⟨hcp1, hcp2⟩ := roomOf_le room
  have hNW := fun w => new_any room w
  have HNW : Hid (∀ w, Calls Try.prog 8 #[.int .i64 room] w (NewPost room w)) := hNW
  have hRW := fun w => rnew_any room w
  have HRW : Hid (∀ w, Calls Try.prog 9 #[.int .i64 room] w (RNewPost room w)) := hRW
  unfold NewPost at HNW
  unfold RNewPost at HRW
  generalize roomOf room = cap at *
  clear hNW hRW
  by_cases hbig : 150 < n
  · go_enter Try.func3, Try.ntmps3
    go_wp2_with fail
    refine (small_any _).mono ?_
    rintro e w1 ⟨rfl, hb1⟩
    have hz1 := hb1.size
    go_wp2_with fail
    refine (HNW.out _).mono ?_
    rintro e w2 ⟨p, c, rfl, hn2, hp, hc, hb⟩
    have B2 := Lib.hid (hb1.trans (Below.mono hb hz1))
    have hz2 := B2.out.size
    clear hb1 hb hn2
    go_wp2_with fail
    refine (HRW.out _).mono ?_
    rintro e w3 ⟨rfl, hr, hb⟩
    have HP : Hid (LawPost w (.returned (.bool true)) w3) := Lib.hid ⟨rfl, B2.out.trans (Below.mono hb hz2)⟩
    clear hr hb
    go_wp2_with fail
    go_ret
    exact HP.out
  · go_enter Try.func3, Try.ntmps3
    go_wp2_with fail
    refine (small_any _).mono ?_
    rintro e w1 ⟨rfl, hb1⟩
    have hz1 := hb1.size
    go_wp2_with fail
    refine (HNW.out _).mono ?_
    rintro e w2 ⟨p, c, rfl, hn2, hp, hc, hb⟩
    have B2 := Lib.hid (hb1.trans (Below.mono hb hz1))
    have hz2 := B2.out.size
    have N2 := Lib.hid hn2
    clear hb1 hb hn2
    go_wp2_with fail
    refine (HRW.out _).mono ?_
    rintro e w3 ⟨rfl, hr, hb⟩
    have R3 : Hid (Both w p c w2.heap.size cap [] w3) := Lib.hid ⟨N2.out.below hb N2.out.lt.1 N2.out.lt.2.1, hr, by simp, B2.out.trans (Below.mono hb hz2), N2.out.lt.1, N2.out.lt.2.1, by omega, hz2⟩
    clear hr hb N2 B2
    generalize w2.heap.size = q at *
    go_wp2_with fail
    go_loopw [8] (fun i wr => ∃ k : Nat, k ≤ n ∧ i = .int .i64 k ∧ Hid (∃ L, Both w p c q cap L wr)) (fun i _ => n - (intOf i).toNat)
    case atStart => exact ⟨0, Nat.zero_le _, rfl, Lib.hid ⟨[], R3.out⟩⟩
    case round =>
      obtain ⟨k, hk, rfl, hr⟩ := hrel
      obtain ⟨L, hR⟩ := hr.out
      have R := Lib.hid hR
      have hzr := hR.below.size
      have hqz := hR.ref.lt
      clear hR hr R3
      by_cases hlt : k < n
      · obtain ⟨bz, oz, rfl, hc0, hc1⟩ := HZ.out k (by rw [← HN.out]; exact hlt)
        have hblz := World.block_lt_of_cell? _ _ hc0
        simp only at hblz
        have hbl2 : bz < wr.heap.size := by omega
        have c0 := Ext.cell R.out.below hc0
        have c1 := Ext.cell R.out.below hc1
        clear hc0 hc1
        generalize (zs[k]'(by rw [← HN.out]; exact hlt)) = z at *
        obtain ⟨x, y⟩ := z
        simp only at c0 c1
        have hx : x % 8 = 0 ∨ x % 8 = 1 ∨ x % 8 = 2 ∨ x % 8 = 3 ∨ x % 8 = 4 ∨ x % 8 = 5 ∨ x % 8 = 6 ∨ x % 8 = 7 := by omega
        have h7 := i64_and7 x
        go_upto_region 11 with fail
        iterate 22 (first | go_values | go_skip | go_guarded | go_step | go_upon | go_back)
        go_cut [10, 11, 12, 13, 14, 50] (fun s10 s11 s12 s13 s14 s50 wc => s10 = .bool true ∧ Hid (∃ LL, Both w p c q cap LL wc))
        case first =>
          rcases hx with hx | hx | hx | hx | hx | hx | hx | hx
          all_goals clear h7
          focus
            go_wp2_with fail
            have R0 : Hid (Both w p c q cap L (wr.alloc (.cells #[.int .i64 y, .int .i64 0, .int .i64 k, .int .i64 0] 30)).drew) := Lib.hid (R.out.ext (ext_drew' (ext_alloc _ _)))
            have hne : wr.heap.size ≠ c := by have := R.out.net.lt; omega
            clear R
            go_region_with (first
              | (go_at_call 10; refine (half_send ⟨y, 0, k, 0⟩ R0.out).mono ?_; rintro e w4 ⟨rfl, hh⟩; have b0 := hh.out.but.cell (a := ⟨wr.heap.size, 0, none⟩) (v := .int .i64 y) (by simp) hne; have b1 := hh.out.but.cell (a := ⟨wr.heap.size, 1, none⟩) (v := .int .i64 0) (by simp) hne; have b2 := hh.out.but.cell (a := ⟨wr.heap.size, 2, none⟩) (v := .int .i64 k) (by simp) hne; have b3 := hh.out.but.cell (a := ⟨wr.heap.size, 3, none⟩) (v := .int .i64 0) (by simp) hne)
              | (go_at_call 11; refine (whole_send ⟨y, 0, k, 0⟩ hcp2 (by assumption : Hid (Half _ _ _ _ _ _ _ _ _)).out).mono ?_; rintro e w5 ⟨rfl, hh2⟩))
            all_goals clear R0
            all_goals simp only [Act.put, List.getElem_toArray, List.getElem_cons_succ, List.getElem_cons_zero, List.setIfInBounds_toArray, List.set_cons_succ, List.set_cons_zero]
          rotate_left 3
          focus
            go_wp2_with fail
            have R0 : Hid (Both w p c q cap L (wr.alloc (.cells #[.int .i64 y, .int .i64 0, .int .i64 k, .int .i64 0] 30)).drew) := Lib.hid (R.out.ext (ext_drew' (ext_alloc _ _)))
            have hne : wr.heap.size ≠ c := by have := R.out.net.lt; omega
            clear R
            go_region_with (first
              | (go_at_call 10; refine (half_send ⟨y, 0, k, 0⟩ R0.out).mono ?_; rintro e w4 ⟨rfl, hh⟩; have b0 := hh.out.but.cell (a := ⟨wr.heap.size, 0, none⟩) (v := .int .i64 y) (by simp) hne; have b1 := hh.out.but.cell (a := ⟨wr.heap.size, 1, none⟩) (v := .int .i64 0) (by simp) hne; have b2 := hh.out.but.cell (a := ⟨wr.heap.size, 2, none⟩) (v := .int .i64 k) (by simp) hne; have b3 := hh.out.but.cell (a := ⟨wr.heap.size, 3, none⟩) (v := .int .i64 0) (by simp) hne)
              | (go_at_call 11; refine (whole_send ⟨y, 0, k, 0⟩ hcp2 (by assumption : Hid (Half _ _ _ _ _ _ _ _ _)).out).mono ?_; rintro e w5 ⟨rfl, hh2⟩))
            all_goals clear R0
            all_goals simp only [Act.put, List.getElem_toArray, List.getElem_cons_succ, List.getElem_cons_zero, List.setIfInBounds_toArray, List.set_cons_succ, List.set_cons_zero]
          rotate_left 3
          focus
            go_wp2_with fail
            have R0 : Hid (Both w p c q cap L (wr.alloc (.cells #[.int .i64 y, .int .i64 0, .int .i64 k, .int .i64 0] 30)).drew) := Lib.hid (R.out.ext (ext_drew' (ext_alloc _ _)))
            have hne : wr.heap.size ≠ c := by have := R.out.net.lt; omega
            clear R
            go_region_with (first
              | (go_at_call 10; refine (half_send ⟨y, 0, k, 0⟩ R0.out).mono ?_; rintro e w4 ⟨rfl, hh⟩; have b0 := hh.out.but.cell (a := ⟨wr.heap.size, 0, none⟩) (v := .int .i64 y) (by simp) hne; have b1 := hh.out.but.cell (a := ⟨wr.heap.size, 1, none⟩) (v := .int .i64 0) (by simp) hne; have b2 := hh.out.but.cell (a := ⟨wr.heap.size, 2, none⟩) (v := .int .i64 k) (by simp) hne; have b3 := hh.out.but.cell (a := ⟨wr.heap.size, 3, none⟩) (v := .int .i64 0) (by simp) hne)
              | (go_at_call 11; refine (whole_send ⟨y, 0, k, 0⟩ hcp2 (by assumption : Hid (Half _ _ _ _ _ _ _ _ _)).out).mono ?_; rintro e w5 ⟨rfl, hh2⟩))
            all_goals clear R0
            all_goals simp only [Act.put, List.getElem_toArray, List.getElem_cons_succ, List.getElem_cons_zero, List.setIfInBounds_toArray, List.set_cons_succ, List.set_cons_zero]
          rotate_left 3
          focus
            go_wp2_with fail
            have R0 : Hid (Both w p c q cap L (wr.alloc (.cells #[.int .i64 y, .int .i64 0, .int .i64 k, .int .i64 0] 30))) := Lib.hid (R.out.ext (ext_alloc _ _))
            clear R
            refine (half_take R0.out).mono ?_
            rintro e w4 ⟨rfl, hh⟩
            have hqw4 : q < w4.heap.size := hh.out.ref.lt
            have hWT := whole_take (w1 := w4.alloc (.cells #[.int .i64 (L.headD msg0).to, .int .i64 (L.headD msg0).epoch, .int .i64 (L.headD msg0).seq, .int .i64 (L.headD msg0).commit] 30)) hcp2 (hh.out.ext (ext_alloc _ _))
            have HWT := Lib.hid hWT
            clear R0 hh hWT
            generalize (!L.isEmpty) = be at *
            generalize (L.headD msg0) = mm at *
            go_wp2_with fail
            refine HWT.out.mono ?_
            rintro e w5 ⟨rfl, hh3⟩
            have hh2 : Hid (Both w p c q cap L.tail (w5.alloc (.cells #[.int .i64 mm.to, .int .i64 mm.epoch, .int .i64 mm.seq, .int .i64 mm.commit] 30))) := Lib.hid (hh3.out.1.ext (ext_alloc _ _))
            have hne4 : w4.heap.size ≠ q := by omega
            have m0 := hh3.out.2.cell (a := ⟨w4.heap.size, 0, none⟩) (v := .int .i64 mm.to) (by simp) hne4
            have m1 := hh3.out.2.cell (a := ⟨w4.heap.size, 1, none⟩) (v := .int .i64 mm.epoch) (by simp) hne4
            have m2 := hh3.out.2.cell (a := ⟨w4.heap.size, 2, none⟩) (v := .int .i64 mm.seq) (by simp) hne4
            have m3 := hh3.out.2.cell (a := ⟨w4.heap.size, 3, none⟩) (v := .int .i64 mm.commit) (by simp) hne4
            have hlt5 := World.block_lt_of_cell? _ _ m0
            simp only at hlt5
            have hq := eql30_yes mm
            have hg := guardEq30
            clear HWT hh3
            go_wp2_with fail
            clear m0 m1 m2 m3 hq hg
          rotate_left 1
          focus
            go_wp2_with fail
            have R0 : Hid (Both w p c q cap L (wr.alloc (.cells #[.int .i64 y, .int .i64 0, .int .i64 k, .int .i64 0] 30))) := Lib.hid (R.out.ext (ext_alloc _ _))
            clear R
            refine (half_take R0.out).mono ?_
            rintro e w4 ⟨rfl, hh⟩
            have hqw4 : q < w4.heap.size := hh.out.ref.lt
            have hWT := whole_take (w1 := w4.alloc (.cells #[.int .i64 (L.headD msg0).to, .int .i64 (L.headD msg0).epoch, .int .i64 (L.headD msg0).seq, .int .i64 (L.headD msg0).commit] 30)) hcp2 (hh.out.ext (ext_alloc _ _))
            have HWT := Lib.hid hWT
            clear R0 hh hWT
            generalize (!L.isEmpty) = be at *
            generalize (L.headD msg0) = mm at *
            go_wp2_with fail
            refine HWT.out.mono ?_
            rintro e w5 ⟨rfl, hh3⟩
            have hh2 : Hid (Both w p c q cap L.tail (w5.alloc (.cells #[.int .i64 mm.to, .int .i64 mm.epoch, .int .i64 mm.seq, .int .i64 mm.commit] 30))) := Lib.hid (hh3.out.1.ext (ext_alloc _ _))
            have hne4 : w4.heap.size ≠ q := by omega
            have m0 := hh3.out.2.cell (a := ⟨w4.heap.size, 0, none⟩) (v := .int .i64 mm.to) (by simp) hne4
            have m1 := hh3.out.2.cell (a := ⟨w4.heap.size, 1, none⟩) (v := .int .i64 mm.epoch) (by simp) hne4
            have m2 := hh3.out.2.cell (a := ⟨w4.heap.size, 2, none⟩) (v := .int .i64 mm.seq) (by simp) hne4
            have m3 := hh3.out.2.cell (a := ⟨w4.heap.size, 3, none⟩) (v := .int .i64 mm.commit) (by simp) hne4
            have hlt5 := World.block_lt_of_cell? _ _ m0
            simp only at hlt5
            have hq := eql30_yes mm
            have hg := guardEq30
            clear HWT hh3
            go_wp2_with fail
            clear m0 m1 m2 m3 hq hg
          rotate_left 1
          focus
            go_wp2_with fail
            have R0 : Hid (Both w p c q cap L (wr.alloc (.cells #[.int .i64 y, .int .i64 0, .int .i64 k, .int .i64 0] 30))) := Lib.hid (R.out.ext (ext_alloc _ _))
            clear R
            refine (half_turn R0.out).mono ?_
            rintro e w4 ⟨rfl, hh⟩
            clear R0
            skip
            go_wp2_with fail
            refine (whole_turn hcp2 hh.out).mono ?_
            rintro e w5 ⟨rfl, hh2⟩
            clear hh
            skip
          rotate_left 1
          focus
            go_wp2_with fail
            have R0 : Hid (Both w p c q cap L (wr.alloc (.cells #[.int .i64 y, .int .i64 0, .int .i64 k, .int .i64 0] 30))) := Lib.hid (R.out.ext (ext_alloc _ _))
            clear R
            refine (half_drop R0.out).mono ?_
            rintro e w4 ⟨rfl, hh⟩
            clear R0
            skip
            go_wp2_with fail
            refine (whole_drop hcp2 hh.out).mono ?_
            rintro e w5 ⟨rfl, hh2⟩
            clear hh
            skip
          rotate_left 1
          focus
            go_wp2_with fail
            have R0 : Hid (Both w p c q cap L (wr.alloc (.cells #[.int .i64 y, .int .i64 0, .int .i64 k, .int .i64 0] 30))) := Lib.hid (R.out.ext (ext_alloc _ _))
            clear R
            refine (half_twice hcp2 R0.out).mono ?_
            rintro e w4 ⟨rfl, hh⟩
            clear R0
            skip
            go_wp2_with fail
            refine (whole_twice hcp2 hh.out).mono ?_
            rintro e w5 ⟨rfl, hh2⟩
            clear hh
            skip
          rotate_left 1
          all_goals go_wp2_with fail
          all_goals go_meet
          all_goals exact ⟨rfl, Lib.hid ⟨_, hh2.out⟩⟩
        case rest =>
          obtain ⟨rfl, hL⟩ := hcut
          obtain ⟨LL, hB⟩ := hL.out
          clear hL R c0 c1
          obtain ⟨ao2, cp2, hcell, hkeep⟩ := hB.held
          clear hB
          go_wp2_with fail
          go_region_held3 (fun w' => w'.cell? ⟨q, 0, none⟩ = some (.slice ao2 LL.length cp2) ∧ Keeps w p c q cap LL ao2 cp2 w')
            (first | exact Held.ext ⟨hcell, hkeep⟩ (ext_drew _) | assumption)
            (first
              | (go_at_call 20; refine (held_len (by assumption)).mono ?_; rintro e w6 ⟨rfl, rfl⟩)
              | (go_at_call 22; refine (held_all hcp2 (by assumption)).mono ?_; rintro e w6 ⟨v6, rfl, hv6, hS6⟩)
              | (go_at_call 21; refine (held_msgs hcp2 (by assumption) (by assumption)).mono ?_; rintro e w6 ⟨rfl, hS6⟩))
          have hB7 : Hid (∃ L, Both w p c q cap L w6) := Lib.hid ⟨_, hS6.2.1⟩
          clear hcell hkeep hS6 hv6
          go_wp2_with fail
          go_roundw
          case rel => exact ⟨k + 1, by omega, by go_num, hB7⟩
          case measure => simp [intOf]; omega
      · have HP : Hid (LawPost w (.returned (.bool true)) wr) := Lib.hid ⟨rfl, R.out.below⟩
        clear R
        go_wp2_with fail
        go_ret
        exact HP.out
end Go.Proofs.Ytfedndlmlbgboaa
