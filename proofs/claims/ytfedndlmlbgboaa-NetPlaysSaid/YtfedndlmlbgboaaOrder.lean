/- The walk of NetOrder. -/
import Derived.Test.YtfedndlmlbgboaaTurns
namespace Go.Proofs.Ytfedndlmlbgboaa
open Go.RowKit Go.Conc

/-- The messages that NetOrder sends. -/
def ord (zs : List Int) : List Msg := zs.zipIdx.map fun x => ⟨x.1, 0, x.2, 0⟩
theorem ord_length (zs : List Int) : (ord zs).length = zs.length := by simp [ord]
/-- What waits: from number t on, up to s. -/
def waits (zs : List Int) (s t : Nat) : List Msg := ((ord zs).drop t).take (s - t)
theorem waits_length (zs : List Int) (s t : Nat) (hs : s ≤ zs.length) : (waits zs s t).length = s - t := by
  simp [waits, ord_length]; omega
theorem waits_none (zs : List Int) (s : Nat) : waits zs s s = [] := by simp [waits]
theorem waits_head (zs : List Int) (s t : Nat) (hts : t < s) (hs : s ≤ zs.length) : waits zs s t = ⟨zs[t], 0, t, 0⟩ :: waits zs s (t + 1) := by
  unfold waits
  have h : t < (ord zs).length := by rw [ord_length]; omega
  rw [List.drop_eq_getElem_cons h, show s - t = (s - (t + 1)) + 1 by omega, List.take_succ_cons]
  simp [ord]
theorem waits_more (zs : List Int) (s t : Nat) (hts : t ≤ s) (hs : s < zs.length) : waits zs (s + 1) t = waits zs s t ++ [⟨zs[s], 0, s, 0⟩] := by
  unfold waits
  rw [show s + 1 - t = (s - t) + 1 by omega, List.take_succ_eq_append_getElem (by simp [ord_length]; omega)]
  congr 2
  simp [ord, show t + (s - t) = s by omega]

def OrdRel (w : World) (p c : Nat) (zs : List Int) (s t : Nat) (wr : World) : Prop := NetIs wr p c 32 (waits zs s t) ∧ Below w.heap.size w wr

set_option maxRecDepth 100000 in
set_option maxHeartbeats 2000000 in
theorem order_walk (ao at' : Option Addr) (n cp m cm : Nat) (zs : List Int) (bs : List Bool) (hn : n = zs.length) (hm : m = bs.length) (hn' : n ≤ maxLen) (hm' : m ≤ maxLen) (w : World)
    (hz : ∀ k (h : k < zs.length), ∃ b o, ao = some ⟨b, o, none⟩ ∧ w.cell? ⟨b, o + k, none⟩ = some (.int .i64 zs[k]))
    (hb : ∀ k (h : k < bs.length), ∃ b o, at' = some ⟨b, o, none⟩ ∧ w.cell? ⟨b, o + k, none⟩ = some (.bool bs[k])) :
    Calls Try.prog 4 #[.slice ao n cp, .slice at' m cm] w (LawPost w) := by
  unfold maxLen at hn' hm'
  have HZ := Lib.hid hz
  have HBs := Lib.hid hb
  have HN := Lib.hid hn
  have HM := Lib.hid hm
  clear hz hb hn hm
  by_cases hbig : ¬ (n ≤ 100 ∧ m ≤ 300)
  · have hbig' : 100 < n ∨ (n ≤ 100 ∧ 300 < m) := by omega
    clear hbig
    rcases hbig' with h | ⟨h, h'⟩
    all_goals
      go_enter Try.func4, Try.ntmps4
      go_wp2_with fail
      refine (small_any _).mono ?_
      rintro e w1 ⟨rfl, hb1⟩
      have hz1 := hb1.size
      go_wp2_with fail
      refine (new_any 32 _).mono ?_
      rintro e w2 ⟨p, c, rfl, hn, hp, hc, hb⟩
      have HP : Hid (LawPost w (.returned (.bool true)) w2) := Lib.hid ⟨rfl, hb1.trans (Below.mono hb hz1)⟩
      clear hb1 hb hn
      go_wp2_with fail
      go_ret
      exact HP.out
  · have hle : n ≤ 100 ∧ m ≤ 300 := by omega
    obtain ⟨hle1, hle2⟩ := hle
    clear hbig
    go_enter Try.func4, Try.ntmps4
    go_wp2_with fail
    refine (small_any _).mono ?_
    rintro e w1 ⟨rfl, hb1⟩
    have hz1 := hb1.size
    go_wp2_with fail
    refine (new_any 32 _).mono ?_
    rintro e w2 ⟨p, c, rfl, hn2, hp, hc, hb⟩
    have B2 := Lib.hid (hb1.trans (Below.mono hb hz1))
    have hz2 := B2.out.size
    have N2 : Hid (NetIs w2 p c 32 []) := hn2
    clear hb1 hb hn2
    go_wp2_with fail
    go_loopw [7, 8, 9] (fun s t i wr => ∃ k sn tn : Nat, k ≤ m ∧ tn ≤ sn ∧ sn ≤ n ∧ sn ≤ tn + 32 ∧ i = .int .i64 k ∧ s = .int .i64 sn ∧ t = .int .i64 tn ∧ Hid (OrdRel w p c zs sn tn wr)) (fun _ _ i _ => m - (intOf i).toNat)
    case atStart => exact ⟨0, 0, 0, Nat.zero_le _, Nat.le_refl _, Nat.zero_le _, by omega, rfl, rfl, rfl, Lib.hid ⟨by rw [waits_none]; exact N2.out, B2.out⟩⟩
    case round =>
      obtain ⟨k, s, t, hk, hts, hsn, h32, rfl, rfl, rfl, hr⟩ := hrel
      have hcap := waits_length zs s t (by rw [← HN.out]; exact hsn)
      have HC := Lib.hid hcap
      have hzr := hr.out.2.size
      clear hcap
      by_cases hlt : k < m
      · obtain ⟨bb, ob, rfl, hcell0⟩ := HBs.out k (by rw [← HM.out]; exact hlt)
        have hcell := Ext.cell hr.out.2 hcell0
        have hblt := World.block_lt_of_cell? _ _ hcell0
        simp only at hblt
        generalize bs[k]'(by rw [← HM.out]; exact hlt) = bk at *
        clear hcell0
        cases bk with
        | true =>
          by_cases hts' : t < s
          · have hh := waits_head zs s t hts' (by rw [← HN.out]; exact hsn)
            obtain ⟨bz, oz, rfl, hzc⟩ := HZ.out t (by rw [← HN.out]; omega)
            have hblz := World.block_lt_of_cell? _ _ hzc
            simp only at hblz
            have hzw := fun W (hW : Below w.heap.size w W) => Ext.cell hW hzc
            have HZW := Lib.hid hzw
            have HH := Lib.hid hh
            generalize zs[t]'(by rw [← HN.out]; omega) = z at *
            clear hzc hzw hh
            go_wp2_with fail
            refine (take_at p c 32 _ _ (Lib.hid hr.out.1)).mono ?_
            rintro e w3 ⟨rfl, hs⟩
            rw [HH.out] at hs ⊢
            simp only [List.headD_cons, List.isEmpty_cons, Bool.not_false]
            have N3 : Hid (OrdRel w p c zs s (t + 1) w3) := Lib.hid ⟨hs.1, hr.out.2.trans (hs.2.below (by omega) hzr)⟩
            have hz3 := N3.out.2.size
            clear hs hr
            have y0 := HZW.out w3 N3.out.2
            have hlt0 : (t : Int) < n := by omega
            have hblz3 : bz < w3.heap.size := by omega
            go_wp2_with fail
            go_quiet (fail)
            go_wp2_with fail
            refine (len_any p c 32 _ _ (NetIs.below N3.out.1 (ext_drewN (ext_alloc _ _) _) N3.out.1.lt.1 N3.out.1.lt.2.1)).mono ?_
            rintro e w4 ⟨rfl, rfl⟩
            have hl : (((waits zs s (t + 1)).length : Nat) : Int) = (s : Int) - ((t : Int) + 1) := by
              rw [waits_length zs s (t + 1) (by rw [← HN.out]; exact hsn)]; omega
            rw [hl]
            have hE : Ext w3 ((w3.alloc (.cells #[.int .i64 z, .int .i64 0, .int .i64 t, .int .i64 0] 30)).drewN nq) := ext_drewN (ext_alloc _ _) _
            have N4 : Hid (OrdRel w p c zs s (t + 1) ((w3.alloc (.cells #[.int .i64 z, .int .i64 0, .int .i64 t, .int .i64 0] 30)).drewN nq)) := Lib.hid ⟨NetIs.below N3.out.1 hE N3.out.1.lt.1 N3.out.1.lt.2.1, N3.out.2.trans (Below.mono hE hz3)⟩
            clear hl hE N3 y0
            go_wp2_with fail
            go_roundw
            case rel => exact ⟨k + 1, s, t + 1, by omega, by omega, hsn, by omega, by go_num, rfl, by go_num, N4⟩
            case measure => simp [intOf]; omega
          · obtain rfl : t = s := by omega
            go_wp2_with fail
            refine (take_at p c 32 _ _ (Lib.hid hr.out.1)).mono ?_
            rintro e w3 ⟨rfl, hs⟩
            have hw0 := waits_none zs t
            rw [hw0] at hs ⊢
            simp only [List.headD_nil, List.isEmpty_nil, Bool.not_true, msg0]
            have N3 : Hid (OrdRel w p c zs t t w3) := Lib.hid ⟨by rw [waits_none]; exact hs.1, hr.out.2.trans (hs.2.below (by omega) hzr)⟩
            have hz3 := N3.out.2.size
            clear hs hr hw0
            go_wp2_with fail
            go_quiet (fail)
            go_wp2_with fail
            refine (len_any p c 32 _ _ (NetIs.below N3.out.1 (ext_drewN (ext_alloc _ _) _) N3.out.1.lt.1 N3.out.1.lt.2.1)).mono ?_
            rintro e w4 ⟨rfl, rfl⟩
            have hl : (((waits zs t t).length : Nat) : Int) = (t : Int) - (t : Int) := by rw [waits_none]; simp
            rw [hl]
            have hE : Ext w3 ((w3.alloc (.cells #[.int .i64 0, .int .i64 0, .int .i64 0, .int .i64 0] 30)).drewN nq) := ext_drewN (ext_alloc _ _) _
            have N4 : Hid (OrdRel w p c zs t t ((w3.alloc (.cells #[.int .i64 0, .int .i64 0, .int .i64 0, .int .i64 0] 30)).drewN nq)) := Lib.hid ⟨NetIs.below N3.out.1 hE N3.out.1.lt.1 N3.out.1.lt.2.1, N3.out.2.trans (Below.mono hE hz3)⟩
            clear hl hE N3
            go_wp2_with fail
            go_roundw
            case rel => exact ⟨k + 1, t, t, by omega, by omega, hsn, by omega, by go_num, rfl, rfl, N4⟩
            case measure => simp [intOf]; omega
        | false =>
          have hfin : ∀ s' t' : Nat, t' ≤ s' → s' ≤ n → (((waits zs s' t').length : Nat) : Int) = (s' : Int) - (t' : Int) := by
            intro s' t' h1 h2
            rw [waits_length zs s' t' (by rw [← HN.out]; exact h2)]; omega
          have HF := Lib.hid hfin
          clear hfin
          by_cases hsn' : s < n
          · obtain ⟨bz, oz, rfl, hzc⟩ := HZ.out s (by rw [← HN.out]; omega)
            have hy0 := Ext.cell hr.out.2 hzc
            have hmore := waits_more zs s t hts (by rw [← HN.out]; omega)
            have HM2 := Lib.hid hmore
            generalize zs[s]'(by rw [← HN.out]; omega) = z at *
            clear hzc hmore
            by_cases hroom : s < t + 32
            · go_wp2_with fail
              refine (send_ok p c 32 _ ⟨z, 0, s, 0⟩ _ hr.out.1 (by rw [HC.out]; omega)).mono ?_
              rintro e w3 ⟨rfl, hs⟩
              have N3 : Hid (OrdRel w p c zs (s + 1) t w3) := Lib.hid ⟨by rw [HM2.out]; exact hs.out.1, hr.out.2.trans (hs.out.2.below (by omega) hzr)⟩
              clear hs hr hy0
              have hd : (s : Int) - t < 32 := by omega
              go_wp2_with fail
              refine (len_any p c 32 _ _ N3.out.1).mono ?_
              rintro e w4 ⟨rfl, rfl⟩
              rw [HF.out (s + 1) t (by omega) (by omega), show ((s + 1 : Nat) : Int) = (s : Int) + 1 by omega]
              go_wp2_with fail
              go_roundw
              case rel => exact ⟨k + 1, s + 1, t, by omega, by omega, by omega, by omega, by go_num, by go_num, rfl, N3⟩
              case measure => simp [intOf]; omega
            · go_wp2_with fail
              refine (send_no p c 32 _ ⟨z, 0, s, 0⟩ _ hr.out.1 (by rw [HC.out]; omega)).mono ?_
              rintro e w3 ⟨rfl, hs⟩
              have N3 : Hid (OrdRel w p c zs s t w3) := Lib.hid ⟨hs.out.1, hr.out.2.trans (hs.out.2.below (by omega) hzr)⟩
              clear hs hr hy0
              have hd : ¬ (s : Int) - t < 32 := by omega
              go_wp2_with fail
              refine (len_any p c 32 _ _ N3.out.1).mono ?_
              rintro e w4 ⟨rfl, rfl⟩
              rw [HF.out s t (by omega) (by omega)]
              go_wp2_with fail
              go_roundw
              case rel => exact ⟨k + 1, s, t, by omega, by omega, by omega, by omega, by go_num, rfl, rfl, N3⟩
              case measure => simp [intOf]; omega
          · have hge : n ≤ s := by omega
            go_wp2_with fail
            refine (len_any p c 32 _ _ hr.out.1).mono ?_
            rintro e w4 ⟨rfl, rfl⟩
            rw [HF.out s t (by omega) (by omega)]
            go_wp2_with fail
            go_roundw
            case rel => exact ⟨k + 1, s, t, by omega, by omega, by omega, by omega, by go_num, rfl, rfl, hr⟩
            case measure => simp [intOf]; omega
      · have HP : Hid (LawPost w (.returned (.bool true)) wr) := Lib.hid ⟨rfl, hr.out.2⟩
        clear hr
        go_wp2_with fail
        go_ret
        exact HP.out
end Go.Proofs.Ytfedndlmlbgboaa
