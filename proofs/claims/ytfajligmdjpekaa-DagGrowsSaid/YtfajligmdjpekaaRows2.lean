/- The places that are marked, and the document's Is, Behind, Common, New. -/
import Derived.Test.YtfajligmdjpekaaMarks
namespace Go.Proofs.Ytfajligmdjpekaa
open Go.RowKit Go.Lib Go.Maps Go.Shelf

theorem rowOf_succ (k : Nat) (M : Nat → Bool) : rowOf (k + 1) M = rowOf k M ++ if M k then [(k : Int)] else [] := by
  unfold rowOf
  rw [List.range_succ, List.filter_append, List.map_append]
  cases h : M k <;> simp [h]
theorem rowOf_congr {n : Nat} {S S' : Nat → Bool} (h : ∀ j, j < n → S j = S' j) : rowOf n S = rowOf n S' := by
  unfold rowOf
  rw [List.filter_congr fun j hj => h j (by simpa using hj)]

set_option maxHeartbeats 1000000 in
theorem rows_any (n g c : Nat) (hn : n ≤ 1000) (M : Nat → Bool) (w : World) (ht : Tab w g 4 n (bools M)) : Calls Try.prog 35 #[.slice (some ⟨g, 0, none⟩) n c] w (RowPost w (rowOf n M)) := by
  have HT := Lib.hid ht
  clear ht
  obtain ⟨i0, hi, hz0, hz1, hz2⟩ := info_parts Try.info3
  have HI := Lib.hid hi
  have HZ0 := Lib.hid hz0
  have HZ1 := Lib.hid hz1
  have HZ2 := Lib.hid hz2
  clear hi hz0 hz1 hz2
  go_enter Try.func35, Try.ntmps35
  go_wp2_with fail
  go_loopw [3, 4] (fun v q wr => ∃ k : Nat, k ≤ n ∧ q = .int .i64 k ∧ Hid (Own w.heap.size wr v (rowOf k M)) ∧ Hid (Ext w wr)) (fun _ q _ => n - (intOf q).toNat)
  case atStart => exact ⟨0, Nat.zero_le _, rfl, Lib.hid (own_nil _ _), Lib.hid (ext_refl w)⟩
  case round =>
    obtain ⟨k, hk, rfl, ho, he⟩ := hrel
    by_cases hlt : k < n
    · have hcell := (HT.out.ext he.out).cell hlt
      simp only [bools] at hcell
      have hsucc := rowOf_succ k M
      cases hM : M k with
      | false =>
        rw [hM] at hcell hsucc
        have HO1 : Hid (Own w.heap.size wr u3 (rowOf (k + 1) M)) := Lib.hid (by rw [hsucc]; simpa using ho.out)
        clear hsucc hM ho
        go_wp2_with fail
        go_roundw
        case rel => exact ⟨k + 1, by omega, by go_num, HO1, he⟩
        case measure => simp [intOf]; omega
      | true =>
        rw [hM] at hcell hsucc
        have HSU : Hid (rowOf (k + 1) M = rowOf k M ++ [(k : Int)]) := Lib.hid (by rw [hsucc]; rfl)
        have hlen := rowOf_length k M
        have hzw := he.out.size
        have HSH := Lib.hid (own_form ho.out)
        clear hsucc hM
        go_wp2_with (
          at_builtin
          refine wpList_append_own _ rfl _ _ 29 rfl w.heap.size 3 i0 _ 1 8 Try.underlying29 HI.out HZ0.out HZ1.out HZ2.out rfl (by decide) u3 (rowOf k M).length _ rfl (Own.ext ho.out (ext_alloc _ _)) ⟨wr.heap.size, 0, none⟩ 1 1 [.int .i64 k] rfl rfl
            (World.news_of_block (heap_alloc_new _ _)) (fun u hu => by simp at hu; subst hu; rfl) (by unfold maxLen; omega) (by omega) (by simp; omega) ?_
          intro v' w2 hown hgrow _
          have HO1 : Hid (Own w.heap.size w2 v' (rowOf (k + 1) M)) := Lib.hid (by
            rw [HSU.out]
            unfold Own
            rw [List.length_append, List.map_append]
            exact hown)
          have HE1 : Hid (Ext w w2) := Lib.hid ((he.out.alloc _).grown hgrow (fun q hq => own_block ho.out q hq))
          clear hown hgrow)
        go_wp2_with fail
        go_roundw
        case rel => exact ⟨k + 1, by omega, by go_num, HO1, HE1⟩
        case measure => simp [intOf]; omega
    · obtain rfl : k = n := by omega
      have HP : Hid (RowPost w (rowOf k M) (.returned u3) wr) := Lib.hid ⟨u3, rfl, ho.out, he.out⟩
      obtain ⟨ao, m, cp, rfl⟩ := own_form ho.out
      clear ho he
      go_wp2_with fail
      go_ret
      exact HP.out
end Go.Proofs.Ytfajligmdjpekaa
