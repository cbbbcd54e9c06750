/- slices.Grow at nil, and slices.Concat of rows. -/
import Derived.Test.YtfajligmdjpekaaShelf2
import Derived.Test.YtfajligmdjpekaaRefBases
import Derived.Laws.AppendOwnNone
import Derived.Deep.Upon
import Derived.Lib.AppendZeros
namespace Go.Proofs.Ytfajligmdjpekaa
open Go.RowKit Go.Lib Go.Maps Go.Shelf

theorem grow_nil (n : Nat) (hn : n ≤ 1000) (w : World) : Calls Try.prog 50 #[.slice none 0 0, .int .i64 n] w (RowPost w []) := by
  obtain ⟨i0, hi, hz0, hz1, hz2⟩ := info_parts Try.info3
  rcases Nat.eq_zero_or_pos n with rfl | h0
  · refine (Any8.slices_Grow_room Try.grow50 none 0 0 0 w (by omega) (by omega) (by omega) (by omega)).mono ?_
    rintro e w' ⟨rfl, rfl⟩
    exact ⟨_, rfl, own_nil _ _, ext_refl _⟩
  · refine (Any8.slices_Grow_grow Try.grow50 i0 _ hi hz0 (by omega) none 0 0 n [] w (by omega) (by omega) (by rw [hz2]; omega) (by omega) (by simp) (fun _ => rfl) (fun a h => by cases h)).mono ?_
    rintro e w' ⟨rfl, rfl⟩
    have hG := grownCap_le_maxLen w (0 + n) 0 (Try.grow50_ren.t 25) (by unfold maxLen; omega)
    have hG2 := grownCap_ge w (0 + n) 0 (Try.grow50_ren.t 25)
    generalize grownCap w (0 + n) 0 (Try.grow50_ren.t 25) = G at *
    refine ⟨_, rfl, ⟨by simp, .inr ⟨_, _, _, rfl, Nat.le_refl _, heap_alloc_new _ _, Nat.zero_le _, hG, ?_, by simp⟩⟩, (ext_refl w).drew.trans (ext_alloc _ _)⟩
    simp only [Array.size_append, size_zeroCells, List.size_toArray, List.length_nil]
    have : (Value.int .i64 0).cells.size = 1 := rfl
    rw [this]
    omega

theorem append_none (w : World) (t ty e : TypeId) (i : TypeInfo) (ht : Try.prog.underlying t = some (.slice e)) (hi : Try.prog.info? e = some i) (hs : i.size = 1) (base : Option Addr) (sLen sCap c : Nat) (hle : sLen ≤ sCap) :
    (Builtin.append_ #[t, t] ty #[.slice base sLen sCap, .slice none 0 c]).run Try.prog w = .ok (.slice base sLen sCap) w :=
  run_append_nothing w t t ty e i ht hi base sLen sCap hle _ ⟨.inl ⟨_, ht⟩, fun w' => rfl, by rw [hs]; rfl, by rw [hs]; rfl, by simp, by simp⟩

theorem own_le {base : Nat} {w : World} {v : Value} {xs : List Int} (h : Own base w v xs) : ∃ a m c, v = .slice a m c ∧ m ≤ c := by
  rcases h.2 with ⟨rfl, _⟩ | ⟨g, cp, cur, rfl, _, _, h3, _⟩
  · exact ⟨_, _, _, rfl, Nat.le_refl _⟩
  · exact ⟨_, _, _, rfl, h3⟩
theorem flat_succ {l : List (List Int)} {k : Nat} {r : List Int} (h : l[k]? = some r) : (l.take (k + 1)).flatten = (l.take k).flatten ++ r := by
  rw [List.take_add_one, h]; simp

set_option maxHeartbeats 1000000 in
theorem concat_any (n c : Nat) (a : Option Addr) (l : List (List Int)) (hn : l.length = n) (hc : n ≤ 1000) (w : World) (hf : RowFacts w a l) (hlen : ∀ k, (l.take k).flatten.length ≤ 1000) :
    Calls Try.prog 39 #[.slice a n c] w (RowPost w l.flatten) := by
  have HF := Lib.hid hf
  have HN := Lib.hid hn
  have HL := Lib.hid hlen
  obtain ⟨i0, hi, hz0, hz1, hz2⟩ := info_parts Try.info3
  have HI := Lib.hid hi
  have HZ0 := Lib.hid hz0
  have HZ1 := Lib.hid hz1
  have HZ2 := Lib.hid hz2
  clear hf hn hlen hi hz0 hz1 hz2
  go_enter Try.func39, Try.ntmps39
  go_wp2_with fail
  go_loopw [3, 5, 11] (fun s _ q wr => ∃ k : Nat, k ≤ n ∧ q = .int .i64 k ∧ s = .int .i64 (l.take k).flatten.length ∧ w = wr) (fun _ _ q _ => n - (intOf q).toNat)
  case atStart => exact ⟨0, Nat.zero_le _, rfl, rfl, rfl⟩
  case round =>
    obtain ⟨k, hk, rfl, rfl, rfl⟩ := hrel
    by_cases hlt : k < n
    · have er : l[k]? = some (l[k]'(by rw [HN.out]; exact hlt)) := List.getElem?_eq_getElem _
      generalize (l[k]'(by rw [HN.out]; exact hlt)) = r at er
      obtain ⟨b, o, ar, cr, rfl, hu, h3, h4, hx⟩ := HF.out k r er
      have hs1 := HL.out (k + 1)
      have HS : Hid ((l.take (k + 1)).flatten.length = (l.take k).flatten.length + r.length) := Lib.hid (by rw [flat_succ er]; simp)
      rw [HS.out] at hs1
      generalize (l.take k).flatten.length = T at *
      clear er hx
      have d1 : ¬ ((T : Int) + r.length < 0) := by omega
      go_wp2_with fail
      go_roundw
      case rel => exact ⟨k + 1, by omega, by go_num, by rw [HS.out]; go_num, by first | rfl | trivial⟩
      case measure => simp [intOf]; omega
    · obtain rfl : k = n := by omega
      have hT := HL.out k
      have hgrow := grow_nil (l.take k).flatten.length hT w
      generalize (l.take k).flatten.length = T at *
      go_wp2_with fail
      refine hgrow.mono ?_
      rintro e w1 ⟨v1, rfl, ho1, h1⟩
      have HSH := Lib.hid (own_form ho1)
      have HO1 := Lib.hid ho1
      have HE1 := Lib.hid h1
      clear hgrow ho1 h1
      go_wp2_with fail
      go_loopw [6, 8, 27] (fun v _ q wr => ∃ j : Nat, j ≤ k ∧ q = .int .i64 j ∧ Hid (Own w.heap.size wr v (l.take j).flatten) ∧ Hid (Ext w wr)) (fun _ _ q _ => k - (intOf q).toNat)
      case atStart => exact ⟨0, Nat.zero_le _, rfl, HO1, HE1⟩
      case round =>
        obtain ⟨j, hj, rfl, ho, he⟩ := hrel
        by_cases hlt2 : j < k
        · have er : l[j]? = some (l[j]'(by rw [HN.out]; exact hlt2)) := List.getElem?_eq_getElem _
          generalize (l[j]'(by rw [HN.out]; exact hlt2)) = r at er
          obtain ⟨b, o, ar, cr, rfl, hu0, h3, h4, hx⟩ := HF.out j r er
          have hu := he.out.cell hu0
          have hT1 := HL.out (j + 1)
          have HX := Lib.hid hx
          have HSU : Hid ((l.take (j + 1)).flatten = (l.take j).flatten ++ r) := Lib.hid (flat_succ er)
          rw [HSU.out, List.length_append] at hT1
          have hzw := he.out.size
          obtain ⟨m, hm⟩ : ∃ m, m = r.length := ⟨_, rfl⟩
          rw [← hm] at hu h3 hT1
          have HMr := Lib.hid hm
          clear er hu0 hx hm
          by_cases hm0 : ar = none
          · subst hm0
            have hr0 : r = [] := by
              cases r with
              | nil => rfl
              | cons x r => obtain ⟨_, _, h, _⟩ := HX.out 0 x rfl; cases h
            have HO1 : Hid (Own w.heap.size wr u6 (l.take (j + 1)).flatten) := Lib.hid (by rw [HSU.out, hr0, List.append_nil]; exact ho.out)
            obtain rfl : m = 0 := by rw [HMr.out, hr0]; rfl
            obtain ⟨av, lv, cv, hv, hlc⟩ : ∃ av lv cv, u6 = .slice av lv cv ∧ lv ≤ cv := own_le ho.out
            subst hv
            clear hr0 ho
            go_wp2_with (
              at_builtin
              refine Lib.wpList_append_run _ rfl _ _ _ _ rfl _ _ rfl rfl _ _ (append_none _ 29 _ 3 i0 Try.underlying29 HI.out HZ1.out av lv cv cr hlc) ?_)
            go_wp2_with fail
            go_roundw
            case rel => exact ⟨j + 1, by omega, by go_num, HO1, he⟩
            case measure => simp [intOf]; omega
          · obtain ⟨ad, rfl⟩ := Option.ne_none_iff_exists'.1 hm0
            obtain ⟨ab, ao, asp⟩ := ad
            have hsp : m = 0 ∨ asp = none := by
              rcases Nat.eq_zero_or_pos m with h | h
              · exact .inl h
              · right
                obtain ⟨_, _, he2, _⟩ := HX.out 0 (r[0]'(by rw [← HMr.out]; exact h)) (List.getElem?_eq_getElem _)
                cases he2
                rfl
            have hnews : ∀ j' u, (r.map (Value.int .i64))[j']? = some u → wr.cell? ((⟨ab, ao, asp⟩ : Addr).add j') = some u := by
              intro j' u hj'
              simp only [List.getElem?_map, Option.map_eq_some_iff] at hj'
              obtain ⟨x, hxr, rfl⟩ := hj'
              obtain ⟨b', o', h5, h6⟩ := HX.out j' x hxr
              cases h5
              have h7 := he.out.cell h6
              by_cases hj0 : j' = 0
              · subst hj0; simpa [Addr.add] using h7
              · simpa [Addr.add, hj0] using h7
            have HNW := Lib.hid hnews
            have HSH := Lib.hid (own_form ho.out)
            clear hnews hsp
            go_wp2_with (
              at_builtin
              refine wpList_append_own _ rfl _ _ 29 rfl w.heap.size 3 i0 _ 1 8 Try.underlying29 HI.out HZ0.out HZ1.out HZ2.out rfl (by decide) u6 (l.take j).flatten.length _ rfl ho.out ⟨ab, ao, asp⟩ m cr (r.map (Value.int .i64)) rfl (by rw [List.length_map, HMr.out, Nat.mul_one])
                HNW.out (fun u hu => by obtain ⟨x, _, rfl⟩ := List.mem_map.1 hu; rfl) (by unfold maxLen; omega) (by omega) hzw ?_
              intro v' w2 hown hgrow _
              have HO1 : Hid (Own w.heap.size w2 v' (l.take (j + 1)).flatten) := Lib.hid (by
                rw [HSU.out]
                unfold Own
                rw [List.length_append, List.map_append, ← HMr.out]
                exact hown)
              have HE1 : Hid (Ext w w2) := Lib.hid (he.out.grown hgrow (fun q hq => own_block ho.out q hq))
              clear hown hgrow)
            go_wp2_with fail
            go_roundw
            case rel => exact ⟨j + 1, by omega, by go_num, HO1, HE1⟩
            case measure => simp [intOf]; omega
        · obtain rfl : j = k := by omega
          have HP : Hid (RowPost w l.flatten (.returned u6) wr) := Lib.hid ⟨u6, rfl, by rw [show l = l.take j by rw [← HN.out, List.take_length]]; exact ho.out, he.out⟩
          obtain ⟨ao', m', cp', rfl⟩ := own_form ho.out
          clear ho he
          go_wp2_with fail
          go_ret
          exact HP.out
end Go.Proofs.Ytfajligmdjpekaa
