/- dag.Heads, and the document's Base. -/
import Derived.Test.YtfajligmdjpekaaConcat
import Derived.Test.YtfajligmdjpekaaRefBases2
namespace Go.Proofs.Ytfajligmdjpekaa
open Go.RowKit Go.Lib Go.Maps Go.Shelf

theorem contains_any (xs : List Int) (a : Option Addr) (c : Nat) (x : Int) (w : World) (h : xs.length ≤ 1000) (hx : IntsFacts w a xs) :
    Calls Try.prog 40 #[.slice a xs.length c, .int .i64 x] w fun e w' => e = .returned (.bool (xs.contains x)) ∧ w' = w := by
  cases xs with
  | nil => exact Try.slices_Contains_int_empty a c x w
  | cons y ys =>
    obtain ⟨b, o, rfl, _⟩ := hx 0 y rfl
    have := Any.slices_Contains_int Try.lays107 b o (y :: ys).length c (y :: ys) x w (Nat.le_refl _) (by omega) (fun j hj => by
      obtain ⟨b', o', he, hcell⟩ := hx j _ (List.getElem?_eq_getElem hj)
      cases he
      rw [getD_eq hj]
      exact hcell)
    rw [List.take_length] at this
    exact this

theorem flat_length {l : List (List Int)} (h : ∀ r ∈ l, r.length ≤ 2) : l.flatten.length ≤ 2 * l.length := by
  induction l with
  | nil => simp
  | cons r l ih =>
    have h1 := h r (List.mem_cons_self ..)
    have h2 := ih fun r hr => h r (List.mem_cons_of_mem _ hr)
    simp only [List.flatten_cons, List.length_append, List.length_cons]
    omega
theorem right_rows2 {l : List (List Int)} (h : right l = true) : ∀ r ∈ l, r.length ≤ 2 := by
  intro r hr
  obtain ⟨k, hk, rfl⟩ := List.getElem_of_mem hr
  exact (okRow_mem (right_row h (List.getElem?_eq_getElem hk))).1
theorem heads_flat {l : List (List Int)} (h : right l = true) (j : Nat) : headsS l j = !l.flatten.contains (j : Int) := by
  rw [headsS, Bool.not_inj_iff, Bool.eq_iff_iff]
  simp only [List.any_eq_true, List.mem_range, List.contains_iff_mem, List.mem_flatten]
  constructor
  · rintro ⟨c, hc, hp⟩
    have hr : l[c]? = some l[c] := List.getElem?_eq_getElem hc
    obtain ⟨x, hx, rfl⟩ := (mem_pars hr).1 hp
    have := (okRow_mem (right_row h hr)).2 x hx
    refine ⟨_, List.getElem_mem hc, ?_⟩
    rwa [show ((x.toNat : Nat) : Int) = x by omega]
  · rintro ⟨r, hr, hj⟩
    obtain ⟨c, hc, rfl⟩ := List.getElem_of_mem hr
    exact ⟨c, hc, (mem_pars (List.getElem?_eq_getElem hc)).2 ⟨_, hj, by simp⟩⟩

set_option maxHeartbeats 1000000 in
theorem heads_any (n c : Nat) (a : Option Addr) (l : List (List Int)) (hn : l.length = n) (hc : n ≤ 1000) (w : World) (hf : RowFacts w a l) :
    Calls Try.prog 25 #[.slice a n c] w (RowPost w (headsL l)) := by
  have HF := Lib.hid hf
  have HN := Lib.hid hn
  obtain ⟨i0, hi, hz0, hz1, hz2⟩ := info_parts Try.info3
  have HI := Lib.hid hi
  have HZ0 := Lib.hid hz0
  have HZ1 := Lib.hid hz1
  have HZ2 := Lib.hid hz2
  clear hf hn hi hz0 hz1 hz2
  go_enter Try.func25, Try.ntmps25
  go_wp2_with fail
  refine (right_walk n c a l w HN.out hc HF.out).mono ?_
  rintro e w1 ⟨rfl, d, hd⟩
  have HE : Hid (Ext w w1) := Lib.hid (by rw [hd]; exact (ext_refl w).drewN d)
  clear hd
  cases hr : right l with
  | false =>
    have HP : Hid (RowPost w (headsL l) (.returned (.slice none 0 0)) w1) := Lib.hid ⟨_, rfl, by simp only [headsL, hr]; exact own_nil _ _, HE.out⟩
    clear hr
    go_wp2_with fail
    go_ret
    exact HP.out
  | true =>
    have h2 := right_rows2 hr
    have h64 : n ≤ 64 := by rw [← HN.out]; exact right_length hr
    have HH : Hid (headsL l = rowOf n (fun j => !l.flatten.contains (j : Int))) := Lib.hid (by
      rw [headsL, if_pos hr, HN.out]
      exact rowOf_congr fun j _ => heads_flat hr j)
    have hfl : l.flatten.length ≤ 1000 := by
      have := flat_length h2
      have := HN.out
      omega
    have hcc := concat_any n c a l HN.out hc w1 (HF.out.ext HE.out) (fun k => by
      have h3 := flat_length (l := l.take k) (fun r hr => h2 r (List.mem_of_mem_take hr))
      have h4 : (l.take k).length ≤ l.length := by rw [List.length_take]; omega
      have := HN.out
      omega)
    clear hr h2
    go_wp2_with fail
    refine hcc.mono ?_
    rintro e w2 ⟨v2, rfl, ho2, h2⟩
    obtain ⟨ap, cp, rfl, hcells⟩ := ho2.facts hfl
    generalize l.flatten = P at *
    have HCL : Hid (∀ W, Ext w2 W → ∀ k : Nat, Calls Try.prog 40 #[.slice ap P.length cp, .int .i64 k] W fun e w' => e = .returned (.bool (P.contains (k : Int))) ∧ w' = W) := Lib.hid fun W hW k => contains_any P ap cp k W hfl (IntsFacts.ext hcells hW)
    have HE2 : Hid (Ext w w2) := Lib.hid (HE.out.trans h2)
    generalize P.length = m at *
    clear hcc ho2 h2 hcells
    go_wp2_with fail
    go_loopw [4, 5, 13] (fun v _ q wr => ∃ k : Nat, k ≤ n ∧ q = .int .i64 k ∧ Hid (Own w2.heap.size wr v (rowOf k (fun j => !P.contains (j : Int)))) ∧ Hid (Ext w2 wr)) (fun _ _ q _ => n - (intOf q).toNat)
    case atStart => exact ⟨0, Nat.zero_le _, rfl, Lib.hid (own_nil _ _), Lib.hid (ext_refl _)⟩
    case round =>
      obtain ⟨k, hk, rfl, ho, he⟩ := hrel
      by_cases hlt : k < n
      · have hsucc := rowOf_succ k (fun j => !P.contains (j : Int))
        have hcall := HCL.out wr he.out k
        cases hP : P.contains (k : Int) with
        | true =>
          rw [hP] at hcall hsucc
          have HO1 : Hid (Own w2.heap.size wr u4 (rowOf (k + 1) (fun j => !P.contains (j : Int)))) := Lib.hid (by rw [hsucc]; simpa using ho.out)
          clear hsucc hP ho
          go_wp2_with fail
          refine hcall.mono ?_
          rintro e w3 ⟨rfl, rfl⟩
          go_wp2_with fail
          go_roundw
          case rel => exact ⟨k + 1, by omega, by go_num, HO1, he⟩
          case measure => simp [intOf]; omega
        | false =>
          rw [hP] at hcall hsucc
          have HSU : Hid (rowOf (k + 1) (fun j => !P.contains (j : Int)) = rowOf k (fun j => !P.contains (j : Int)) ++ [(k : Int)]) := Lib.hid (by rw [hsucc]; rfl)
          have hlen := rowOf_length k (fun j => !P.contains (j : Int))
          have hzw := he.out.size
          have HSH := Lib.hid (own_form ho.out)
          clear hsucc hP
          go_wp2_with fail
          refine hcall.mono ?_
          rintro e w3 ⟨rfl, rfl⟩
          clear hcall
          go_wp2_with (
            at_builtin
            refine wpList_append_own _ rfl _ _ 29 rfl w2.heap.size 3 i0 _ 1 8 Try.underlying29 HI.out HZ0.out HZ1.out HZ2.out rfl (by decide) u4 (rowOf k (fun j => !P.contains (j : Int))).length _ rfl (Own.ext ho.out (ext_alloc _ _)) ⟨w3.heap.size, 0, none⟩ 1 1 [.int .i64 k] rfl rfl
              (World.news_of_block (heap_alloc_new _ _)) (fun u hu => by simp at hu; subst hu; rfl) (by unfold maxLen; omega) (by omega) (by simp; omega) ?_
            intro v' w4 hown hgrow _
            have HO1 : Hid (Own w2.heap.size w4 v' (rowOf (k + 1) (fun j => !P.contains (j : Int)))) := Lib.hid (by
              rw [HSU.out]
              unfold Own
              rw [List.length_append, List.map_append]
              exact hown)
            have HE1 : Hid (Ext w2 w4) := Lib.hid ((he.out.alloc _).grown hgrow (fun q hq => own_block ho.out q hq))
            clear hown hgrow)
          go_wp2_with fail
          go_roundw
          case rel => exact ⟨k + 1, by omega, by go_num, HO1, HE1⟩
          case measure => simp [intOf]; omega
      · obtain rfl : k = n := by omega
        have HP : Hid (RowPost w (headsL l) (.returned u4) wr) := Lib.hid ⟨u4, rfl, by rw [HH.out]; exact ho.out.mono HE2.out.size, HE2.out.trans he.out⟩
        obtain ⟨ao', m', cp', rfl⟩ := own_form ho.out
        clear ho he
        go_wp2_with fail
        go_ret
        exact HP.out

set_option maxHeartbeats 400000 in
theorem refBase_any (n c : Nat) (a : Option Addr) (l : List (List Int)) (hn : l.length = n) (hc : n ≤ 1000) (x y : Int) (w : World) (hf : RowFacts w a l) :
    Calls Try.prog 17 #[.slice a n c, .int .i64 x, .int .i64 y] w (Gives (.int .i64 (baseI l x y)) w) := by
  have HF := Lib.hid hf
  have HN := Lib.hid hn
  clear hf hn
  go_enter Try.func17, Try.ntmps17
  go_wp2_with fail
  refine (refBases_any n c a l HN.out hc x y w HF.out).mono ?_
  rintro e w1 ⟨v, rfl, ho, h1⟩
  have hl := basesL_length l x y
  have HE := Lib.hid h1
  obtain ⟨ao, cp, rfl, hcells⟩ := ho.facts (by omega)
  have HBI : Hid (baseI l x y = (basesL l x y).getLastD (-1)) := Lib.hid rfl
  generalize basesL l x y = xs at *
  clear ho h1
  rcases List.eq_nil_or_concat xs with rfl | ⟨ys, z, rfl⟩
  · have HP : Hid (Gives (.int .i64 (baseI l x y)) w (.returned (.int .i64 (-1))) w1) := Lib.hid ⟨by rw [HBI.out]; rfl, HE.out⟩
    simp only [List.length_nil]
    clear hcells
    go_wp2_with fail
    go_ret
    exact HP.out
  · rw [List.concat_eq_append] at hl HBI hcells ⊢
    have hlen : (ys ++ [z]).length = ys.length + 1 := by simp
    obtain ⟨b, o, rfl, hz⟩ := hcells ys.length z (by simp)
    rw [hlen] at hl ⊢
    have HP : Hid (Gives (.int .i64 (baseI l x y)) w (.returned (.int .i64 z)) w1) := Lib.hid ⟨by rw [HBI.out]; simp, HE.out⟩
    generalize ys.length = q at *
    clear hcells hlen
    have hq : ((q + 1 : Nat) : Int) - 1 = q := by omega
    have hne : ¬ ((q + 1 : Nat) : Int) = 0 := by omega
    go_wp2_with fail
    go_ret
    exact HP.out
end Go.Proofs.Ytfajligmdjpekaa
