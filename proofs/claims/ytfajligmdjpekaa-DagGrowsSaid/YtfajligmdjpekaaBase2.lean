/- dag.Base, and whether two rows of numbers are one. -/
import Derived.Test.YtfajligmdjpekaaBases
namespace Go.Proofs.Ytfajligmdjpekaa
open Go.RowKit Go.Lib Go.Maps Go.Shelf

/-- The facts on a row's cells. -/
theorem Own.facts {base : Nat} {w : World} {v : Value} {xs : List Int} (h : Own base w v xs) (hl : xs.length ≤ 1000) :
    ∃ a c, v = .slice a xs.length c ∧ ∀ j x, xs[j]? = some x → ∃ b o, a = some ⟨b, o, none⟩ ∧ w.cell? ⟨b, o + j, none⟩ = some (.int .i64 x) := by
  obtain ⟨a, c, hv, _, _, hc⟩ := (h.ints (by unfold maxLen; omega)).open
  exact ⟨a, c, hv, hc⟩

theorem basesL_length (l : List (List Int)) (x y : Int) : (basesL l x y).length ≤ 64 := by
  unfold basesL
  split
  · rename_i h
    exact Nat.le_trans (rowOf_length _ _) (right_length (there2_open h).1)
  · simp

set_option maxHeartbeats 400000 in
theorem base_any (n c : Nat) (a : Option Addr) (l : List (List Int)) (hn : l.length = n) (hc : n ≤ 1000) (x y : Int) (w : World) (hf : RowFacts w a l) :
    Calls Try.prog 16 #[.slice a n c, .int .i64 x, .int .i64 y] w (Gives (.int .i64 (baseI l x y)) w) := by
  have HF := Lib.hid hf
  have HN := Lib.hid hn
  clear hf hn
  go_enter Try.func16, Try.ntmps16
  go_wp2_with fail
  refine (bases_any n c a l HN.out hc x y w HF.out).mono ?_
  rintro e w1 ⟨v, rfl, ho, h1⟩
  have hl := basesL_length l x y
  have HE := Lib.hid h1
  obtain ⟨ao, cp, rfl, hcells⟩ := ho.facts (by omega)
  have HBI : Hid (baseI l x y = (basesL l x y).getLastD (-1)) := Lib.hid rfl
  generalize basesL l x y = xs at *
  clear ho h1
  rcases List.eq_nil_or_concat xs with rfl | ⟨ys, z, rfl⟩
  · have HP : Hid (Gives (.int .i64 (baseI l x y)) w (.returned (.int .i64 (-1))) w1) := Lib.hid ⟨by rw [HBI.out]; rfl, HE.out⟩
    simp only [List.length_nil]
    clear hcells
    go_wp2_with fail
    go_ret
    exact HP.out
  · rw [List.concat_eq_append] at hl HBI hcells ⊢
    have hlen : (ys ++ [z]).length = ys.length + 1 := by simp
    obtain ⟨b, o, rfl, hz⟩ := hcells ys.length z (by simp)
    rw [hlen] at hl ⊢
    have HP : Hid (Gives (.int .i64 (baseI l x y)) w (.returned (.int .i64 z)) w1) := Lib.hid ⟨by rw [HBI.out]; simp, HE.out⟩
    generalize ys.length = q at *
    clear hcells hlen
    have hq : ((q + 1 : Nat) : Int) - 1 = q := by omega
    have hne : ¬ ((q + 1 : Nat) : Int) = 0 := by omega
    go_wp2_with fail
    go_ret
    exact HP.out

def IntsFacts (w : World) (a : Option Addr) (xs : List Int) : Prop := ∀ j x, xs[j]? = some x → ∃ b o, a = some ⟨b, o, none⟩ ∧ w.cell? ⟨b, o + j, none⟩ = some (.int .i64 x)
theorem IntsFacts.ext {w w' : World} {a : Option Addr} {xs : List Int} (h : IntsFacts w a xs) (hE : Ext w w') : IntsFacts w' a xs := fun j x hj => by
  obtain ⟨b, o, h1, h2⟩ := h j x hj
  exact ⟨b, o, h1, hE.cell h2⟩

set_option maxHeartbeats 400000 in
theorem ints_any (n m c d : Nat) (a b : Option Addr) (xs ys : List Int) (hn : xs.length = n) (hm : ys.length = m) (h1 : n ≤ 1000) (h2 : m ≤ 1000) (w : World) (hx : IntsFacts w a xs) (hy : IntsFacts w b ys) :
    Calls Try.prog 18 #[.slice a n c, .slice b m d] w (Says (.bool (xs == ys)) w) := by
  have HX := Lib.hid hx
  have HY := Lib.hid hy
  have HN := Lib.hid hn
  have HM := Lib.hid hm
  clear hx hy hn hm
  by_cases hnm : n = m
  · subst hnm
    have hne : (((n : Int) != (n : Int))) = false := by simp
    go_enter Try.func18, Try.ntmps18
    go_wp2_with fail
    go_loopw [5] (fun q wr => ∃ k : Nat, k ≤ n ∧ q = .int .i64 k ∧ Hid (xs.take k = ys.take k) ∧ Hid (∃ j, wr = w.drewN j)) (fun q _ => n - (intOf q).toNat)
    case atStart => exact ⟨0, Nat.zero_le _, rfl, Lib.hid rfl, Lib.hid ⟨0, rfl⟩⟩
    case round =>
      obtain ⟨k, hk, rfl, hr, hw⟩ := hrel
      by_cases hlt : k < n
      · have ex : xs[k]? = some (xs[k]'(by rw [HN.out]; exact hlt)) := List.getElem?_eq_getElem _
        have ey : ys[k]? = some (ys[k]'(by rw [HM.out]; exact hlt)) := List.getElem?_eq_getElem _
        generalize (xs[k]'(by rw [HN.out]; exact hlt)) = x at ex
        generalize (ys[k]'(by rw [HM.out]; exact hlt)) = y at ey
        obtain ⟨b1, o1, rfl, hx1⟩ := HX.out k x ex
        obtain ⟨b2, o2, rfl, hy1⟩ := HY.out k y ey
        have hx2 : wr.cell? ⟨b1, o1 + k, none⟩ = some (.int .i64 x) := by obtain ⟨j, rfl⟩ := hw.out; exact hx1
        have hy2 : wr.cell? ⟨b2, o2 + k, none⟩ = some (.int .i64 y) := by obtain ⟨j, rfl⟩ := hw.out; exact hy1
        have EX := Lib.hid ex
        have EY := Lib.hid ey
        clear ex ey hx1 hy1
        by_cases hxy : x = y
        · subst hxy
          have hq : ((x != x)) = false := by simp
          have HE : Hid (xs.take (k + 1) = ys.take (k + 1)) := Lib.hid (by rw [List.take_add_one, List.take_add_one, EX.out, EY.out, hr.out])
          go_wp2_with fail
          go_quiet (fail)
          go_wp2_with fail
          go_roundw
          case rel => exact ⟨k + 1, by omega, by go_num, HE, by obtain ⟨j, rfl⟩ := hw.out; exact Lib.hid ⟨_, World.drewN_drewN _ _ _⟩⟩
          case measure => simp [intOf]; omega
        · have hq : ((x != y)) = true := by simpa using hxy
          have HD : Hid ((xs == ys) = false) := Lib.hid (by
            rw [beq_eq_false_iff_ne]
            intro h
            have := EX.out
            rw [h, EY.out] at this
            exact hxy (Option.some.inj this).symm)
          clear hxy
          go_wp2_with fail
          go_quiet (fail)
          go_wp2_with fail
          go_ret
          exact ⟨by rw [HD.out] <;> rfl, by obtain ⟨j, rfl⟩ := hw.out; exact ⟨_, World.drewN_drewN _ _ _⟩⟩
      · obtain rfl : k = n := by omega
        have HD : Hid ((xs == ys) = true) := Lib.hid (by
          have h := hr.out
          rw [← HN.out, List.take_length, HN.out, ← HM.out, List.take_length] at h
          simp [h])
        go_wp2_with fail
        go_ret
        exact ⟨by rw [HD.out] <;> rfl, hw.out⟩
  · have hne : (((n : Int) != (m : Int))) = true := by rw [bne_iff_ne]; omega
    have HD : Hid ((xs == ys) = false) := Lib.hid (by
      rw [beq_eq_false_iff_ne]
      intro h
      rw [h, HM.out] at HN
      exact hnm HN.out.symm)
    clear hnm
    go_enter Try.func18, Try.ntmps18
    go_wp2_with fail
    go_ret
    exact ⟨by rw [HD.out] <;> rfl, 0, rfl⟩
end Go.Proofs.Ytfajligmdjpekaa
