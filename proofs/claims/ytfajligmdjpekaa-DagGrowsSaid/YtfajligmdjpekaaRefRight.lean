/- Whether a row of parents is right, as the document says it; and whether it is short. -/
import Derived.Test.YtfajligmdjpekaaRight
namespace Go.Proofs.Ytfajligmdjpekaa
open Go.RowKit Go.Lib

/-- What is known of the first k parents of commit i. -/
def ParTo (i : Nat) : List Int → Nat → Prop
  | [p], 1 => 0 ≤ p ∧ p < i
  | [p, _], 1 => 0 ≤ p ∧ p < i
  | [p, q], 2 => 0 ≤ p ∧ p < q ∧ q < i
  | _, _ => True

set_option maxHeartbeats 1000000 in
theorem refRight_walk (n c : Nat) (a : Option Addr) (l : List (List Int)) (w : World) (hn : l.length = n) (hc : n ≤ 1000) (hf : RowFacts w a l) :
    Calls Try.prog 11 #[.slice a n c] w (Says (.bool (right l)) w) := by
  by_cases h64 : n ≤ 64
  · have HF := Lib.hid hf
    have HN := Lib.hid hn
    clear hf hn
    go_enter Try.func11, Try.ntmps11
    go_wp2_with fail
    go_loopw [3] (fun i wr => ∃ k : Nat, k ≤ n ∧ i = .int .i64 k ∧ Hid (OkTo l k) ∧ Hid (∃ j, wr = w.drewN j)) (fun i _ => n - (intOf i).toNat)
    case atStart => exact ⟨0, Nat.zero_le _, rfl, Lib.hid (fun j r hj => by omega), Lib.hid ⟨0, rfl⟩⟩
    case round =>
      obtain ⟨k, hk, rfl, hok, hw⟩ := hrel
      have HF' : Hid (RowFacts wr a l) := Lib.hid (by obtain ⟨m, rfl⟩ := hw.out; exact HF.out.ext ((ext_refl w).drewN m))
      by_cases hlt : k < n
      · have er : l[k]? = some (l[k]'(by rw [HN.out]; exact hlt)) := List.getElem?_eq_getElem _
        generalize (l[k]'(by rw [HN.out]; exact hlt)) = r at er
        obtain ⟨b, o, ar, cr, rfl, hu, h3, h4, hx⟩ := HF'.out k r er
        have HE := Lib.hid er
        have HX := Lib.hid hx
        clear er hx
        by_cases h2 : r.length ≤ 2
        · have hul := hu
          obtain ⟨m, hm⟩ : ∃ m, m = r.length := ⟨_, rfl⟩
          rw [← hm] at hul h2 h3
          have HM := Lib.hid hm
          clear hu hm
          go_wp2_with fail
          go_loopw [4] (fun j wj => ∃ i : Nat, i ≤ m ∧ j = .int .i64 i ∧ Hid (ParTo k r i) ∧ Hid (∃ j, wj = w.drewN j)) (fun j _ => m - (intOf j).toNat)
          case atStart =>
            refine ⟨0, Nat.zero_le _, rfl, Lib.hid ?_, hw⟩
            rcases r with _ | ⟨p, _ | ⟨q, _ | ⟨s, t⟩⟩⟩ <;> simp [ParTo]
          case round =>
            obtain ⟨i, hi, rfl, hp, hwj⟩ := hrel
            have hul' : wr.cell? ⟨b, o + k, none⟩ = some (.slice ar m cr) := by
              obtain ⟨_, e⟩ := hw.out
              obtain ⟨_, rfl⟩ := hwj.out
              rw [e] at hul
              exact hul
            have HX' : Hid (∀ i x, r[i]? = some x → ∃ b' o', ar = some ⟨b', o', none⟩ ∧ wr.cell? ⟨b', o' + i, none⟩ = some (.int .i64 x)) := Lib.hid (by
              intro i x hi
              obtain ⟨b', o', h5, h6⟩ := HX.out i x hi
              refine ⟨b', o', h5, ?_⟩
              obtain ⟨_, e⟩ := hw.out
              obtain ⟨_, rfl⟩ := hwj.out
              rw [e] at h6
              exact h6)
            clear hul HX
            rcases r with _ | ⟨p, _ | ⟨q, _ | ⟨s, t⟩⟩⟩
            · obtain rfl : m = 0 := by have := HM.out; simpa using this
              obtain rfl : i = 0 := by omega
              have hok' : Hid (OkTo l (k + 1)) := Lib.hid (okTo_succ hok.out HE.out rfl)
              go_wp2_with fail
              go_roundw
              case rel => exact ⟨k + 1, by omega, by go_num, hok', hwj⟩
              case measure => simp [intOf]; omega
            · obtain rfl : m = 1 := by have := HM.out; simpa using this
              rcases (show i = 0 ∨ i = 1 by omega) with rfl | rfl
              · obtain ⟨b', o', rfl, hp0⟩ := HX'.out 0 p rfl
                rw [Nat.add_zero] at hp0
                have hpx := hp0
                clear hp0
                by_cases hp0 : 0 ≤ p
                · by_cases hpk : p < k
                  · have hok' : Hid (ParTo k [p] 1) := Lib.hid ⟨hp0, hpk⟩
                    have d0 : decide (p < 0) = false := decide_eq_false (by omega)
                    have d1 : decide ((k : Int) ≤ p) = false := decide_eq_false (by omega)
                    go_wp2_with fail
                    go_quiet (fail)
                    go_wp2_with fail
                    go_roundw
                    case rel => exact ⟨1, by omega, by go_num, hok', by obtain ⟨m, rfl⟩ := hwj.out; exact Lib.hid ⟨_, World.drewN_drewN _ _ _⟩⟩
                    case measure => simp [intOf]
                  · have hno : Hid (right l = false) := Lib.hid (right_not HE.out (by simp [okRow]; omega))
                    have d0 : decide (p < 0) = false := decide_eq_false (by omega)
                    have d1 : decide ((k : Int) ≤ p) = true := decide_eq_true (by omega)
                    go_wp2_with fail
                    go_quiet (fail)
                    go_wp2_with fail
                    go_ret
                    exact ⟨by rw [hno.out] <;> rfl, by obtain ⟨m, rfl⟩ := hwj.out; exact ⟨_, World.drewN_drewN _ _ _⟩⟩
                · have hp1 : p < 0 := by omega
                  · have hno : Hid (right l = false) := Lib.hid (right_not HE.out (by simp [okRow]; omega))
                    have d0 : decide (p < 0) = true := decide_eq_true (by omega)
                    go_wp2_with fail
                    go_quiet (fail)
                    go_wp2_with fail
                    go_ret
                    exact ⟨by rw [hno.out] <;> rfl, by obtain ⟨m, rfl⟩ := hwj.out; exact ⟨_, World.drewN_drewN _ _ _⟩⟩
              · have hok' : Hid (OkTo l (k + 1)) := Lib.hid (okTo_succ hok.out HE.out (by have := hp.out; simp [ParTo] at this; simp [okRow]; omega))
                go_wp2_with fail
                go_roundw
                case rel => exact ⟨k + 1, by omega, by go_num, hok', hwj⟩
                case measure => simp [intOf]; omega
            · obtain rfl : m = 2 := by have := HM.out; simpa using this
              rcases (show i = 0 ∨ i = 1 ∨ i = 2 by omega) with rfl | rfl | rfl
              · obtain ⟨b', o', rfl, hp0⟩ := HX'.out 0 p rfl
                rw [Nat.add_zero] at hp0
                have hpx := hp0
                clear hp0
                by_cases hp0 : 0 ≤ p
                · by_cases hpk : p < k
                  · have hok' : Hid (ParTo k [p, q] 1) := Lib.hid ⟨hp0, hpk⟩
                    have d0 : decide (p < 0) = false := decide_eq_false (by omega)
                    have d1 : decide ((k : Int) ≤ p) = false := decide_eq_false (by omega)
                    go_wp2_with fail
                    go_quiet (fail)
                    go_wp2_with fail
                    go_roundw
                    case rel => exact ⟨1, by omega, by go_num, hok', by obtain ⟨m, rfl⟩ := hwj.out; exact Lib.hid ⟨_, World.drewN_drewN _ _ _⟩⟩
                    case measure => simp [intOf]
                  · have hno : Hid (right l = false) := Lib.hid (right_not HE.out (by simp [okRow]; omega))
                    have d0 : decide (p < 0) = false := decide_eq_false (by omega)
                    have d1 : decide ((k : Int) ≤ p) = true := decide_eq_true (by omega)
                    go_wp2_with fail
                    go_quiet (fail)
                    go_wp2_with fail
                    go_ret
                    exact ⟨by rw [hno.out] <;> rfl, by obtain ⟨m, rfl⟩ := hwj.out; exact ⟨_, World.drewN_drewN _ _ _⟩⟩
                · have hp1 : p < 0 := by omega
                  · have hno : Hid (right l = false) := Lib.hid (right_not HE.out (by simp [okRow]; omega))
                    have d0 : decide (p < 0) = true := decide_eq_true (by omega)
                    go_wp2_with fail
                    go_quiet (fail)
                    go_wp2_with fail
                    go_ret
                    exact ⟨by rw [hno.out] <;> rfl, by obtain ⟨m, rfl⟩ := hwj.out; exact ⟨_, World.drewN_drewN _ _ _⟩⟩
              · obtain ⟨b', o', rfl, hpx⟩ := HX'.out 0 p rfl
                obtain ⟨b2, o2, he, hqx⟩ := HX'.out 1 q rfl
                cases he
                rw [Nat.add_zero] at hpx
                have hp0 : Hid (0 ≤ p ∧ p < k) := Lib.hid hp.out
                by_cases hq0 : 0 ≤ q
                · by_cases hqk : q < k
                  · by_cases hpq : p < q
                    · have hok' : Hid (ParTo k [p, q] 2) := Lib.hid ⟨hp0.out.1, hpq, hqk⟩
                      have d0 : decide (q < 0) = false := decide_eq_false (by omega)
                      have d1 : decide ((k : Int) ≤ q) = false := decide_eq_false (by omega)
                      have d2 : decide (q ≤ p) = false := decide_eq_false (by omega)
                      go_wp2_with fail
                      go_quiet (fail)
                      go_wp2_with fail
                      go_roundw
                      case rel => exact ⟨2, by omega, by go_num, hok', by obtain ⟨m, rfl⟩ := hwj.out; exact Lib.hid ⟨_, World.drewN_drewN _ _ _⟩⟩
                      case measure => simp [intOf]
                    · have hpq' : q ≤ p := by omega
                      have hno : Hid (right l = false) := Lib.hid (right_not HE.out (by simp [okRow]; omega))
                      have d0 : decide (q < 0) = false := decide_eq_false (by omega)
                      have d1 : decide ((k : Int) ≤ q) = false := decide_eq_false (by omega)
                      have d2 : decide (q ≤ p) = true := decide_eq_true (by omega)
                      go_wp2_with fail
                      go_quiet (fail)
                      go_wp2_with fail
                      go_ret
                      exact ⟨by rw [hno.out] <;> rfl, by obtain ⟨m, rfl⟩ := hwj.out; exact ⟨_, World.drewN_drewN _ _ _⟩⟩
                  · have hno : Hid (right l = false) := Lib.hid (right_not HE.out (by simp [okRow]; omega))
                    have d0 : decide (q < 0) = false := decide_eq_false (by omega)
                    have d1 : decide ((k : Int) ≤ q) = true := decide_eq_true (by omega)
                    go_wp2_with fail
                    go_quiet (fail)
                    go_wp2_with fail
                    go_ret
                    exact ⟨by rw [hno.out] <;> rfl, by obtain ⟨m, rfl⟩ := hwj.out; exact ⟨_, World.drewN_drewN _ _ _⟩⟩
                · have hq1 : q < 0 := by omega
                  · have hno : Hid (right l = false) := Lib.hid (right_not HE.out (by simp [okRow]; omega))
                    have d0 : decide (q < 0) = true := decide_eq_true (by omega)
                    go_wp2_with fail
                    go_quiet (fail)
                    go_wp2_with fail
                    go_ret
                    exact ⟨by rw [hno.out] <;> rfl, by obtain ⟨m, rfl⟩ := hwj.out; exact ⟨_, World.drewN_drewN _ _ _⟩⟩
              · have hok' : Hid (OkTo l (k + 1)) := Lib.hid (okTo_succ hok.out HE.out (by have := hp.out; simp [ParTo] at this; simp [okRow]; omega))
                go_wp2_with fail
                go_roundw
                case rel => exact ⟨k + 1, by omega, by go_num, hok', hwj⟩
                case measure => simp [intOf]; omega
            · have := HM.out; simp at this; omega
        · have hno : Hid (right l = false) := Lib.hid (right_not HE.out (by
            cases hb : okRow k r with
            | false => rfl
            | true => exact absurd (okRow_mem hb).1 h2))
          have h2'' : (2 : Int) < r.length := by omega
          clear h2
          go_wp2_with fail
          go_ret
          exact ⟨by rw [hno.out] <;> rfl, hw.out⟩
      · obtain rfl : k = n := by omega
        have hd : Hid (right l = true) := Lib.hid (by
          rw [right_of (by rw [HN.out]; exact hok.out), HN.out]
          exact decide_eq_true h64)
        go_wp2_with fail
        go_ret
        exact ⟨by rw [hd.out] <;> rfl, hw.out⟩
  · have hno : Hid (right l = false) := Lib.hid (by
      cases h : right l
      · rfl
      · have := right_length h; omega)
    have h64' : (64 : Int) < n := by omega
    clear hf
    go_enter Try.func11, Try.ntmps11
    go_wp2_with fail
    go_ret
    exact ⟨by rw [hno.out] <;> rfl, 0, rfl⟩

def fewB (l : List (List Int)) : Bool := decide (l.length ≤ 70) && l.all fun r => decide (r.length ≤ 10)

set_option maxHeartbeats 1000000 in
theorem few_walk (n c : Nat) (a : Option Addr) (l : List (List Int)) (w : World) (hn : l.length = n) (hc : n ≤ c) (_ : c ≤ maxLen) (hf : RowFacts w a l) :
    Calls Try.prog 9 #[.slice a n c] w (Says (.bool (fewB l)) w) := by
  by_cases h70 : n ≤ 70
  · have HF := Lib.hid hf
    have HN := Lib.hid hn
    clear hf hn
    go_enter Try.func9, Try.ntmps9
    go_wp2_with fail
    go_loop [3] (fun i => ∃ k : Nat, k ≤ n ∧ i = .int .i64 k ∧ Hid (∀ j r, j < k → l[j]? = some r → r.length ≤ 10)) (fun i => n - (intOf i).toNat)
    case atStart => exact ⟨0, Nat.zero_le _, rfl, Lib.hid (fun j r hj => by omega)⟩
    case round =>
      obtain ⟨k, hk, rfl, hok⟩ := hrel
      by_cases hlt : k < n
      · have er : l[k]? = some (l[k]'(by rw [HN.out]; exact hlt)) := List.getElem?_eq_getElem _
        generalize (l[k]'(by rw [HN.out]; exact hlt)) = r at er
        obtain ⟨b, o, ar, cr, rfl, hu, h3, h4, hx⟩ := HF.out k r er
        have HE := Lib.hid er
        clear er hx
        by_cases h10 : r.length ≤ 10
        · have hok' : Hid (∀ j r, j < k + 1 → l[j]? = some r → r.length ≤ 10) := Lib.hid (by
            intro j r' hj hjr
            by_cases hjk : j < k
            · exact hok.out j r' hjk hjr
            · obtain rfl : j = k := by omega
              rw [HE.out] at hjr
              cases hjr
              exact h10)
          go_wp2_with fail
          go_round
          case rel => exact ⟨k + 1, by omega, by go_num, hok'⟩
          case measure => simp [intOf]; omega
        · have hno : Hid (fewB l = false) := Lib.hid (by
            unfold fewB
            have : l.all (fun r => decide (r.length ≤ 10)) = false := by
              rw [List.all_eq_false]
              exact ⟨r, List.mem_of_getElem? HE.out, by simp; omega⟩
            rw [this]; simp)
          have h10' : (10 : Int) < r.length := by omega
          clear h10
          go_wp2_with fail
          go_ret
          exact ⟨by rw [hno.out] <;> rfl, 0, rfl⟩
      · obtain rfl : k = n := by omega
        have hd : Hid (fewB l = true) := Lib.hid (by
          unfold fewB
          rw [Bool.and_eq_true, decide_eq_true_eq, List.all_eq_true, HN.out]
          refine ⟨h70, fun r hr => decide_eq_true ?_⟩
          obtain ⟨j, hj⟩ := List.getElem?_of_mem hr
          exact hok.out j r (by rw [← HN.out]; exact (List.getElem?_eq_some_iff.1 hj).1) hj)
        go_wp2_with fail
        go_ret
        exact ⟨by rw [hd.out] <;> rfl, 0, rfl⟩
  · have hno : Hid (fewB l = false) := Lib.hid (by simp [fewB]; omega)
    have h70' : (70 : Int) < n := by omega
    clear hf
    go_enter Try.func9, Try.ntmps9
    go_wp2_with fail
    go_ret
    exact ⟨by rw [hno.out] <;> rfl, 0, rfl⟩
end Go.Proofs.Ytfajligmdjpekaa
