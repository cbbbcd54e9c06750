/- Whether a row of parents is right: the program's answer, and the document's. -/
import Derived.Test.YtfajligmdjpekaaBase
import Derived.Test.YtfajligmdjpekaaShelf
namespace Go.Proofs.Ytfajligmdjpekaa
open Go.RowKit Go.Lib

/-- It hands back v; of memory it turns nothing. -/
def Says (v : Value) (w : World) (e : Ending) (w' : World) : Prop := e = .returned v ∧ ∃ m, w' = w.drewN m
theorem says_ext {v : Value} {w w' : World} {e : Ending} (h : Says v w e w') : e = .returned v ∧ Ext w w' := by
  obtain ⟨h1, m, rfl⟩ := h
  exact ⟨h1, (ext_refl w).drewN m⟩

def sorted2 : List Int → Bool
  | [x, y] => decide (x ≤ y)
  | _ => true

set_option maxHeartbeats 400000 in
theorem sorted_short (a : Option Addr) (n c : Nat) (hn : n ≤ 1) (w : World) : Calls Try.prog 29 #[.slice a n c] w (Says (.bool true) w) := by
  have hle : ¬ (0 : Int) < (n : Int) - 1 := by omega
  go_enter Try.func29, Try.ntmps29
  go_wp2_with fail
  go_loop [3] (fun i => i = .int .i64 ((n : Int) - 1)) (fun _ => 0)
  case atStart => rfl
  case round =>
    subst hrel
    go_wp2_with fail
    go_ret
    exact ⟨rfl, 0, rfl⟩

set_option maxHeartbeats 400000 in
theorem sorted_two (b o c : Nat) (x y : Int) (w : World) (hx : w.cell? ⟨b, o, none⟩ = some (.int .i64 x)) (hy : w.cell? ⟨b, o + 1, none⟩ = some (.int .i64 y)) :
    Calls Try.prog 29 #[.slice (some ⟨b, o, none⟩) 2 c] w (Says (.bool (decide (x ≤ y))) w) := by
  have hcall : ∀ W, Calls Try.prog 42 #[.int .i64 y, .int .i64 x] W fun e w' => e = .returned (.bool (decide (y < x))) ∧ w' = W := fun W => Try.cmp_Less_int2 y x W
  by_cases hd : y < x
  · have h0 : decide (x ≤ y) = false := decide_eq_false (by omega)
    have h1 : decide (y < x) = true := decide_eq_true hd
    rw [h0]
    rw [h1] at hcall
    go_enter Try.func29, Try.ntmps29
    go_wp2_with fail
    go_loopw [3] (fun i wr => i = .int .i64 1 ∧ wr = w) (fun _ _ => 0)
    case atStart => exact ⟨rfl, rfl⟩
    case round =>
      obtain ⟨rfl, rfl⟩ := hrel
      go_wp2_with fail
      go_quiet ((go_at_call 42; exact Calls.quiet_of_same (hcall _)))
      go_wp2_with fail
      go_ret
      exact ⟨rfl, _, rfl⟩
  · have h0 : decide (x ≤ y) = true := decide_eq_true (by omega)
    have h1 : decide (y < x) = false := decide_eq_false hd
    rw [h0]
    rw [h1] at hcall
    go_enter Try.func29, Try.ntmps29
    go_wp2_with fail
    go_loopw [3] (fun i wr => (i = .int .i64 1 ∨ i = .int .i64 0) ∧ Hid (∃ m, wr = w.drewN m)) (fun i _ => (intOf i).toNat)
    case atStart => exact ⟨.inl rfl, Lib.hid ⟨0, rfl⟩⟩
    case round =>
      obtain ⟨hk, hw⟩ := hrel
      have hxr : wr.cell? ⟨b, o, none⟩ = some (.int .i64 x) := by obtain ⟨m, rfl⟩ := hw.out; exact hx
      have hyr : wr.cell? ⟨b, o + 1, none⟩ = some (.int .i64 y) := by obtain ⟨m, rfl⟩ := hw.out; exact hy
      rcases hk with rfl | rfl
      · go_wp2_with fail
        go_quiet ((go_at_call 42; exact Calls.quiet_of_same (hcall _)))
        go_wp2_with fail
        go_roundw
        case rel => exact ⟨.inr rfl, by obtain ⟨m, rfl⟩ := hw.out; exact Lib.hid ⟨_, World.drewN_drewN _ _ _⟩⟩
        case measure => simp [intOf]
      · go_wp2_with fail
        go_ret
        exact ⟨rfl, hw.out⟩

theorem sorted_at (xs : List Int) (a : Option Addr) (c : Nat) (w : World) (h2 : xs.length ≤ 2) (hc : ∀ j x, xs[j]? = some x → ∃ b o, a = some ⟨b, o, none⟩ ∧ w.cell? ⟨b, o + j, none⟩ = some (.int .i64 x)) :
    Calls Try.prog 29 #[.slice a xs.length c] w (Says (.bool (sorted2 xs)) w) := by
  match xs, h2, hc with
  | [], _, _ => exact sorted_short a 0 c (by omega) w
  | [x], _, _ => exact sorted_short a 1 c (by omega) w
  | [x, y], _, hc =>
    obtain ⟨b, o, rfl, hx⟩ := hc 0 x rfl
    obtain ⟨b', o', he, hy⟩ := hc 1 y rfl
    cases he
    exact sorted_two b o c x y w hx hy

/-- What is known of the first k rows. -/
def OkTo (l : List (List Int)) (k : Nat) : Prop := ∀ j r, j < k → l[j]? = some r → okRow j r = true
theorem okTo_succ {l : List (List Int)} {k : Nat} {r : List Int} (h : OkTo l k) (hk : l[k]? = some r) (hr : okRow k r = true) : OkTo l (k + 1) := by
  intro j r' hj hjr
  by_cases hjk : j < k
  · exact h j r' hjk hjr
  · obtain rfl : j = k := by omega
    rw [hk] at hjr
    cases hjr
    exact hr
theorem right_of {l : List (List Int)} (h : OkTo l l.length) : right l = decide (l.length ≤ 64) := by
  have : okRows 0 l = true := (okRows_at l 0).2 fun k r hk => by
    rw [Nat.zero_add]; exact h k r (List.getElem?_eq_some_iff.1 hk).1 hk
  simp [right, this]
theorem right_not {l : List (List Int)} {k : Nat} {r : List Int} (hk : l[k]? = some r) (hr : okRow k r = false) : right l = false := by
  cases h : right l
  · rfl
  · rw [right_row h hk] at hr; cases hr

/-- The rows' facts, as a walk takes them. -/
def RowFacts (w : World) (a : Option Addr) (l : List (List Int)) : Prop :=
  ∀ j r, l[j]? = some r → ∃ b o ar cr, a = some ⟨b, o, none⟩ ∧ w.cell? ⟨b, o + j, none⟩ = some (.slice ar r.length cr) ∧ r.length ≤ cr ∧ cr ≤ maxLen ∧
    ∀ i x, r[i]? = some x → ∃ b' o', ar = some ⟨b', o', none⟩ ∧ w.cell? ⟨b', o' + i, none⟩ = some (.int .i64 x)
theorem RowsAt.facts {w : World} {v : Value} {l : List (List Int)} (h : RowsAt w v l) : ∃ a c, v = .slice a l.length c ∧ l.length ≤ c ∧ c ≤ maxLen ∧ RowFacts w a l := by
  obtain ⟨a, c, rfl, h1, h2, hc⟩ := h.open
  refine ⟨a, c, rfl, h1, h2, fun j r hj => ?_⟩
  obtain ⟨b, o, u, ha, hu, hi⟩ := hc j r hj
  obtain ⟨ar, cr, rfl, h3, h4, hx⟩ := hi.open
  exact ⟨b, o, ar, cr, ha, hu, h3, h4, hx⟩
theorem RowFacts.ext {w w' : World} {a : Option Addr} {l : List (List Int)} (h : RowFacts w a l) (hE : Ext w w') : RowFacts w' a l := by
  intro j r hj
  obtain ⟨b, o, ar, cr, ha, hu, h3, h4, hx⟩ := h j r hj
  refine ⟨b, o, ar, cr, ha, hE.cell hu, h3, h4, fun i x hi => ?_⟩
  obtain ⟨b', o', h5, h6⟩ := hx i x hi
  exact ⟨b', o', h5, hE.cell h6⟩

set_option maxHeartbeats 1000000 in
theorem right_walk (n c : Nat) (a : Option Addr) (l : List (List Int)) (w : World) (hn : l.length = n) (hc : n ≤ 1000) (hf : RowFacts w a l) :
    Calls Try.prog 10 #[.slice a n c] w (Says (.bool (right l)) w) := by
  have HF := Lib.hid hf
  have HN := Lib.hid hn
  clear hf hn
  go_enter Try.func10, Try.ntmps10
  go_wp2_with fail
  go_loopw [7] (fun i wr => ∃ k : Nat, k ≤ n ∧ i = .int .i64 k ∧ Hid (OkTo l k) ∧ Hid (∃ j, wr = w.drewN j)) (fun i _ => n - (intOf i).toNat)
  case atStart => exact ⟨0, Nat.zero_le _, rfl, Lib.hid (fun j r hj => by omega), Lib.hid ⟨0, rfl⟩⟩
  case round =>
    obtain ⟨k, hk, rfl, hok, hw⟩ := hrel
    have HF' : Hid (RowFacts wr a l) := Lib.hid (by obtain ⟨m, rfl⟩ := hw.out; exact HF.out.ext ((ext_refl w).drewN m))
    by_cases hlt : k < n
    · have er : l[k]? = some (l[k]'(by rw [HN.out]; exact hlt)) := List.getElem?_eq_getElem _
      generalize (l[k]'(by rw [HN.out]; exact hlt)) = r at er
      obtain ⟨b, o, ar, cr, rfl, hu, h3, h4, hx⟩ := HF'.out k r er
      have HE := Lib.hid er
      clear er
      by_cases h2 : r.length ≤ 2
      · have hcall := Lib.hid (fun W (hW : ∃ m, W = wr.drewN m) => sorted_at r ar cr W h2 (fun j x hj => by
          obtain ⟨b', o', e1, e2⟩ := hx j x hj
          obtain ⟨m, rfl⟩ := hW
          exact ⟨b', o', e1, e2⟩))
        rcases r with _ | ⟨p, _ | ⟨q, _ | ⟨s, t⟩⟩⟩
        · have hu0 : wr.cell? ⟨b, o + k, none⟩ = some (.slice ar 0 cr) := hu
          have HC : Hid (∀ W, (∃ m, W = wr.drewN m) → Calls Try.prog 29 #[.slice ar 0 cr] W (Says (.bool true) W)) := hcall
          have hok' : Hid (OkTo l (k + 1)) := Lib.hid (okTo_succ hok.out HE.out rfl)
          clear hu hx h2 hcall
          go_wp2_with fail
          go_quiet ((go_at_call 29; exact Calls.quiet_of (HC.out _ ⟨_, rfl⟩)))
          go_wp2_with fail
          go_roundw
          case rel => exact ⟨k + 1, by omega, by go_num, hok', by obtain ⟨m, rfl⟩ := hw.out; exact Lib.hid ⟨_, World.drewN_drewN _ _ _⟩⟩
          case measure => simp [intOf]; omega
        · have hu0 : wr.cell? ⟨b, o + k, none⟩ = some (.slice ar 1 cr) := hu
          have HC : Hid (∀ W, (∃ m, W = wr.drewN m) → Calls Try.prog 29 #[.slice ar 1 cr] W (Says (.bool true) W)) := hcall
          obtain ⟨b', o', rfl, hp0⟩ := hx 0 p rfl
          rw [Nat.add_zero] at hp0
          clear hu hx h2 hcall
          by_cases hp : 0 ≤ p
          · by_cases hpk : p < k
            · have hok' : Hid (OkTo l (k + 1)) := Lib.hid (okTo_succ hok.out HE.out (by simp [okRow, hp, hpk]))
              go_wp2_with fail
              go_quiet ((go_at_call 29; exact Calls.quiet_of (HC.out _ ⟨_, rfl⟩)))
              go_wp2_with fail
              go_roundw
              case rel => exact ⟨k + 1, by omega, by go_num, hok', by obtain ⟨m, rfl⟩ := hw.out; exact Lib.hid ⟨_, World.drewN_drewN _ _ _⟩⟩
              case measure => simp [intOf]; omega
            · have hno : Hid (right l = false) := Lib.hid (right_not HE.out (by simp [okRow]; omega))
              go_wp2_with fail
              go_quiet ((go_at_call 29; exact Calls.quiet_of (HC.out _ ⟨_, rfl⟩)))
              go_wp2_with fail
              go_ret
              exact ⟨by rw [hno.out] <;> rfl, by obtain ⟨m, rfl⟩ := hw.out; exact ⟨_, World.drewN_drewN _ _ _⟩⟩
          · have hno : Hid (right l = false) := Lib.hid (right_not HE.out (by simp [okRow]; omega))
            go_wp2_with fail
            go_quiet ((go_at_call 29; exact Calls.quiet_of (HC.out _ ⟨_, rfl⟩)))
            go_wp2_with fail
            go_ret
            exact ⟨by rw [hno.out] <;> rfl, by obtain ⟨m, rfl⟩ := hw.out; exact ⟨_, World.drewN_drewN _ _ _⟩⟩
        · have hu0 : wr.cell? ⟨b, o + k, none⟩ = some (.slice ar 2 cr) := hu
          have HC : Hid (∀ W, (∃ m, W = wr.drewN m) → Calls Try.prog 29 #[.slice ar 2 cr] W (Says (.bool (decide (p ≤ q))) W)) := hcall
          obtain ⟨b', o', rfl, hp0⟩ := hx 0 p rfl
          obtain ⟨b2, o2, he, hq0⟩ := hx 1 q rfl
          cases he
          rw [Nat.add_zero] at hp0
          clear hu hx h2 hcall
          by_cases hpq : p ≤ q
          · rw [decide_eq_true hpq] at HC
            by_cases hpe : p = q
            · subst hpe
              have hno : Hid (right l = false) := Lib.hid (right_not HE.out (by simp [okRow]))
              go_wp2_with fail
              go_quiet ((go_at_call 29; exact Calls.quiet_of (HC.out _ ⟨_, rfl⟩)))
              go_wp2_with fail
              go_ret
              exact ⟨by rw [hno.out] <;> rfl, by obtain ⟨m, rfl⟩ := hw.out; exact ⟨_, World.drewN_drewN _ _ _⟩⟩
            · have hpe' : (p == q) = false := by simpa using hpe
              by_cases hp : 0 ≤ p
              · by_cases hqk : q < k
                · have hok' : Hid (OkTo l (k + 1)) := Lib.hid (okTo_succ hok.out HE.out (by simp [okRow]; omega))
                  go_wp2_with fail
                  go_quiet ((go_at_call 29; exact Calls.quiet_of (HC.out _ ⟨_, rfl⟩)))
                  go_wp2_with fail
                  go_roundw
                  case rel => exact ⟨k + 1, by omega, by go_num, hok', by obtain ⟨m, rfl⟩ := hw.out; exact Lib.hid ⟨_, World.drewN_drewN _ _ _⟩⟩
                  case measure => simp [intOf]; omega
                · have hno : Hid (right l = false) := Lib.hid (right_not HE.out (by simp [okRow]; omega))
                  go_wp2_with fail
                  go_quiet ((go_at_call 29; exact Calls.quiet_of (HC.out _ ⟨_, rfl⟩)))
                  go_wp2_with fail
                  go_ret
                  exact ⟨by rw [hno.out] <;> rfl, by obtain ⟨m, rfl⟩ := hw.out; exact ⟨_, World.drewN_drewN _ _ _⟩⟩
              · have hno : Hid (right l = false) := Lib.hid (right_not HE.out (by simp [okRow]; omega))
                go_wp2_with fail
                go_quiet ((go_at_call 29; exact Calls.quiet_of (HC.out _ ⟨_, rfl⟩)))
                go_wp2_with fail
                go_ret
                exact ⟨by rw [hno.out] <;> rfl, by obtain ⟨m, rfl⟩ := hw.out; exact ⟨_, World.drewN_drewN _ _ _⟩⟩
          · rw [decide_eq_false hpq] at HC
            have hno : Hid (right l = false) := Lib.hid (right_not HE.out (by simp [okRow]; omega))
            go_wp2_with fail
            go_quiet ((go_at_call 29; exact Calls.quiet_of (HC.out _ ⟨_, rfl⟩)))
            go_wp2_with fail
            go_ret
            exact ⟨by rw [hno.out] <;> rfl, by obtain ⟨m, rfl⟩ := hw.out; exact ⟨_, World.drewN_drewN _ _ _⟩⟩
        · simp at h2
      · have hno : Hid (right l = false) := Lib.hid (right_not HE.out (by
          cases hb : okRow k r with
          | false => rfl
          | true => exact absurd (okRow_mem hb).1 h2))
        have h2' : ¬ (r.length : Int) ≤ 2 := by omega
        have h2'' : (2 : Int) < r.length := by omega
        clear h2
        go_wp2_with fail
        go_quiet (fail)
        go_wp2_with fail
        go_ret
        exact ⟨by rw [hno.out] <;> rfl, by obtain ⟨m, rfl⟩ := hw.out; exact ⟨_, World.drewN_drewN _ _ _⟩⟩
    · obtain rfl : k = n := by omega
      have hd : Hid (right l = decide ((k : Int) ≤ 64)) := Lib.hid (by
        rw [right_of (by rw [HN.out]; exact hok.out), HN.out]
        exact decide_eq_decide.2 (by omega))
      go_wp2_with fail
      go_ret
      exact ⟨by rw [hd.out] <;> rfl, hw.out⟩
end Go.Proofs.Ytfajligmdjpekaa
