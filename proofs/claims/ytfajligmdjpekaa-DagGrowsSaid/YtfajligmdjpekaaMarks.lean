/- The document's marks: which are behind k. -/
import Derived.Test.YtfajligmdjpekaaTab
import Derived.Test.YtfajligmdjpekaaRefRight
namespace Go.Proofs.Ytfajligmdjpekaa
open Go.RowKit Go.Lib Go.Maps Go.Shelf

/-- What is marked when all from q on have been gone over. -/
def markS (l : List (List Int)) (k q j : Nat) : Bool := j == k || (List.range l.length).any fun c => decide (q ≤ c) && anc l k c && (pars l c).contains j
theorem markS_iff {l : List (List Int)} {k q j : Nat} : markS l k q j = true ↔ j = k ∨ ∃ c, c < l.length ∧ q ≤ c ∧ anc l k c = true ∧ j ∈ pars l c := by
  simp [markS, and_assoc]
theorem mark_start {l : List (List Int)} {k j : Nat} : markS l k l.length j = (j == k) := by
  rw [Bool.eq_iff_iff, markS_iff]; simp; intro c h1 h2; omega
theorem mark_at {l : List (List Int)} (h : right l = true) {k i : Nat} : markS l k (i + 1) i = anc l k i := by
  rw [Bool.eq_iff_iff, markS_iff, anc_last_iff h]
  constructor
  · rintro (rfl | ⟨c, _, _, h1, h2⟩)
    · exact .inl rfl
    · exact .inr ⟨c, h1, h2⟩
  · rintro (rfl | ⟨c, h1, h2⟩)
    · exact .inl rfl
    · have := pars_lt h h2
      exact .inr ⟨c, this.2, by omega, h1, h2⟩
theorem mark_end {l : List (List Int)} (h : right l = true) {k j : Nat} : markS l k 0 j = anc l k j := by
  rw [Bool.eq_iff_iff, markS_iff, anc_last_iff h]
  constructor
  · rintro (rfl | ⟨c, _, _, h1, h2⟩)
    · exact .inl rfl
    · exact .inr ⟨c, h1, h2⟩
  · rintro (rfl | ⟨c, h1, h2⟩)
    · exact .inl rfl
    · exact .inr ⟨c, (pars_lt h h2).2, Nat.zero_le _, h1, h2⟩
theorem mark_step {l : List (List Int)} {k i j : Nat} (hi : i < l.length) : markS l k i j = (markS l k (i + 1) j || (anc l k i && (pars l i).contains j)) := by
  rw [Bool.eq_iff_iff]
  simp only [Bool.or_eq_true, Bool.and_eq_true, markS_iff, List.contains_iff_mem]
  constructor
  · rintro (rfl | ⟨c, h0, h1, h2, h3⟩)
    · exact .inl (.inl rfl)
    · by_cases hc : c = i
      · subst hc; exact .inr ⟨h2, h3⟩
      · exact .inl (.inr ⟨c, h0, by omega, h2, h3⟩)
  · rintro ((rfl | ⟨c, h0, h1, h2, h3⟩) | ⟨h1, h2⟩)
    · exact .inl rfl
    · exact .inr ⟨c, h0, by omega, h2, h3⟩
    · exact .inr ⟨i, hi, Nat.le_refl _, h1, h2⟩

def prev : Nat → Int
  | 0 => -1
  | i + 1 => i
theorem prev_eq (q : Nat) : prev q = (q : Int) - 1 := by cases q <;> simp [prev]
def bools (M : Nat → Bool) (j : Nat) : Value := .bool (M j)
def MarksPost (w : World) (n : Nat) (M : Nat → Bool) (e : Ending) (w' : World) : Prop := ∃ g, e = .returned (.slice (some ⟨g, 0, none⟩) n n) ∧ w.heap.size ≤ g ∧ Tab w' g 4 n (bools M) ∧ Ext w w'
def marksM (l : List (List Int)) (x : Int) (j : Nat) : Bool := there1 l x && anc l x.toNat j

set_option maxHeartbeats 1000000 in
theorem marks_any (n c : Nat) (a : Option Addr) (l : List (List Int)) (hn : l.length = n) (hc : n ≤ 1000) (x : Int) (w : World) (hf : RowFacts w a l) :
    Calls Try.prog 32 #[.slice a n c, .int .i64 x] w (MarksPost w n (marksM l x)) := by
  have HF := Lib.hid hf
  have HN := Lib.hid hn
  clear hf hn
  have hmk := make_bools w n hc
  go_enter Try.func32, Try.ntmps32
  go_wp2_with fail
  obtain ⟨g, hg⟩ : ∃ g, g = w.heap.size := ⟨_, rfl⟩
  obtain ⟨w1, hw1⟩ : ∃ w1, w1 = w.alloc (.cells (madeCells #[.bool false] n) 4) := ⟨_, rfl⟩
  rw [← hw1, ← hg]
  have hE : Ext w w1 := by rw [hw1]; exact ext_alloc _ _
  have hT : Tab w1 g 4 n (bools fun _ => false) := by rw [hw1, hg]; exact tab_made _ _ _ _
  have HE := Lib.hid hE
  have HT := Lib.hid hT
  have HG := Lib.hid hg
  clear hw1 hg hE hT hmk
  refine (refRight_walk n c a l w1 HN.out hc (HF.out.ext HE.out)).mono ?_
  rintro e w2 ⟨rfl, d, hd⟩
  have HE2 : Hid (Ext w w2) := Lib.hid (by rw [hd]; exact HE.out.drewN d)
  have HT2 : Hid (Tab w2 g 4 n (bools fun _ => false)) := Lib.hid (by rw [hd]; exact HT.out)
  clear hd
  have hno : there1 l x = false → Hid (MarksPost w n (marksM l x) (.returned (.slice (some ⟨g, 0, none⟩) n n)) w2) := fun h => Lib.hid ⟨g, rfl, by rw [HG.out]; exact Nat.le_refl _, HT2.out.congr fun j _ => by simp [bools, marksM, h], HE2.out⟩
  cases hr : right l with
  | false =>
    have HP := hno (by simp [there1, hr])
    clear hr hno
    go_wp2_with fail
    go_ret
    exact HP.out
  | true =>
    by_cases hx0 : x < 0
    · have HP := hno (by simp [there1, inR]; omega)
      have d0 : decide (x < 0) = true := decide_eq_true hx0
      clear hr hno hx0
      go_wp2_with fail
      go_ret
      exact HP.out
    · have d0 : decide (x < 0) = false := decide_eq_false hx0
      by_cases hxn : (n : Int) ≤ x
      · have HP := hno (by simp [there1, inR, HN.out]; omega)
        have d1 : decide ((n : Int) ≤ x) = true := decide_eq_true hxn
        clear hr hno hx0 hxn
        go_wp2_with fail
        go_ret
        exact HP.out
      · have d1 : decide ((n : Int) ≤ x) = false := decide_eq_false hxn
        obtain ⟨k, rfl⟩ := Int.eq_ofNat_of_zero_le (show 0 ≤ x by omega)
        have hkn : k < n := by omega
        have HM : Hid (∀ j, marksM l k j = anc l k j) := Lib.hid fun j => by simp [marksM, there1, inR, hr, HN.out, hkn]
        have HR := Lib.hid hr
        have hcell := HT2.out.cell hkn
        have hfz := HT2.out.thaw k
        clear hr hno hx0 hxn
        go_wp2_with fail
        have HT3 : Hid (Tab (w2.setCell ⟨g, k, none⟩ (.bool true)) g 4 n (bools (markS l k n))) := Lib.hid ((HT2.out.set k (.bool true)).congr fun j _ => by
          have hms : markS l k n j = (j == k) := by rw [← HN.out]; exact mark_start
          by_cases hjk : j = k
          · subst hjk; simp [bools, hms]
          · simp [bools, hms, hjk])
        have HE3 : Hid (Ext w (w2.setCell ⟨g, k, none⟩ (.bool true))) := Lib.hid (HE2.out.setCell (by rw [HG.out]; exact Nat.le_refl _) _)
        obtain ⟨w3, hw3⟩ : ∃ w3, w3 = w2.setCell ⟨g, k, none⟩ (.bool true) := ⟨_, rfl⟩
        rw [← hw3] at HT3 HE3 ⊢
        clear hw3 hcell hfz
        go_loopw [6] (fun v wr => ∃ q : Nat, q ≤ n ∧ v = .int .i64 (prev q) ∧ Hid (Tab wr g 4 n (bools (markS l k q))) ∧ Hid (Ext w wr)) (fun v _ => (intOf v + 1).toNat)
        case atStart => exact ⟨n, Nat.le_refl _, by rw [prev_eq], HT3, HE3⟩
        case round =>
          obtain ⟨q, hq, rfl, ht, he⟩ := hrel
          rcases q with _ | i
          · have HP : Hid (MarksPost w n (marksM l k) (.returned (.slice (some ⟨g, 0, none⟩) n n)) wr) := Lib.hid ⟨g, rfl, by rw [HG.out]; exact Nat.le_refl _, ht.out.congr fun j _ => by rw [bools, bools, HM.out j, mark_end HR.out], he.out⟩
            simp only [prev]
            clear ht he
            go_wp2_with fail
            go_ret
            exact HP.out
          · have hi : i < n := by omega
            have er : l[i]? = some (l[i]'(by rw [HN.out]; exact hi)) := List.getElem?_eq_getElem _
            generalize (l[i]'(by rw [HN.out]; exact hi)) = r at er
            obtain ⟨hr2, hrx⟩ := okRow_mem (right_row HR.out er)
            have HRX := Lib.hid hrx
            have HER := Lib.hid er
            obtain ⟨b, o, ar, cr, rfl, hu0, h3, h4, hx⟩ := HF.out i r er
            have HU0 := Lib.hid hu0
            have HX := Lib.hid hx
            obtain ⟨m, hm⟩ : ∃ m, m = r.length := ⟨_, rfl⟩
            rw [← hm] at hr2 h3
            have HMr := Lib.hid hm
            have hstep : ∀ j, markS l k i j = (markS l k (i + 1) j || (anc l k i && (pars l i).contains j)) := fun j => mark_step (by rw [HN.out]; exact hi)
            have hat : markS l k (i + 1) i = anc l k i := mark_at HR.out
            have HST := Lib.hid hstep
            clear er hrx hu0 hx hm hstep
            obtain ⟨wo, hwo⟩ : ∃ wo, wo = wr := ⟨_, rfl⟩
            subst hwo
            simp only [prev]
            cases hai : anc l k i with
            | false =>
              rw [hai] at hat
              have hcell := ht.out.cell hi
              have hcell' : wo.cell? ⟨g, i, none⟩ = some (.bool false) := by rw [hcell, bools, hat]
              have hu := he.out.cell HU0.out
              rw [← HMr.out] at hu
              have HT4 : Hid (Tab wo g 4 n (bools (markS l k i))) := Lib.hid (ht.out.congr fun j _ => by rw [bools, bools, HST.out j, hai]; simp)
              clear hcell ht hai hat
              go_wp2_with fail
              go_loop [7] (fun v => v = .int .i64 0) (fun _ => 0)
              case atStart => rfl
              case round =>
                subst hrel
                by_cases hm0 : 0 < m
                · have d2 : decide ((0 : Int) < m) = true := decide_eq_true (by omega)
                  go_wp2_with fail
                  go_roundw
                  case rel => exact ⟨i, by omega, congrArg (Value.int .i64) (prev_eq i).symm, HT4, he⟩
                  case measure => simp [intOf]
                · have d2 : decide ((0 : Int) < m) = false := decide_eq_false (by omega)
                  go_wp2_with fail
                  go_roundw
                  case rel => exact ⟨i, by omega, congrArg (Value.int .i64) (prev_eq i).symm, HT4, he⟩
                  case measure => simp [intOf]
            | true =>
              rw [hai] at hat
              have HST' : Hid (∀ j, markS l k i j = (markS l k (i + 1) j || (pars l i).contains j)) := Lib.hid fun j => by rw [HST.out j, hai]; simp
              have HAT := Lib.hid hat
              clear hai hat
              go_wp2_with fail
              go_loopw [7] (fun v wr => ∃ s : Nat, s ≤ m ∧ v = .int .i64 s ∧ Hid (Tab wr g 4 n (bools fun j => markS l k (i + 1) j || (r.take s).any fun z => z.toNat == j)) ∧ Hid (Ext w wr)) (fun v _ => m - (intOf v).toNat)
              case atStart => exact ⟨0, Nat.zero_le _, rfl, Lib.hid (ht.out.congr fun j _ => by simp [bools]), he⟩
              case round =>
                obtain ⟨s, hs, rfl, ht2, he2⟩ := hrel
                have hcell := ht2.out.cell hi
                have hcell' : wr.cell? ⟨g, i, none⟩ = some (.bool true) := by rw [hcell, bools, HAT.out]; rfl
                have hu := he2.out.cell HU0.out
                rw [← HMr.out] at hu
                clear hcell
                by_cases hlt : s < m
                · have d2 : decide ((s : Int) < m) = true := decide_eq_true (by omega)
                  have ep : r[s]? = some (r[s]'(by rw [← HMr.out]; exact hlt)) := List.getElem?_eq_getElem _
                  generalize (r[s]'(by rw [← HMr.out]; exact hlt)) = z at ep
                  have hz0 := HRX.out z (List.mem_of_getElem? ep)
                  obtain ⟨p, rfl⟩ := Int.eq_ofNat_of_zero_le hz0.1
                  have hpi : p < i := by omega
                  obtain ⟨bp, op, rfl, hcp0⟩ := HX.out s p ep
                  have hcp := he2.out.cell hcp0
                  have hfz := ht2.out.thaw p
                  have hcq := ht2.out.cell (j := p) (by omega)
                  have HT5 : Hid (Tab (wr.setCell ⟨g, p, none⟩ (.bool true)) g 4 n (bools fun j => markS l k (i + 1) j || (r.take (s + 1)).any fun z => z.toNat == j)) := Lib.hid ((ht2.out.set p (.bool true)).congr fun j _ => by
                    rw [List.take_add_one, ep]
                    by_cases hjp : j = p
                    · subst hjp; simp [bools]
                    · have : (p == j) = false := by simp; omega
                      simp [bools, hjp, this])
                  have HE5 : Hid (Ext w (wr.setCell ⟨g, p, none⟩ (.bool true))) := Lib.hid (he2.out.setCell (by rw [HG.out]; exact Nat.le_refl _) _)
                  clear ep hz0 hcp0 ht2 he2
                  go_wp2_with fail
                  go_roundw
                  case rel => exact ⟨s + 1, by omega, by go_num, HT5, HE5⟩
                  case measure => simp [intOf]; omega
                · obtain rfl : s = m := by omega
                  have d2 : decide ((s : Int) < s) = false := decide_eq_false (by omega)
                  have HT4 : Hid (Tab wr g 4 n (bools (markS l k i))) := Lib.hid (ht2.out.congr fun j _ => by
                    rw [bools, bools, HST'.out j, HMr.out, List.take_length]
                    congr 2
                    rw [Bool.eq_iff_iff, List.contains_iff_mem, mem_pars HER.out]
                    simp)
                  clear ht2
                  go_wp2_with fail
                  go_roundw
                  case rel => exact ⟨i, by omega, congrArg (Value.int .i64) (prev_eq i).symm, HT4, he2⟩
                  case measure => simp [intOf]
end Go.Proofs.Ytfajligmdjpekaa
