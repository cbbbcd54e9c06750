/- The document's Depth. -/
import Derived.Test.YtfajligmdjpekaaRefHeads
namespace Go.Proofs.Ytfajligmdjpekaa
open Go.RowKit Go.Lib Go.Maps Go.Shelf

/-- How deep commit i is, by the first parents ps. -/
def depOf (l : List (List Int)) (ps : List Int) : Nat := ps.foldl (fun m z => max m (dep l z.toNat + 1)) 1
theorem depOf_more (l : List (List Int)) (ps : List Int) (z : Int) : depOf l (ps ++ [z]) = max (depOf l ps) (dep l z.toNat + 1) := by simp [depOf]
theorem dep_row {l : List (List Int)} (h : right l = true) {k : Nat} {r : List Int} (hk : l[k]? = some r) : dep l k = depOf l r := by
  rw [dep_eq h, depOf, pars, hk]
  simp [List.foldl_map]
theorem dep_le {l : List (List Int)} (h : right l = true) (k : Nat) : dep l k ≤ k + 1 := by
  induction k using Nat.strongRecOn with
  | ind k ih =>
    rw [dep_eq h]
    have : ∀ (ps : List Nat) (m : Nat), m ≤ k + 1 → (∀ p ∈ ps, p < k) → ps.foldl (fun m p => max m (dep l p + 1)) m ≤ k + 1 := by
      intro ps
      induction ps with
      | nil => intro m hm _; exact hm
      | cons p ps ihp =>
        intro m hm hp
        have h1 := ih p (hp p (List.mem_cons_self ..))
        have h2 := hp p (List.mem_cons_self ..)
        exact ihp _ (by simp only [Nat.max_le]; omega) (fun q hq => hp q (List.mem_cons_of_mem _ hq))
    exact this _ 1 (by omega) (fun p hp => (pars_lt h hp).1)
theorem depOf_le {l : List (List Int)} (h : right l = true) (k : Nat) : ∀ (ps : List Int), (∀ z ∈ ps, 0 ≤ z ∧ z < k) → depOf l ps ≤ k + 1 := by
  have : ∀ (ps : List Int) (m : Nat), m ≤ k + 1 → (∀ z ∈ ps, 0 ≤ z ∧ z < k) → ps.foldl (fun m z => max m (dep l z.toNat + 1)) m ≤ k + 1 := by
    intro ps
    induction ps with
    | nil => intro m hm _; exact hm
    | cons z ps ihp =>
      intro m hm hp
      have h1 := dep_le h z.toNat
      have h2 := hp z (List.mem_cons_self ..)
      exact ihp _ (by simp only [Nat.max_le]; omega) (fun q hq => hp q (List.mem_cons_of_mem _ hq))
  exact fun ps hp => this ps 1 (by omega) hp
/-- The table, ahead of i, at i, behind i. -/
def depTab (l : List (List Int)) (i : Nat) (x : Nat) (j : Nat) : Value := if j < i then .int .i64 (dep l j) else if j = i then .int .i64 x else .int .i64 0
theorem depTab_set {w : World} {g n i x : Nat} {l : List (List Int)} (h : Tab w g 3 n (depTab l i x)) (y : Nat) : Tab (w.setCell ⟨g, i, none⟩ (.int .i64 y)) g 3 n (depTab l i y) :=
  (h.set i (.int .i64 y)).congr fun j _ => by
    by_cases hji : j = i
    · subst hji; simp [depTab]
    · simp [depTab, hji]
theorem depTab_succ {l : List (List Int)} {i : Nat} (j : Nat) : depTab l i (dep l i) j = depTab l (i + 1) 0 j := by
  unfold depTab
  by_cases h1 : j < i
  · rw [if_pos h1, if_pos (by omega)]
  · by_cases h2 : j = i
    · subst h2; rw [if_neg h1, if_pos rfl, if_pos (by omega)]
    · rw [if_neg h1, if_neg h2, if_neg (by omega)]; split <;> rfl

set_option maxHeartbeats 1000000 in
theorem refDepth_any (n c : Nat) (a : Option Addr) (l : List (List Int)) (hn : l.length = n) (hc : n ≤ 1000) (x : Int) (w : World) (hf : RowFacts w a l) :
    Calls Try.prog 15 #[.slice a n c, .int .i64 x] w (Gives (.int .i64 (depthI l x)) w) := by
  have HF := Lib.hid hf
  have HN := Lib.hid hn
  clear hf hn
  go_enter Try.func15, Try.ntmps15
  go_wp2_with fail
  refine (refRight_walk n c a l w HN.out hc HF.out).mono ?_
  rintro e w1 ⟨rfl, d, hd⟩
  have HE : Hid (Ext w w1) := Lib.hid (by rw [hd]; exact (ext_refl w).drewN d)
  clear hd
  have hno : there1 l x = false → Hid (Gives (.int .i64 (depthI l x)) w (.returned (.int .i64 0)) w1) := fun h => Lib.hid ⟨by simp [depthI, h], HE.out⟩
  cases hr : right l with
  | false =>
    have HP := hno (by simp [there1, hr])
    clear hr hno
    go_wp2_with fail
    go_ret
    exact HP.out
  | true =>
    by_cases hx0 : x < 0
    · have HP := hno (by simp [there1, inR]; omega)
      have d0 : decide (x < 0) = true := decide_eq_true hx0
      clear hr hno hx0
      go_wp2_with fail
      go_ret
      exact HP.out
    have d0 : decide (x < 0) = false := decide_eq_false hx0
    by_cases hxn : (n : Int) ≤ x
    · have HP := hno (by simp [there1, inR, HN.out]; omega)
      have d1 : decide ((n : Int) ≤ x) = true := decide_eq_true hxn
      clear hr hno hx0 hxn
      go_wp2_with fail
      go_ret
      exact HP.out
    have d1 : decide ((n : Int) ≤ x) = false := decide_eq_false hxn
    obtain ⟨k, rfl⟩ := Int.eq_ofNat_of_zero_le (show 0 ≤ x by omega)
    have hkn : k < n := by omega
    have HD : Hid (depthI l k = dep l k) := Lib.hid (by simp [depthI, there1, inR, hr, HN.out, hkn])
    have HR := Lib.hid hr
    have h64 : n ≤ 64 := by rw [← HN.out]; exact right_length hr
    have hmk := make_ints w1 n hc
    clear hr hno hx0 hxn
    go_wp2_with fail
    obtain ⟨g, hg⟩ : ∃ g, g = w1.heap.size := ⟨_, rfl⟩
    obtain ⟨w2, hw2⟩ : ∃ w2, w2 = w1.alloc (.cells (madeCells #[.int .i64 0] n) 3) := ⟨_, rfl⟩
    rw [← hw2, ← hg]
    have HE2 : Hid (Ext w w2) := Lib.hid (by rw [hw2]; exact HE.out.alloc _)
    have HT2 : Hid (Tab w2 g 3 n (depTab l 0 0)) := Lib.hid (by rw [hw2, hg]; exact (tab_made _ _ _ _).congr fun j _ => by simp [depTab])
    have hgw : w.heap.size ≤ g := by rw [hg]; exact HE.out.size
    clear hw2 hg hmk
    go_loopw [6] (fun q wr => ∃ i : Nat, i ≤ n ∧ q = .int .i64 i ∧ Hid (Tab wr g 3 n (depTab l i 0)) ∧ Hid (Ext w wr)) (fun q _ => n - (intOf q).toNat)
    case atStart => exact ⟨0, Nat.zero_le _, rfl, HT2, HE2⟩
    case round =>
      obtain ⟨i, hi, rfl, ht, he⟩ := hrel
      by_cases hlt : i < n
      · have er : l[i]? = some (l[i]'(by rw [HN.out]; exact hlt)) := List.getElem?_eq_getElem _
        generalize (l[i]'(by rw [HN.out]; exact hlt)) = r at er
        obtain ⟨hr2, hrx⟩ := okRow_mem (right_row HR.out er)
        have HRX := Lib.hid hrx
        have HER := Lib.hid er
        obtain ⟨b, o, ar, cr, rfl, hu0, h3, h4, hx⟩ := HF.out i r er
        have HU0 := Lib.hid hu0
        have HX := Lib.hid hx
        obtain ⟨m, hm⟩ : ∃ m, m = r.length := ⟨_, rfl⟩
        rw [← hm] at hr2 h3
        have HMr := Lib.hid hm
        have hcell := ht.out.cell hlt
        have hfz := ht.out.thaw i
        have HT3 : Hid (Tab (wr.setCell ⟨g, i, none⟩ (.int .i64 1)) g 3 n (depTab l i 1)) := Lib.hid (depTab_set ht.out 1)
        have HE3 : Hid (Ext w (wr.setCell ⟨g, i, none⟩ (.int .i64 1))) := Lib.hid (he.out.setCell hgw _)
        clear er hrx hu0 hx hm ht he
        obtain ⟨wo, hwo⟩ : ∃ wo, wo = wr := ⟨_, rfl⟩
        subst hwo
        go_wp2_with fail
        go_loopw [7] (fun v wr => ∃ s : Nat, s ≤ m ∧ v = .int .i64 s ∧ Hid (Tab wr g 3 n (depTab l i (depOf l (r.take s)))) ∧ Hid (Ext w wr)) (fun v _ => m - (intOf v).toNat)
        case atStart => exact ⟨0, Nat.zero_le _, rfl, HT3, HE3⟩
        case round =>
          obtain ⟨s, hs, rfl, ht3, he3⟩ := hrel
          have hu := he3.out.cell HU0.out
          rw [← HMr.out] at hu
          by_cases hlt3 : s < m
          · have ep : r[s]? = some (r[s]'(by rw [← HMr.out]; exact hlt3)) := List.getElem?_eq_getElem _
            generalize (r[s]'(by rw [← HMr.out]; exact hlt3)) = z at ep
            have hz0 := HRX.out z (List.mem_of_getElem? ep)
            obtain ⟨p, rfl⟩ := Int.eq_ofNat_of_zero_le hz0.1
            have hpi : p < i := by omega
            obtain ⟨bp, op, rfl, hcp0⟩ := HX.out s p ep
            have hcp := he3.out.cell hcp0
            have hfz3 := ht3.out.thaw i
            have hcp2 := ht3.out.cell (j := p) (by omega)
            have hci := ht3.out.cell hlt
            have hdp := dep_le HR.out p
            have hdo := depOf_le HR.out i (r.take s) (fun z hz => HRX.out z (List.mem_of_mem_take hz))
            have hmore : depOf l (r.take (s + 1)) = max (depOf l (r.take s)) (dep l p + 1) := by
              rw [List.take_add_one, ep]
              simp only [Option.toList_some]
              rw [depOf_more]; simp
            simp only [depTab, if_pos hpi, if_neg (Nat.lt_irrefl i)] at hcp2 hci
            simp only [if_true] at hci
            have HT5 : ∀ y, y = depOf l (r.take (s + 1)) → Hid (Tab (wr.setCell ⟨g, i, none⟩ (.int .i64 (y : Nat))) g 3 n (depTab l i (depOf l (r.take (s + 1))))) := fun y hy => Lib.hid (by rw [← hy]; exact depTab_set ht3.out y)
            have HE5 : ∀ v, Hid (Ext w (wr.setCell ⟨g, i, none⟩ v)) := fun v => Lib.hid (he3.out.setCell hgw v)
            rw [hmore] at HT5
            generalize dep l p = D at *
            generalize depOf l (r.take s) = cur at *
            have hcast : (((max cur (D + 1) : Nat)) : Int) = max (cur : Int) ((D : Int) + 1) := by omega
            have HT6 : Hid (Tab (wr.setCell ⟨g, i, none⟩ (.int .i64 (max (cur : Int) ((D : Int) + 1)))).drew g 3 n (depTab l i (depOf l (r.take (s + 1))))) := Lib.hid (by
              have := (HT5 (max cur (D + 1)) rfl).out
              rw [hcast] at this
              rw [hmore]
              exact this)
            have HE6 : Hid (Ext w (wr.setCell ⟨g, i, none⟩ (.int .i64 (max (cur : Int) ((D : Int) + 1)))).drew) := Lib.hid ((HE5 _).out.drew)
            clear ep hz0 hcp0 ht3 he3 hmore HT5 HE5 hcast
            go_wp2_with fail
            go_region
            go_wp2_with fail
            go_roundw
            case rel => exact ⟨s + 1, by omega, by go_num, HT6, HE6⟩
            case measure => simp [intOf]; omega
          · obtain rfl : s = m := by omega
            have HT4 : Hid (Tab wr g 3 n (depTab l (i + 1) 0)) := Lib.hid (ht3.out.congr fun j _ => by
              rw [HMr.out, List.take_length, ← dep_row HR.out HER.out]; exact depTab_succ j)
            clear ht3
            go_wp2_with fail
            go_roundw
            case rel => exact ⟨i + 1, by omega, by go_num, HT4, he3⟩
            case measure => simp [intOf]; omega
      · obtain rfl : i = n := by omega
        have hcell := ht.out.cell hkn
        simp only [depTab, if_pos hkn] at hcell
        have HP : Hid (Gives (.int .i64 (depthI l k)) w (.returned (.int .i64 (dep l k))) wr) := Lib.hid ⟨by rw [HD.out], he.out⟩
        generalize dep l k = D at *
        clear ht he
        go_wp2_with fail
        go_ret
        exact HP.out
end Go.Proofs.Ytfajligmdjpekaa
