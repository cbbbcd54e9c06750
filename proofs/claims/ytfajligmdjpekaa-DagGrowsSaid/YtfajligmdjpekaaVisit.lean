/- Those that stand behind one: the visit, and the set that it leaves. -/
import Derived.Test.YtfajligmdjpekaaSets
namespace Go.Proofs.Ytfajligmdjpekaa
open Go.RowKit Go.Lib Go.Maps

/-- What the visits find in memory: the set's box, the rows' box, the function's own box. -/
structure VisitAt (w : World) (ob lb vb mb : Nat) (a : Option Addr) (n c : Nat) (l : List (List Int)) (S : Nat → Bool) : Prop where
  out : w.cell? ⟨ob, 0, none⟩ = some (.map (some mb))
  rows : w.cell? ⟨lb, 0, none⟩ = some (.slice a n c)
  fn : w.cell? ⟨vb, 0, none⟩ = some (.func (.func 45) #[] #[.pointer (some ⟨ob, 0, none⟩), .pointer (some ⟨lb, 0, none⟩), .pointer (some ⟨vb, 0, none⟩)])
  facts : RowFacts w a l
  set : SetAt w mb S
theorem VisitAt.but {w w' : World} {ob lb vb mb n c : Nat} {a : Option Addr} {l : List (List Int)} {S S' : Nat → Bool} (h : VisitAt w ob lb vb mb a n c l S) (hB : But mb w w') (hs : SetAt w' mb S') : VisitAt w' ob lb vb mb a n c l S' := by
  obtain ⟨es, k, hm⟩ := h.set.map
  exact ⟨hB.cell h.out (cell_not_map h.out hm), hB.cell h.rows (cell_not_map h.rows hm), hB.cell h.fn (cell_not_map h.fn hm), hB.facts h.facts hm, hs⟩

/-- Below k the set is closed. -/
def Closed (l : List (List Int)) (k : Nat) (S : Nat → Bool) : Prop := ∀ j, j ≤ k → S j = true → ∀ i, anc l j i = true → S i = true
/-- With k, and all that stand behind the first i of its parents. -/
def withPars (l : List (List Int)) (S : Nat → Bool) (k : Nat) (ps : List Int) (j : Nat) : Bool := (S j || j == k) || ps.any fun x => anc l x.toNat j

theorem withPars_all {l : List (List Int)} (h : right l = true) {S : Nat → Bool} {k : Nat} {r : List Int} (hk : l[k]? = some r) (j : Nat) : withPars l S k r j = (S j || anc l k j) := by
  rw [anc_eq h]
  have : ((pars l k).any fun p => anc l p j) = r.any fun x => anc l x.toNat j := by
    unfold pars; rw [hk]; simp [List.any_map, Function.comp_def]
  rw [this]
  unfold withPars
  rw [Bool.or_assoc, show (j == k) = (k == j) from by rw [Bool.eq_iff_iff]; simp only [beq_iff_eq]; exact eq_comm]
theorem withPars_more (l : List (List Int)) (S : Nat → Bool) (k : Nat) (ps : List Int) (x : Int) (j : Nat) : withPars l S k (ps ++ [x]) j = (withPars l S k ps j || anc l x.toNat j) := by
  simp [withPars, Bool.or_assoc]
/-- The set is closed below the next parent. -/
theorem closed_pars {l : List (List Int)} (h : right l = true) {S : Nat → Bool} {k : Nat} {r : List Int} (hS : Closed l k S) (ps : List Int) {p : Nat} (hp : p < k) (_ : l[k]? = some r) : Closed l p (withPars l S k ps) := by
  intro j hj hSj i hi
  simp only [withPars, Bool.or_eq_true, beq_iff_eq, List.any_eq_true] at hSj ⊢
  rcases hSj with (h1 | h1) | ⟨x, hx, hxa⟩
  · exact .inl (.inl (hS j (by omega) h1 i hi))
  · omega
  · exact .inr ⟨x, hx, anc_trans' h hxa hi⟩

def VisitPost (w : World) (mb : Nat) (S' : Nat → Bool) (e : Ending) (w' : World) : Prop := e = .returned (.tuple #[]) ∧ SetAt w' mb S' ∧ But mb w w'

set_option maxHeartbeats 1000000 in
theorem visit_any (ob lb vb mb n c : Nat) (a : Option Addr) (l : List (List Int)) (hr : right l = true) (hn : l.length = n) (k : Nat) : ∀ (S : Nat → Bool) (w : World), k < n → VisitAt w ob lb vb mb a n c l S → Closed l k S →
    Calls Try.prog 45 #[.int .i64 k, .pointer (some ⟨ob, 0, none⟩), .pointer (some ⟨lb, 0, none⟩), .pointer (some ⟨vb, 0, none⟩)] w (VisitPost w mb (fun j => S j || anc l k j)) := by
  have h64 : n ≤ 64 := by rw [← hn]; exact right_length hr
  have HN := Lib.hid hn
  have HR := Lib.hid hr
  clear hn hr
  induction k using Nat.strongRecOn with
  | ind k ih =>
    intro S w hkn hv hcl
    have hlook := hv.set.look (j := k) (by omega)
    have IH := Lib.hid ih
    have HV := Lib.hid hv
    have HCL := Lib.hid hcl
    have hob := hv.out
    have hlb := hv.rows
    have hvb := hv.fn
    clear hv ih hcl
    cases hS : S k with
    | true =>
      rw [hS] at hlook
      have HP : Hid (VisitPost w mb (fun j => S j || anc l k j) (.returned (.tuple #[])) w) := Lib.hid ⟨rfl, HV.out.set.congr fun j => by
        cases hj : anc l k j with
        | false => simp
        | true => rw [HCL.out k (Nat.le_refl _) hS j hj]; rfl, But.refl _ _⟩
      go_enter Try.func45, Try.ntmps45
      go_wp2_with fail
      go_end0
      exact HP.out
    | false =>
      rw [hS] at hlook
      have HS := Lib.hid hS
      clear hS
      have er : l[k]? = some (l[k]'(by rw [HN.out]; exact hkn)) := List.getElem?_eq_getElem _
      generalize (l[k]'(by rw [HN.out]; exact hkn)) = r at er
      have HE := Lib.hid er
      obtain ⟨hr2, hrx⟩ := okRow_mem (right_row HR.out er)
      have HRX := Lib.hid hrx
      clear er hrx
      go_enter Try.func45, Try.ntmps45
      go_wp2_with (
        at_mapUpdate
        refine wpList_put_set _ rfl _ _ rfl mb S rfl HV.out.set k (by omega) rfl ?_
        intro w1 hset1 hbut1
        have HV1 : Hid (VisitAt w1 ob lb vb mb a n c l (withPars l S k [])) := Lib.hid (HV.out.but hbut1 (hset1.congr fun j => by simp [withPars]))
        have HB1 := Lib.hid hbut1
        clear hset1 hbut1 hob hlb hvb hlook
        have hlb := HV1.out.rows
        have hvb := HV1.out.fn
        obtain ⟨b, o, ar, cr, rfl, hu, h3, h4, hx⟩ := HV1.out.facts k r HE.out
        obtain ⟨m, hm⟩ : ∃ m, m = r.length := ⟨_, rfl⟩
        rw [← hm] at hu hr2 h3
        have HM := Lib.hid hm
        have HX := Lib.hid hx
        clear hm hx)
      go_loopw [6, 17] (fun _ i wr => ∃ t : Nat, t ≤ m ∧ i = .int .i64 t ∧ Hid (SetAt wr mb (withPars l S k (r.take t))) ∧ Hid (But mb w1 wr)) (fun _ i _ => m - (intOf i).toNat)
      case atStart => exact ⟨0, Nat.zero_le _, rfl, Lib.hid HV1.out.set, Lib.hid (But.refl _ _)⟩
      case round =>
        obtain ⟨t, ht, rfl, hs, hb⟩ := hrel
        have HVr : Hid (VisitAt wr ob lb vb mb (some ⟨b, o, none⟩) n c l (withPars l S k (r.take t))) := Lib.hid (HV1.out.but hb.out hs.out)
        by_cases hlt : t < m
        · have ex : r[t]? = some (r[t]'(by rw [← HM.out]; exact hlt)) := List.getElem?_eq_getElem _
          generalize (r[t]'(by rw [← HM.out]; exact hlt)) = x at ex
          have hx0 := HRX.out x (List.mem_of_getElem? ex)
          obtain ⟨p, rfl⟩ := Int.eq_ofNat_of_zero_le hx0.1
          have hpk : p < k := by omega
          obtain ⟨b', o', rfl, hcx⟩ := HX.out t p ex
          have hmap := HV1.out.set.map
          have hcx' : wr.cell? ⟨b', o' + t, none⟩ = some (.int .i64 p) := by
            obtain ⟨es, q, hq⟩ := hmap
            exact hb.out.cell hcx (cell_not_map hcx hq)
          have HEX := Lib.hid ex
          clear ex hx0 hcx hmap hu hlb hvb
          have hvb := HVr.out.fn
          go_wp2_with fail
          refine (IH.out p hpk _ _ (by omega) HVr.out (closed_pars HR.out HCL.out _ hpk HE.out)).mono ?_
          rintro e w2 ⟨rfl, hs2, hb2⟩
          have HS2 : Hid (SetAt w2 mb (withPars l S k (r.take (t + 1)))) := Lib.hid (hs2.congr fun j => by
            rw [List.take_add_one, HEX.out]
            simp only [Option.toList_some]
            rw [withPars_more]; simp)
          have HB2 := Lib.hid (hb.out.trans hb2)
          clear hs2 hb2 hcx' hvb
          go_wp2_with fail
          go_roundw
          case rel => exact ⟨t + 1, by omega, by go_num, HS2, HB2⟩
          case measure => simp [intOf]; omega
        · obtain rfl : t = m := by omega
          have HP : Hid (VisitPost w mb (fun j => S j || anc l k j) (.returned (.tuple #[])) wr) := Lib.hid ⟨rfl, hs.out.congr fun j => by
            rw [HM.out, List.take_length]; exact withPars_all HR.out HE.out j, HB1.out.trans hb.out⟩
          go_wp2_with fail
          go_end0
          exact HP.out
end Go.Proofs.Ytfajligmdjpekaa
