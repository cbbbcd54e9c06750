/- What a law takes of the functions: each call's answer, in whatever world that keeps what was there. -/
import Derived.Test.YtfajligmdjpekaaSmall
namespace Go.Proofs.Ytfajligmdjpekaa
open Go.RowKit Go.Lib Go.Maps Go.Shelf

structure DagAt (w : World) (a : Option Addr) (n c : Nat) (l : List (List Int)) : Prop where
  right : ∀ W, Ext w W → Calls Try.prog 10 #[.slice a n c] W (Gives (.bool (right l)) W)
  is : ∀ x y W, Ext w W → Calls Try.prog 12 #[.slice a n c, .int .i64 x, .int .i64 y] W (Gives (.bool (isB l x y)) W)
  depth : ∀ x W, Ext w W → Calls Try.prog 14 #[.slice a n c, .int .i64 x] W (Gives (.int .i64 (depthI l x)) W)
  base : ∀ x y W, Ext w W → Calls Try.prog 16 #[.slice a n c, .int .i64 x, .int .i64 y] W (Gives (.int .i64 (baseI l x y)) W)
  behind : ∀ x W, Ext w W → Calls Try.prog 19 #[.slice a n c, .int .i64 x] W (RowPost W (behindL l x))
  common : ∀ x y W, Ext w W → Calls Try.prog 21 #[.slice a n c, .int .i64 x, .int .i64 y] W (RowPost W (commonL l x y))
  bases : ∀ x y W, Ext w W → Calls Try.prog 23 #[.slice a n c, .int .i64 x, .int .i64 y] W (RowPost W (basesL l x y))
  heads : ∀ W, Ext w W → Calls Try.prog 25 #[.slice a n c] W (RowPost W (headsL l))
  new : ∀ x y W, Ext w W → Calls Try.prog 27 #[.slice a n c, .int .i64 x, .int .i64 y] W (RowPost W (newL l x y))
theorem dagAt {w : World} {a : Option Addr} {n c : Nat} {l : List (List Int)} (hn : l.length = n) (hc : n ≤ 1000) (hf : RowFacts w a l) : DagAt w a n c l where
  right W h := (right_walk n c a l W hn hc (hf.ext h)).mono fun _ _ h => h.gives
  is x y W h := is_any n c a l hn hc x y W (hf.ext h)
  depth x W h := depth_any n c a l hn hc x W (hf.ext h)
  base x y W h := base_any n c a l hn hc x y W (hf.ext h)
  behind x W h := dbehind_any n c a l hn hc x W (hf.ext h)
  common x y W h := common_any n c a l hn hc x y W (hf.ext h)
  bases x y W h := bases_any n c a l hn hc x y W (hf.ext h)
  heads W h := heads_any n c a l hn hc W (hf.ext h)
  new x y W h := new_any n c a l hn hc x y W (hf.ext h)
structure RefAt (w : World) (a : Option Addr) (n c : Nat) (l : List (List Int)) : Prop where
  right : ∀ W, Ext w W → Calls Try.prog 11 #[.slice a n c] W (Gives (.bool (right l)) W)
  is : ∀ x y W, Ext w W → Calls Try.prog 13 #[.slice a n c, .int .i64 x, .int .i64 y] W (Gives (.bool (isB l x y)) W)
  depth : ∀ x W, Ext w W → Calls Try.prog 15 #[.slice a n c, .int .i64 x] W (Gives (.int .i64 (depthI l x)) W)
  base : ∀ x y W, Ext w W → Calls Try.prog 17 #[.slice a n c, .int .i64 x, .int .i64 y] W (Gives (.int .i64 (baseI l x y)) W)
  behind : ∀ x W, Ext w W → Calls Try.prog 20 #[.slice a n c, .int .i64 x] W (RowPost W (behindL l x))
  common : ∀ x y W, Ext w W → Calls Try.prog 22 #[.slice a n c, .int .i64 x, .int .i64 y] W (RowPost W (commonL l x y))
  bases : ∀ x y W, Ext w W → Calls Try.prog 24 #[.slice a n c, .int .i64 x, .int .i64 y] W (RowPost W (basesL l x y))
  heads : ∀ W, Ext w W → Calls Try.prog 26 #[.slice a n c] W (RowPost W (headsL l))
  new : ∀ x y W, Ext w W → Calls Try.prog 28 #[.slice a n c, .int .i64 x, .int .i64 y] W (RowPost W (newL l x y))
theorem refAt {w : World} {a : Option Addr} {n c : Nat} {l : List (List Int)} (hn : l.length = n) (hc : n ≤ 1000) (hf : RowFacts w a l) : RefAt w a n c l where
  right W h := (refRight_walk n c a l W hn hc (hf.ext h)).mono fun _ _ h => h.gives
  is x y W h := refIs_any n c a l hn hc x y W (hf.ext h)
  depth x W h := refDepth_any n c a l hn hc x W (hf.ext h)
  base x y W h := refBase_any n c a l hn hc x y W (hf.ext h)
  behind x W h := refBehind_any n c a l hn hc x W (hf.ext h)
  common x y W h := refCommon_any n c a l hn hc x y W (hf.ext h)
  bases x y W h := refBases_any n c a l hn hc x y W (hf.ext h)
  heads W h := refHeads_any n c a l hn hc W (hf.ext h)
  new x y W h := refNew_any n c a l hn hc x y W (hf.ext h)
theorem behindL_length (l : List (List Int)) (x : Int) : (behindL l x).length ≤ 64 := by
  unfold behindL
  split
  · rename_i h
    exact Nat.le_trans (rowOf_length _ _) (right_length (there1_open h).1)
  · simp
theorem newL_length (l : List (List Int)) (x y : Int) : (newL l x y).length ≤ 64 := by
  unfold newL
  split
  · rename_i h
    exact Nat.le_trans (rowOf_length _ _) (right_length (there2_open h).1)
  · simp
theorem headsL_length (l : List (List Int)) : (headsL l).length ≤ 64 := by
  unfold headsL
  split
  · rename_i h
    exact Nat.le_trans (rowOf_length _ _) (right_length h)
  · simp
theorem few_le {l : List (List Int)} (h : fewB l = true) : l.length ≤ 70 := by
  simp only [fewB, Bool.and_eq_true, decide_eq_true_eq] at h
  exact h.1
end Go.Proofs.Ytfajligmdjpekaa
