/- Rows of parents, and who stands behind whom, in plain words: no program in sight. -/
namespace Go.Proofs.Ytfajligmdjpekaa

/-- The parents of commit k: two at most, rising, all of them ahead of k. -/
def okRow (k : Nat) : List Int → Bool
  | [] => true
  | [p] => decide (0 ≤ p) && decide (p < k)
  | [p, q] => decide (0 ≤ p) && decide (p < q) && decide (q < k)
  | _ => false
def okRows : Nat → List (List Int) → Bool
  | _, [] => true
  | k, r :: l => okRow k r && okRows (k + 1) l
def right (l : List (List Int)) : Bool := okRows 0 l && decide (l.length ≤ 64)

theorem okRows_at : ∀ (l : List (List Int)) (b : Nat), okRows b l = true ↔ ∀ k r, l[k]? = some r → okRow (b + k) r = true
  | [], b => by simp [okRows]
  | r :: l, b => by
    simp only [okRows, Bool.and_eq_true, okRows_at l (b + 1)]
    constructor
    · rintro ⟨h1, h2⟩ k r' hk
      cases k with
      | zero => simp at hk; subst hk; exact h1
      | succ k => rw [show b + (k + 1) = b + 1 + k by omega]; exact h2 k r' (by simpa using hk)
    · intro h
      exact ⟨h 0 r rfl, fun k r' hk => by rw [show b + 1 + k = b + (k + 1) by omega]; exact h (k + 1) r' (by simpa using hk)⟩

theorem right_row {l : List (List Int)} (h : right l = true) {k : Nat} {r : List Int} (hk : l[k]? = some r) : okRow k r = true := by
  simp only [right, Bool.and_eq_true] at h
  have := (okRows_at l 0).1 h.1 k r hk
  simpa using this
theorem right_length {l : List (List Int)} (h : right l = true) : l.length ≤ 64 := by
  simp only [right, Bool.and_eq_true, decide_eq_true_eq] at h; exact h.2

theorem okRow_mem {k : Nat} {r : List Int} (h : okRow k r = true) : r.length ≤ 2 ∧ ∀ x ∈ r, 0 ≤ x ∧ x < k := by
  unfold okRow at h
  split at h
  · simp
  · simp at h ⊢; omega
  · simp at h ⊢; omega
  · cases h

/-- The parents of commit k, as places. -/
def pars (l : List (List Int)) (k : Nat) : List Nat := ((l[k]?).getD []).map Int.toNat
theorem pars_lt {l : List (List Int)} (h : right l = true) {k p : Nat} (hp : p ∈ pars l k) : p < k ∧ k < l.length := by
  unfold pars at hp
  rcases hk : l[k]? with _ | r
  · rw [hk] at hp; simp at hp
  · rw [hk] at hp
    simp only [Option.getD_some, List.mem_map] at hp
    obtain ⟨x, hx, rfl⟩ := hp
    have := (okRow_mem (right_row h hk)).2 x hx
    have hlt : k < l.length := by
      rw [List.getElem?_eq_some_iff] at hk; exact hk.1
    omega
theorem mem_pars {l : List (List Int)} {k : Nat} {r : List Int} (hk : l[k]? = some r) {p : Nat} : p ∈ pars l k ↔ ∃ x ∈ r, x.toNat = p := by
  unfold pars; rw [hk]; simp

/-- Does j stand behind k, or is it k? -/
def ancF (l : List (List Int)) : Nat → Nat → Nat → Bool
  | 0, _, _ => false
  | f + 1, k, j => k == j || (pars l k).any fun p => ancF l f p j
def anc (l : List (List Int)) (k j : Nat) : Bool := ancF l (k + 1) k j

theorem any_eq {α : Type} {f g : α → Bool} : ∀ {l : List α}, (∀ x ∈ l, f x = g x) → l.any f = l.any g
  | [], _ => rfl
  | x :: l, h => by
    simp only [List.any_cons]
    rw [h x (List.mem_cons_self ..), any_eq (fun y hy => h y (List.mem_cons_of_mem _ hy))]

theorem ancF_enough {l : List (List Int)} (h : right l = true) : ∀ (n k f : Nat) (j : Nat), k ≤ n → k + 1 ≤ f → ancF l f k j = ancF l (k + 1) k j := by
  intro n
  induction n with
  | zero =>
    intro k f j hk hf
    obtain ⟨f, rfl⟩ : ∃ g, f = g + 1 := ⟨f - 1, by omega⟩
    obtain rfl : k = 0 := by omega
    have hp : pars l 0 = [] := by
      refine List.eq_nil_iff_forall_not_mem.2 fun p hp => ?_
      have := pars_lt h hp; omega
    simp [ancF, hp]
  | succ n ih =>
    intro k f j hk hf
    obtain ⟨f, rfl⟩ : ∃ g, f = g + 1 := ⟨f - 1, by omega⟩
    simp only [ancF]
    refine congrArg (fun b => (k == j || b)) (any_eq fun p hp => ?_)
    have hlt := (pars_lt h hp).1
    rw [ih p f j (by omega) (by omega), ih p k j (by omega) (by omega)]

theorem anc_eq {l : List (List Int)} (h : right l = true) (k j : Nat) : anc l k j = (k == j || (pars l k).any fun p => anc l p j) := by
  unfold anc
  rw [ancF]
  refine congrArg (fun b => (k == j || b)) (any_eq fun p hp => ?_)
  have hlt := (pars_lt h hp).1
  exact ancF_enough h p p k j (Nat.le_refl _) (by omega)

theorem anc_iff {l : List (List Int)} (h : right l = true) (k j : Nat) : anc l k j = true ↔ k = j ∨ ∃ p ∈ pars l k, anc l p j = true := by
  rw [anc_eq h]; simp

theorem anc_self {l : List (List Int)} (h : right l = true) (k : Nat) : anc l k k = true := (anc_iff h k k).2 (.inl rfl)
theorem anc_le {l : List (List Int)} (h : right l = true) : ∀ (n k j : Nat), k ≤ n → anc l k j = true → j ≤ k := by
  intro n
  induction n with
  | zero =>
    intro k j hk ha
    rcases (anc_iff h k j).1 ha with rfl | ⟨p, hp, _⟩
    · omega
    · have := pars_lt h hp; omega
  | succ n ih =>
    intro k j hk ha
    rcases (anc_iff h k j).1 ha with rfl | ⟨p, hp, hpa⟩
    · omega
    · have h1 := (pars_lt h hp).1
      have := ih p j (by omega) hpa; omega
theorem anc_le' {l : List (List Int)} (h : right l = true) {k j : Nat} (ha : anc l k j = true) : j ≤ k := anc_le h k k j (Nat.le_refl _) ha
theorem anc_trans {l : List (List Int)} (h : right l = true) {j i : Nat} (hj : anc l j i = true) : ∀ (n k : Nat), k ≤ n → anc l k j = true → anc l k i = true := by
  intro n
  induction n with
  | zero =>
    intro k hk ha
    rcases (anc_iff h k j).1 ha with rfl | ⟨p, hp, _⟩
    · exact hj
    · have := pars_lt h hp; omega
  | succ n ih =>
    intro k hk ha
    rcases (anc_iff h k j).1 ha with rfl | ⟨p, hp, hpa⟩
    · exact hj
    · have h1 := (pars_lt h hp).1
      exact (anc_iff h k i).2 (.inr ⟨p, hp, ih p (by omega) hpa⟩)
theorem anc_trans' {l : List (List Int)} (h : right l = true) {k j i : Nat} (ha : anc l k j = true) (hj : anc l j i = true) : anc l k i = true := anc_trans h hj k k (Nat.le_refl _) ha
theorem anc_par {l : List (List Int)} (h : right l = true) {k p : Nat} (hp : p ∈ pars l k) : anc l k p = true := (anc_iff h k p).2 (.inr ⟨p, hp, anc_self h p⟩)
/-- The last step to one that stands behind. -/
theorem anc_last {l : List (List Int)} (h : right l = true) (j : Nat) : ∀ (n k : Nat), k ≤ n → anc l k j = true → k = j ∨ ∃ c, anc l k c = true ∧ j ∈ pars l c := by
  intro n
  induction n with
  | zero =>
    intro k hk ha
    rcases (anc_iff h k j).1 ha with rfl | ⟨p, hp, _⟩
    · exact .inl rfl
    · have := pars_lt h hp; omega
  | succ n ih =>
    intro k hk ha
    rcases (anc_iff h k j).1 ha with rfl | ⟨p, hp, hpa⟩
    · exact .inl rfl
    · have h1 := (pars_lt h hp).1
      rcases ih p (by omega) hpa with rfl | ⟨c, hc, hjc⟩
      · exact .inr ⟨k, anc_self h k, hp⟩
      · exact .inr ⟨c, (anc_iff h k c).2 (.inr ⟨p, hp, hc⟩), hjc⟩
theorem anc_last_iff {l : List (List Int)} (h : right l = true) (k j : Nat) : anc l k j = true ↔ k = j ∨ ∃ c, anc l k c = true ∧ j ∈ pars l c :=
  ⟨anc_last h j k k (Nat.le_refl _), fun hh => by
    rcases hh with rfl | ⟨c, hc, hj⟩
    · exact anc_self h k
    · exact anc_trans' h hc (anc_par h hj)⟩

/-- A place of the row? -/
def inR (l : List (List Int)) (k : Int) : Bool := decide (0 ≤ k) && decide (k < l.length)
/-- Those of the first n that are in S, rising. -/
def rowOf (n : Nat) (S : Nat → Bool) : List Int := ((List.range n).filter S).map Int.ofNat
def there1 (l : List (List Int)) (k : Int) : Bool := right l && inR l k
def there2 (l : List (List Int)) (a b : Int) : Bool := right l && inR l a && inR l b

def isB (l : List (List Int)) (a b : Int) : Bool := there2 l a b && anc l b.toNat a.toNat
def behindL (l : List (List Int)) (k : Int) : List Int := if there1 l k then rowOf l.length (anc l k.toNat) else []
def commonS (l : List (List Int)) (a b : Nat) (j : Nat) : Bool := anc l a j && anc l b j
def commonL (l : List (List Int)) (a b : Int) : List Int := if there2 l a b then rowOf l.length (commonS l a.toNat b.toNat) else []
/-- Is j behind a parent of some that is common to both? -/
def underS (l : List (List Int)) (a b : Nat) (j : Nat) : Bool := (List.range l.length).any fun c => commonS l a b c && (pars l c).any fun p => anc l p j
def basesS (l : List (List Int)) (a b : Nat) (j : Nat) : Bool := commonS l a b j && !underS l a b j
def basesL (l : List (List Int)) (a b : Int) : List Int := if there2 l a b then rowOf l.length (basesS l a.toNat b.toNat) else []
def baseI (l : List (List Int)) (a b : Int) : Int := (basesL l a b).getLastD (-1)
def headsS (l : List (List Int)) (j : Nat) : Bool := !(List.range l.length).any fun c => (pars l c).contains j
def headsL (l : List (List Int)) : List Int := if right l then rowOf l.length (headsS l) else []
def newL (l : List (List Int)) (a b : Int) : List Int := if there2 l a b then rowOf l.length (fun j => anc l b.toNat j && !anc l a.toNat j) else []

/-- How many stand one behind the other, up to k. -/
def depF (l : List (List Int)) : Nat → Nat → Nat
  | 0, _ => 0
  | f + 1, k => (pars l k).foldl (fun m p => max m (depF l f p + 1)) 1
def dep (l : List (List Int)) (k : Nat) : Nat := depF l (k + 1) k
def depthI (l : List (List Int)) (k : Int) : Int := if there1 l k then dep l k.toNat else 0

theorem foldl_congr {α β : Type} (f g : β → α → β) : ∀ (l : List α) (b : β), (∀ x ∈ l, ∀ b, f b x = g b x) → l.foldl f b = l.foldl g b
  | [], _, _ => rfl
  | x :: l, b, h => by
    simp only [List.foldl_cons]
    rw [h x (List.mem_cons_self ..)]
    exact foldl_congr f g l _ (fun y hy => h y (List.mem_cons_of_mem _ hy))

theorem depF_enough {l : List (List Int)} (h : right l = true) : ∀ (n k f : Nat), k ≤ n → k + 1 ≤ f → depF l f k = depF l (k + 1) k := by
  intro n
  induction n with
  | zero =>
    intro k f hk hf
    obtain ⟨f, rfl⟩ : ∃ g, f = g + 1 := ⟨f - 1, by omega⟩
    obtain rfl : k = 0 := by omega
    have hp : pars l 0 = [] := by
      refine List.eq_nil_iff_forall_not_mem.2 fun p hp => ?_
      have := pars_lt h hp; omega
    simp [depF, hp]
  | succ n ih =>
    intro k f hk hf
    obtain ⟨f, rfl⟩ : ∃ g, f = g + 1 := ⟨f - 1, by omega⟩
    simp only [depF]
    refine foldl_congr _ _ _ _ fun p hp m => ?_
    have hlt := (pars_lt h hp).1
    rw [ih p f (by omega) (by omega), ih p k (by omega) (by omega)]
theorem dep_eq {l : List (List Int)} (h : right l = true) (k : Nat) : dep l k = (pars l k).foldl (fun m p => max m (dep l p + 1)) 1 := by
  unfold dep
  rw [depF]
  refine foldl_congr _ _ _ _ fun p hp m => ?_
  have hlt := (pars_lt h hp).1
  rw [depF_enough h p p k (Nat.le_refl _) (by omega)]

end Go.Proofs.Ytfajligmdjpekaa
