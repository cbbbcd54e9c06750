/- A region that draws its order, whose operations may make memory: one fact for each operation, which no other operation of the region undoes, serves every order. -/
import Derived.StillTail
import Derived.RegionTactic
namespace Go.Rely
open Go

section
variable {P : Program} {ops : Array Oper} {Q : Exit → Act → World → Prop} {md : Region.Mode}

def dstOf (ops : Array Oper) (i : Nat) : Option Tmp := (ops[i]?).bind (·.dst)
def deps (md : Region.Mode) (ops : Array Oper) (i : Nat) : List Nat := ((ops[i]?).map fun o => (o.after.toList.filter (Region.binds md)).map (·.on)).getD []
def isOpen (listed : Array Bool) (i : Nat) : Bool := !listed.getD i true
def puts (ops : Array Oper) : Act → (Nat → Value) → List Nat → Act
  | a, _, [] => a
  | a, vs, i :: l => puts ops (a.put (dstOf ops i) (vs i)) vs l
def upd (vs : Nat → Value) (i : Nat) (v : Value) : Nat → Value := fun j => if j = i then v else vs j

def disjoint (x y : Option Tmp) : Bool := match x with
  | some d => y != some d
  | none => true
def apartB (ops : Array Oper) : List Nat → Bool
  | [] => true
  | i :: l => !l.contains i && l.all (fun j => disjoint (dstOf ops i) (dstOf ops j)) && apartB ops l
/-- k waits for i, be it by way of others of the head. -/
def reach (md : Region.Mode) (ops : Array Oper) (hs : List Nat) : Nat → Nat → Nat → Bool
  | 0, k, i => (deps md ops k).contains i
  | f + 1, k, i => (deps md ops k).contains i || hs.any fun j => (deps md ops k).contains j && reach md ops hs f j i
def doneTo (m n : Nat) : Array Bool := ((List.range n).map (fun i => decide (i < m))).toArray
/-- What is asked of the region's text: hs are those of the first m operations that have not come up yet: their temporaries are apart, each waits for earlier ones alone; all from m on wait for all of them, and come one behind the other. -/
def relyB (md : Region.Mode) (ops : Array Oper) (listed : Array Bool) (hs : List Nat) (m : Nat) : Bool :=
  decide (m ≤ ops.size) && decide (listed.size = ops.size) && decide ((List.range m).filter (isOpen listed) = hs) && (List.range ops.size).all (fun k => decide (k < m) || isOpen listed k) &&
  apartB ops hs && hs.all (fun i => (deps md ops i).all (· < i)) &&
  (List.range ops.size).all (fun k => decide (k < m) || hs.all fun i => reach md ops hs hs.length k i) &&
  Region.seqB md ops (ops.size - m) m (doneTo m ops.size)

theorem put_put (a : Act) (x : Option Tmp) (u v : Value) : (a.put x u).put x v = a.put x v := by
  cases x with
  | none => rfl
  | some d => simp [Act.put]

theorem put_same (a : Act) (x : Option Tmp) : a.put x (match x with | some d => a.tmps.getD d undef | none => undef) = a := by
  cases x with
  | none => rfl
  | some d =>
    simp only [Act.put]
    have : a.tmps.setIfInBounds d (a.tmps.getD d undef) = a.tmps := by
      apply Array.ext
      · simp
      · intro i h1 h2
        rw [Array.getElem_setIfInBounds]
        split
        · rename_i h; subst h; simp [Array.getD, h2]
        · rfl
    rw [this]

theorem puts_put (l : List Nat) (x : Option Tmp) (v : Value) : ∀ (a : Act) (vs : Nat → Value), (∀ j ∈ l, ∀ d, dstOf ops j = some d → x ≠ some d) →
    (puts ops a vs l).put x v = puts ops (a.put x v) vs l := by
  induction l with
  | nil => intro a vs _; rfl
  | cons i l ih =>
    intro a vs h
    simp only [puts]
    rw [ih _ _ (fun j hj => h j (List.mem_cons_of_mem _ hj)), Act.put_comm a (vs i) v (fun d hd => h i (List.mem_cons_self ..) d hd)]

theorem puts_congr (l : List Nat) : ∀ (a : Act) (vs us : Nat → Value), (∀ j ∈ l, vs j = us j) → puts ops a vs l = puts ops a us l := by
  induction l with
  | nil => intro a vs us _; rfl
  | cons i l ih =>
    intro a vs us h
    simp only [puts]
    rw [h i (List.mem_cons_self ..)]
    exact ih _ _ _ (fun j hj => h j (List.mem_cons_of_mem _ hj))

theorem disjoint_spec {x y : Option Tmp} (h : disjoint x y = true) : ∀ d, y = some d → x ≠ some d := by
  intro d hy hx
  subst hy hx
  simp [disjoint] at h

theorem puts_upd (l : List Nat) : ∀ (a : Act) (vs : Nat → Value) (i : Nat) (v : Value), apartB ops l = true → i ∈ l →
    (puts ops a vs l).put (dstOf ops i) v = puts ops a (upd vs i v) l := by
  induction l with
  | nil => intro a vs i v _ hi; cases hi
  | cons k l ih =>
    intro a vs i v hB hi
    simp only [apartB, Bool.and_eq_true, Bool.not_eq_true', List.all_eq_true] at hB
    obtain ⟨⟨h1, h2⟩, h3⟩ := hB
    have hk : k ∉ l := by simpa using h1
    simp only [puts]
    by_cases hik : i = k
    · subst hik
      rw [puts_put l (dstOf ops i) v _ _ (fun j hj => disjoint_spec (h2 j hj)), put_put]
      simp only [upd, if_true]
      exact puts_congr l _ _ _ (fun j hj => by unfold upd; rw [if_neg]; rintro rfl; exact hk hj)
    · have hil : i ∈ l := by
        rcases List.mem_cons.1 hi with h | h
        · exact absurd h hik
        · exact h
      rw [ih _ _ _ _ h3 hil]
      have : upd vs i v k = vs k := by simp [upd, Ne.symm hik]
      rw [this]

theorem puts_same (l : List Nat) : ∀ (a : Act), puts ops a (fun i => match dstOf ops i with | some d => a.tmps.getD d undef | none => undef) l = a := by
  induction l with
  | nil => intro a; rfl
  | cons k l ih =>
    intro a
    simp only [puts]
    rw [put_same a (dstOf ops k)]
    exact ih a

theorem filter_set {listed : Array Bool} {i : Nat} (l : List Nat) (hn : l.Nodup) (hi : i ∈ l) (ho : isOpen listed i = true) :
    (l.filter (isOpen (listed.setIfInBounds i true))).length + 1 = (l.filter (isOpen listed)).length := by
  have hset : ∀ j, isOpen (listed.setIfInBounds i true) j = (isOpen listed j && decide (j ≠ i)) := by
    intro j
    unfold isOpen at *
    by_cases hj : j = i
    · subst hj
      have hlt : j < listed.size := by
        rcases Nat.lt_or_ge j listed.size with h' | h'
        · exact h'
        · simp [Array.getElem?_eq_none h'] at ho
      simp [hlt]
    · rw [getD_set_ne true (Ne.symm hj)]; simp [hj]
  induction l with
  | nil => cases hi
  | cons k l ih =>
    obtain ⟨hk, hn'⟩ := List.nodup_cons.1 hn
    by_cases hki : k = i
    · subst hki
      have hsame : l.filter (isOpen (listed.setIfInBounds k true)) = l.filter (isOpen listed) := by
        apply List.filter_congr
        intro j hj
        have : j ≠ k := by rintro rfl; exact hk hj
        rw [hset]; simp [this]
      rw [List.filter_cons, List.filter_cons, hset k, ho, hsame]
      simp
    · have hil : i ∈ l := by
        rcases List.mem_cons.1 hi with h | h
        · exact absurd h.symm hki
        · exact h
      have := ih hn' hil
      rw [List.filter_cons, List.filter_cons, hset k]
      simp only [ne_eq, hki, not_false_eq_true, decide_true, Bool.and_true]
      split
      · simp only [List.length_cons]; omega
      · omega


theorem open_lt {listed : Array Bool} {i : Nat} (h : isOpen listed i = true) : i < listed.size := by
  unfold isOpen at h
  rcases Nat.lt_or_ge i listed.size with h' | h'
  · exact h'
  · simp [Array.getElem?_eq_none h'] at h
theorem open_set_ne {listed : Array Bool} {i j : Nat} (h : j ≠ i) : isOpen (listed.setIfInBounds i true) j = isOpen listed j := by
  unfold isOpen; rw [getD_set_ne true (Ne.symm h)]
theorem open_set_eq {listed : Array Bool} {i : Nat} (h : i < listed.size) : isOpen (listed.setIfInBounds i true) i = false := by
  simp [isOpen, h]
theorem closed_of {listed : Array Bool} {i : Nat} (hi : i < listed.size) : isOpen listed i = false ↔ listed.getD i false = true := by
  simp [isOpen, hi]

theorem closed_false {listed : Array Bool} {i : Nat} (h : listed.getD i false = true) : isOpen listed i = false := by
  unfold isOpen
  rcases Nat.lt_or_ge i listed.size with h' | h'
  · simp [h'] at h ⊢; exact h
  · simp [Array.getElem?_eq_none h'] at h

theorem reach_closed {hs : List Nat} {listed : Array Bool} (hcl : ∀ j, j ∈ hs → isOpen listed j = false → ∀ i, (deps md ops j).contains i = true → isOpen listed i = false) :
    ∀ (f k i : Nat), (∀ j, (deps md ops k).contains j = true → isOpen listed j = false) → reach md ops hs f k i = true → isOpen listed i = false
  | 0, k, i, h, hr => h i hr
  | f + 1, k, i, h, hr => by
    simp only [reach, Bool.or_eq_true, List.any_eq_true, Bool.and_eq_true] at hr
    rcases hr with hr | ⟨j, hj, hkj, hji⟩
    · exact h i hr
    · exact reach_closed hcl f j i (hcl j hj (h j hkj)) hji

/-- **THE RULE.** -/
theorem wpAny_rely (m : Nat) (hs : List Nat) (listed0 : Array Bool) (R : World → World → Prop) (hRr : ∀ w, R w w) (hRt : ∀ a b c, R a b → R b c → R a c)
    (T : Nat → Value → World → Prop) (hT : ∀ i, i ∈ hs → ∀ v w w', T i v w → R w w' → T i v w')
    (a1 : Act) (w1 : World) (hB : relyB md ops listed0 hs m = true)
    (step : ∀ i, i ∈ hs → ∀ vs w, R w1 w → (∀ j, j ∈ hs → (deps md ops i).contains j = true → T j (vs j) w) →
      wpOp P ops Q i (fun a' w' => ∃ v, a' = (puts ops a1 vs hs).put (dstOf ops i) v ∧ R w w' ∧ T i v w') (puts ops a1 vs hs) w)
    (fin : ∀ vs w, R w1 w → (∀ j, j ∈ hs → T j (vs j) w) → wpAny P md ops Q (ops.size - m) (doneTo m ops.size) (puts ops a1 vs hs) w) :
    wpAny P md ops Q (ops.size - m + hs.length) listed0 a1 w1 := by
  simp only [relyB, Bool.and_eq_true, List.all_eq_true, decide_eq_true_eq, List.mem_range, Bool.or_eq_true] at hB
  obtain ⟨⟨⟨⟨⟨⟨⟨hmn, hsz⟩, hhs⟩, htop⟩, hap⟩, hdep⟩, htail⟩, _⟩ := hB
  have mem_hs : ∀ {i}, i ∈ hs ↔ i < m ∧ isOpen listed0 i = true := by
    intro i; rw [← hhs]; simp
  have memd : ∀ {j : Nat} {o : Oper}, ops[j]? = some o → ∀ e ∈ o.after, Region.binds md e = true → (deps md ops j).contains e.on = true := by
    intro j o ho e he hb
    rw [List.contains_iff_mem]
    simp only [deps, ho, Option.map_some, Option.getD_some, List.mem_map, List.mem_filter]
    exact ⟨e, ⟨by simpa using he, hb⟩, rfl⟩
  have depm : ∀ {j : Nat} {o : Oper}, ops[j]? = some o → ∀ k, (deps md ops j).contains k = true → ∃ e ∈ o.after, Region.binds md e = true ∧ e.on = k := by
    intro j o ho k hk
    rw [List.contains_iff_mem] at hk
    simp only [deps, ho, Option.map_some, Option.getD_some, List.mem_map, List.mem_filter] at hk
    obtain ⟨e, ⟨he, hb⟩, hon⟩ := hk
    exact ⟨e, by simpa using he, hb, hon⟩
  have key : ∀ (c fuel : Nat) (listed : Array Bool) (vs : Nat → Value) (w : World), listed.size = ops.size → (∀ j, m ≤ j → j < ops.size → isOpen listed j = true) → (∀ j, isOpen listed j = true → isOpen listed0 j = true) →
      (∀ j, j ∈ hs → isOpen listed j = false → ∀ i, (deps md ops j).contains i = true → isOpen listed i = false) →
      (∀ j, j ∈ hs → isOpen listed j = false → T j (vs j) w) → R w1 w → ((List.range m).filter (isOpen listed)).length = c → fuel = ops.size - m + c →
      wpAny P md ops Q fuel listed (puts ops a1 vs hs) w := by
    intro c
    induction c with
    | zero =>
      intro fuel listed vs w hs' htl hsub hcld hTs hR hc hfuel
      have hnone : (List.range m).filter (isOpen listed) = [] := List.eq_nil_of_length_eq_zero hc
      have hall : ∀ j, j < m → isOpen listed j = false := by
        intro j hj
        have : j ∉ (List.range m).filter (isOpen listed) := by rw [hnone]; simp
        simpa [hj] using this
      have hl : listed = doneTo m ops.size := by
        apply Array.ext
        · simp [doneTo, hs']
        · intro j h1 h2
          have hjn : j < ops.size := by omega
          by_cases hj : j < m
          · have := (closed_of (listed := listed) (by omega)).1 (hall j hj)
            simp only [Array.getD_eq_getD_getElem?, Array.getElem?_eq_getElem h1, Option.getD_some] at this
            simp [doneTo, hj, this]
          · have := htl j (by omega) hjn
            simp only [isOpen, Array.getD_eq_getD_getElem?, Array.getElem?_eq_getElem h1, Option.getD_some, Bool.not_eq_true'] at this
            simp [doneTo, hj, this]
      subst hl
      rw [hfuel]
      exact fin vs w hR (fun j hj => hTs j hj (hall j (mem_hs.1 hj).1))
    | succ c ih =>
      intro fuel listed vs w hs' htl hsub hcld hTs hR hc hfuel
      have hsome : ∃ i, i < m ∧ isOpen listed i = true := by
        have : (List.range m).filter (isOpen listed) ≠ [] := by intro h; rw [h] at hc; simp at hc
        obtain ⟨i, hi⟩ := List.exists_mem_of_ne_nil _ this
        obtain ⟨h1, h2⟩ := List.mem_filter.1 hi
        exact ⟨i, by simpa using h1, h2⟩
      have hrdy : ∀ n i, i < n → i < m → isOpen listed i = true → Region.ready md ops listed ≠ [] := by
        intro n
        induction n with
        | zero => intro i hi; omega
        | succ n ihn =>
          intro i hi him hop hnil
          by_cases hin : i < n
          · exact ihn i hin him hop hnil
          · have hlt : i < ops.size := by omega
            have hmem : i ∈ Region.ready md ops listed := by
              rw [mem_ready]
              refine ⟨by simpa [isOpen] using hop, ops[i], Array.getElem?_eq_getElem hlt, fun e he hb => ?_⟩
              have hd := memd (Array.getElem?_eq_getElem hlt) e he hb
              have hlt2 : e.on < i := by have := hdep i (mem_hs.2 ⟨him, hsub i hop⟩) e.on (List.contains_iff_mem.1 hd); simpa using this
              refine (closed_of (by omega)).1 ?_
              cases hcl : isOpen listed e.on
              · rfl
              · exact absurd hnil (ihn e.on (by omega) (by omega) hcl)
            rw [hnil] at hmem
            cases hmem
      obtain ⟨i0, hi0, ho0⟩ := hsome
      subst hfuel
      refine ⟨fun hnil => absurd hnil (hrdy (i0 + 1) i0 (by omega) hi0 ho0), fun i hi => ?_⟩
      obtain ⟨h0, o, ho, hdone⟩ := mem_ready.1 hi
      have hlt : i < ops.size := (Array.getElem?_eq_some_iff.1 ho).1
      have hop : isOpen listed i = true := by simp [isOpen, h0]
      have him : i < m := by
        rcases Nat.lt_or_ge i m with h | h
        · exact h
        · exfalso
          have hrc := (htail i hlt).resolve_left (by omega) i0 (mem_hs.2 ⟨hi0, hsub i0 ho0⟩)
          have := reach_closed hcld hs.length i i0 (fun j hj => by
            obtain ⟨e, he, hb, rfl⟩ := depm ho j hj
            exact closed_false (hdone e he hb)) hrc
          rw [this] at ho0
          cases ho0
      have hih : i ∈ hs := mem_hs.2 ⟨him, hsub i hop⟩
      have hst := step i hih vs w hR (fun j hj hjd => hTs j hj (by
        obtain ⟨e, he, hb, rfl⟩ := depm ho j hjd
        exact (closed_of (by have := (mem_hs.1 hj).1; omega)).2 (hdone e he hb)))
      refine wpOp_mono (fun a' w' h => ?_) hst
      obtain ⟨v, rfl, hR', hTi⟩ := h
      rw [puts_upd _ _ _ _ _ hap hih]
      refine ih _ _ _ _ (by simpa using hs') ?_ ?_ ?_ ?_ (hRt _ _ _ hR hR') ?_ rfl
      · intro j hj hjn
        rw [open_set_ne (by omega)]
        exact htl j hj hjn
      · intro j hj
        by_cases hji : j = i
        · subst hji; exact hsub j hop
        · rw [open_set_ne hji] at hj; exact hsub j hj
      · intro j hj hcl k hk
        have hset : ∀ k, isOpen listed k = false → isOpen (listed.setIfInBounds i true) k = false := by
          intro k hk
          by_cases hki : k = i
          · subst hki; rw [hop] at hk; cases hk
          · rw [open_set_ne hki]; exact hk
        by_cases hji : j = i
        · subst hji
          obtain ⟨e, he, hb, rfl⟩ := depm ho k hk
          exact hset _ (closed_false (hdone e he hb))
        · rw [open_set_ne hji] at hcl
          exact hset _ (hcld j hj hcl k hk)
      · intro j hj hcl
        by_cases hji : j = i
        · subst hji; simpa [upd] using hTi
        · simp only [upd, if_neg hji]
          rw [open_set_ne hji] at hcl
          exact hT _ hj _ _ _ (hTs j hj hcl) hR'
      · have h1 := filter_set (List.range m) List.nodup_range (by simpa using him) hop
        omega
  have := key hs.length (ops.size - m + hs.length) listed0 (fun i => match dstOf ops i with | some d => a1.tmps.getD d undef | none => undef) w1 hsz
    (fun j hj hjn => (htop j hjn).resolve_left (by omega)) (fun _ h => h) (fun j hj hcl => by rw [(mem_hs.1 hj).2] at hcl; cases hcl) (fun j hj hcl => by rw [(mem_hs.1 hj).2] at hcl; cases hcl) (hRr _) (by rw [hhs]) rfl
  rwa [puts_same] at this

/-! ### The form for use -/
/-- Take number i first: it yields v in whatever world; d is its temporary, written out. -/
theorem takeD (i : Nat) (d : Option Tmp) (v : Value) {oi : Oper} {fuel : Nat} {listed : Array Bool} {a : Act} {w : World} (hi : ops[i]? = some oi) (hd : oi.dst = d)
    (hs : Region.noSelect ops = true) (hf : Region.free md ops listed i = true) (hr : (Region.ready md ops listed).contains i = true)
    (hQ : ∀ c a w, Q (.panic c) (a.put d v) w → Q (.panic c) a w) (hy : Yields P ops oi v a)
    (h : wpAny P md ops Q fuel (listed.setIfInBounds i true) (a.put d v) w) : wpAny P md ops Q (fuel + 1) listed a w := by
  subst hd
  exact wpAny_take hi hs hf hr hQ hy h
/-- The head's numbers, each with its temporary, as the prover has written them out. -/
def putsO : List (Nat × Option Tmp) → (Nat → Value) → Act → Act
  | [], _, a => a
  | (i, d) :: l, vs, a => putsO l vs (a.put d (vs i))
def dsB (ops : Array Oper) (ds : List (Nat × Option Tmp)) : Bool := ds.all fun p => decide (dstOf ops p.1 = p.2)
theorem putsO_eq {ops : Array Oper} : ∀ (l : List (Nat × Option Tmp)) (vs : Nat → Value) (a : Act), dsB ops l = true → putsO l vs a = puts ops a vs (l.map (·.1)) := by
  intro l
  induction l with
  | nil => intro vs a _; rfl
  | cons p l ih =>
    intro vs a h
    obtain ⟨i, d⟩ := p
    simp only [dsB, List.all_cons, Bool.and_eq_true, decide_eq_true_eq] at h
    simp only [putsO, List.map_cons, puts, h.1]
    exact ih vs _ h.2

/-- What is said of those that number i waits for, in the world w. -/
def Left (ops : Array Oper) (T : Nat → Value → World → Prop) (vs : Nat → Value) (w : World) (i : Nat) : Prop := ∀ j, (deps .any ops i).contains j = true → T j (vs j) w
theorem Left.get {ops : Array Oper} {T : Nat → Value → World → Prop} {vs : Nat → Value} {w : World} {i : Nat} (h : Left ops T vs w i) (j : Nat) (hj : (deps .any ops i).contains j = true) : T j (vs j) w := h j hj

/-- What each operation of the head owes: run in whatever world, whatever the others have left, it leaves what is said of it. -/
def Owes (P : Program) (ops : Array Oper) (Q : Exit → Act → World → Prop) (R : World → World → Prop) (T : Nat → Value → World → Prop) (w1 : World) (A : (Nat → Value) → Act) (i : Nat) (o : Oper) : Prop :=
  ∀ vs w, R w1 w → Left ops T vs w i →
      ∀ K : Act → World → Prop, (∀ v w', R w w' → T i v w' → K ((A vs).put o.dst v) w') → if Region.wanted o (yielded ops (A vs).tmps) = true then Oper.wp P o (A vs) w K Q else K ((A vs).put o.dst undef) w

def OwesAll (P : Program) (ops : Array Oper) (Q : Exit → Act → World → Prop) (R : World → World → Prop) (T : Nat → Value → World → Prop) (w1 : World) (A : (Nat → Value) → Act) : List Nat → Prop
  | [] => True
  | i :: l => (∀ o, ops[i]? = some o → Owes P ops Q R T w1 A i o) ∧ OwesAll P ops Q R T w1 A l
theorem OwesAll.get {R : World → World → Prop} {T : Nat → Value → World → Prop} {w1 : World} {A : (Nat → Value) → Act} : ∀ {l : List Nat}, OwesAll P ops Q R T w1 A l → ∀ i ∈ l, ∀ o, ops[i]? = some o → Owes P ops Q R T w1 A i o
  | [], _, i, hi => by cases hi
  | k :: l, h, i, hi => by
    rcases List.mem_cons.1 hi with rfl | hi
    · exact h.1
    · exact OwesAll.get h.2 i hi

/-- From a state in which some have been taken first. -/
theorem wpAny_rely_lit {a : Act} {w : World} {l : List Oper} {listed0 : Array Bool} {fuel : Nat} (m : Nat) (ds : List (Nat × Option Tmp)) (hs : List Nat) (hds : ds.map (·.1) = hs) (hdB : dsB l.toArray ds = true) (R : World → World → Prop) (T : Nat → Value → World → Prop) (hB : relyB .any l.toArray listed0 hs m = true)
    (hf : fuel = l.length - m + hs.length)
    (hRr : ∀ w, R w w) (hRt : ∀ a b c, R a b → R b c → R a c) (hT : ∀ i, i ∈ hs → ∀ v w w', T i v w → R w w' → T i v w')
    (hT0 : ∀ i, i ∉ hs → ∀ v w, T i v w)
    (step : OwesAll P l.toArray Q R T w (fun vs => putsO ds vs a) hs)
    (fin : ∀ vs w', R w w' → (∀ j, T j (vs j) w') → wpList P l.toArray Q (l.drop m) (putsO ds vs a) w') :
    wpAny P .any l.toArray Q fuel listed0 a w := by
  have putsO_eq : ∀ vs, putsO ds vs a = puts l.toArray a vs hs := fun vs => by rw [Rely.putsO_eq (ops := l.toArray) ds vs a hdB, hds]
  have hB' := hB
  simp only [relyB, Bool.and_eq_true, decide_eq_true_eq] at hB'
  obtain ⟨⟨⟨⟨⟨⟨⟨hmn, _⟩, hhs⟩, _⟩, _⟩, _⟩, _⟩, hseq⟩ := hB'
  have hmn' : m ≤ l.length := by simpa using hmn
  have mem_hs : ∀ {i}, i ∈ hs → i < m := by
    intro i hi; rw [← hhs] at hi; simp at hi; exact hi.1
  rw [hf, show l.length = l.toArray.size by simp]
  have allT : ∀ {vs : Nat → Value} {w' : World}, (∀ j, j ∈ hs → T j (vs j) w') → ∀ j, T j (vs j) w' := by
    intro vs w' h j
    by_cases hj : j ∈ hs
    · exact h j hj
    · exact hT0 j hj _ _
  refine wpAny_rely m hs listed0 R hRr hRt T hT a w hB ?_ ?_
  · intro i hi vs w' hR hTs
    have hlt : i < l.length := by have := mem_hs hi; omega
    have ho : l.toArray[i]? = some l[i] := by simp [hlt]
    have h := step.get i hi _ ho vs w' hR (fun j hj => by
      by_cases hjh : j ∈ hs
      · exact hTs j hjh hj
      · exact hT0 j hjh _ _)
    unfold wpOp
    simp only [ho]
    have hd : dstOf l.toArray i = l[i].dst := by simp [dstOf, hlt]
    have := h (fun a' w'' => ∃ v, a' = (puts l.toArray a vs hs).put (dstOf l.toArray i) v ∧ R w' w'' ∧ T i v w'') (fun v w'' h1 h2 => ⟨v, by simp only [putsO_eq, hd], h1, h2⟩)
    simp only [putsO_eq] at this
    split
    · rename_i hw; rw [if_pos hw] at this; exact .inl this
    · rename_i hw; rw [if_neg hw] at this; exact this
  · intro vs w' hR hTs
    have := wpAny_of_seq (P := P) (ops := l.toArray) (md := .any) (Q' := Q) (l.drop m) m (doneTo m l.toArray.size) (puts l.toArray a vs hs) w' (fun j => by simp [List.getElem?_drop]) (by simpa using hseq)
      (by have := fin vs w' hR (allT hTs); rwa [putsO_eq] at this)
    simpa using this

/-- What is said of number i: the row of facts goes beside the row of numbers. -/
def Tof : List Nat → List (Value → World → Prop) → Nat → Value → World → Prop
  | h :: hs, t :: ts, i => if i = h then t else Tof hs ts i
  | _, _, _ => fun _ _ => True
/-- A fact that no step of R undoes. -/
def Stable (R : World → World → Prop) (t : Value → World → Prop) : Prop := ∀ v w w', t v w → R w w' → t v w'
theorem Tof_out : ∀ (hs : List Nat) (ts : List (Value → World → Prop)) (i : Nat), i ∉ hs → ∀ v w, Tof hs ts i v w
  | [], _, _, _, _, _ => by unfold Tof; trivial
  | h :: hs, [], _, _, _, _ => by unfold Tof; trivial
  | h :: hs, t :: ts, i, hi, v, w => by
    have h1 : i ≠ h := fun e => hi (e ▸ List.mem_cons_self ..)
    have h2 : i ∉ hs := fun e => hi (List.mem_cons_of_mem _ e)
    unfold Tof
    rw [if_neg h1]
    exact Tof_out hs ts i h2 v w
def AllStable (R : World → World → Prop) : List (Value → World → Prop) → Prop
  | [] => True
  | t :: ts => Stable R t ∧ AllStable R ts
theorem Tof_stable {R : World → World → Prop} : ∀ (hs : List Nat) (ts : List (Value → World → Prop)), AllStable R ts → ∀ i v w w', Tof hs ts i v w → R w w' → Tof hs ts i v w'
  | [], _, _, _, _, _, _, _, _ => by unfold Tof; trivial
  | h :: hs, [], _, _, _, _, _, _, _ => by unfold Tof; trivial
  | h :: hs, t :: ts, hst, i, v, w, w', hh, hR => by
    unfold Tof at hh ⊢
    split
    · rename_i he; rw [if_pos he] at hh; exact hst.1 v w w' hh hR
    · rename_i he; rw [if_neg he] at hh; exact Tof_stable hs ts hst.2 i v w w' hh hR

/-- At an operation without a guard. -/
theorem plain {o : Oper} {a : Act} {w : World} {K : Act → World → Prop} {y : Nat → Option Bool} {E : Prop} (hg : o.guard = none) (h : Oper.wp P o a w K Q) : if Region.wanted o y = true then Oper.wp P o a w K Q else E := by
  rw [if_pos (by simp [Region.wanted, hg])]; exact h

/-- **FOR USE**: from a state of a region that draws, in which what yields in whatever world has been taken first: hs: the numbers still to come of the first m; ts: what is said of each; the rest, from m on, comes in order. -/
theorem rely_use {a : Act} {w : World} {l : List Oper} {listed0 : Array Bool} {fuel : Nat} (m : Nat) (ds : List (Nat × Option Tmp)) (R : World → World → Prop) (ts : List (Value → World → Prop))
    (hRr : ∀ w, R w w) (hRt : ∀ a b c, R a b → R b c → R a c) (hst : AllStable R ts) (hB : (relyB .any l.toArray listed0 (ds.map (·.1)) m && dsB l.toArray ds) = true) (hf : fuel = l.length - m + ds.length)
    (step : OwesAll P l.toArray Q R (Tof (ds.map (·.1)) ts) w (fun vs => putsO ds vs a) (ds.map (·.1)))
    (fin : ∀ vs w', R w w' → (∀ j, Tof (ds.map (·.1)) ts j (vs j) w') → wpList P l.toArray Q (l.drop m) (putsO ds vs a) w') :
    wpAny P .any l.toArray Q fuel listed0 a w := by
  rw [Bool.and_eq_true] at hB
  exact wpAny_rely_lit m ds _ rfl hB.2 R (Tof (ds.map (·.1)) ts) hB.1 (by simpa using hf) hRr hRt (fun i _ => Tof_stable _ ts hst i) (fun i hi v w => Tof_out _ ts i hi v w) step fin
end
end Go.Rely
