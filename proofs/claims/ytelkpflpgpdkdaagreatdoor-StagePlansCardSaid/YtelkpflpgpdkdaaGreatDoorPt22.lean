/- Part 22 of what StageOrder and StagePlans ask: for every input each returns true, and its input reads as it did. No condition. -/
import Derived.Test.YtelkpflpgpdkdaaGreatDoorPt21
namespace Go.Sv
open Go Go.RowKit

/-- What the operands are, where c holds. -/
inductive TinS (c : Bool) (F : FL) : TL → TL → Prop
  | nil : TinS c F [] []
  | strip {x : Operand} {s : T} {l m : TL} (h : opT F x = some (.opt c s)) (r : TinS c F l m) : TinS c F ((x, .opt c s) :: l) ((x, s) :: m)
  | and {x : Operand} {b : Bool} {s : T} {l m : TL} (h : opT F x = some (.opt (c && b) s)) (r : TinS c F l m) : TinS c F ((x, .opt (c && b) s) :: l) ((x, .opt b s) :: m)
  | same {x : Operand} {s : T} {l m : TL} (h : opT F x = some s) (r : TinS c F l m) : TinS c F ((x, s) :: l) ((x, s) :: m)
theorem TinS.all {c : Bool} {F : FL} {l m : TL} (h : TinS c F l m) : Str c l m ∧ ∀ e ∈ l, Tell F e.1 e.2 := by
  induction h with
  | nil => exact ⟨.nil, nofun⟩
  | strip h r ih => exact ⟨.strip ih.1, fun e he => by
      rcases List.mem_cons.1 he with rfl | he
      · exact h
      · exact ih.2 e he⟩
  | and h r ih => exact ⟨.and ih.1, fun e he => by
      rcases List.mem_cons.1 he with rfl | he
      · exact h
      · exact ih.2 e he⟩
  | same h r ih => exact ⟨.same ih.1, fun e he => by
      rcases List.mem_cons.1 he with rfl | he
      · exact h
      · exact ih.2 e he⟩
section
variable {P : Program} {ops : Array Oper} {n : Nat} {d : Tmp} {op : Op} {ty t : TypeId} {pos : String} {af : Array Edge} {F : FL} {H H2 : HL} {acc : List Acc} {l : List Oper} {tin tin0 tin1 : TL} {out : T} {Fin : Nat → FL → HL → List Acc → Prop} {x y : Operand} {o' : Own} {κ : Nat}
/-- What guards. -/
inductive Gd (F : FL) (tj : Nat) : Bool → Bool → T → Prop
  | t {b : Bool} (h : look F tj = some (bT b)) : Gd F tj true b (bT b)
  | f {b : Bool} (h : look F tj = some (bT b)) : Gd F tj false (!b) (bT b)
  | ot {c b : Bool} (h : look F tj = some (.opt c (bT b))) : Gd F tj true (c && b) (.opt c (bT b))
  | of {c b : Bool} (h : look F tj = some (.opt c (bT b))) : Gd F tj false (c && !b) (.opt c (bT b))
theorem Gd.is {F : FL} {tj : Nat} {want c : Bool} {g : T} (h : Gd F tj want c g) : GdT g want c ∧ look F tj = some g := by
  cases h with
  | t h => exact ⟨gd_t, h⟩
  | f h => exact ⟨gd_f, h⟩
  | ot h => exact ⟨gd_ot, h⟩
  | of h => exact ⟨gd_of, h⟩
/-- An operation that is done where c holds. -/
theorem Ch.g {j tj : Nat} {want c : Bool} {g : T} (hj : (ops[j]?).bind (·.dst) = some tj := by rfl) (hg : Gd F tj want c g := by first | exact .t rfl | exact .f rfl | exact .ot rfl | exact .of rfl) (hs : TinS c F tin0 tin1 := by (repeat (first | exact TinS.nil | apply TinS.strip rfl | apply TinS.and rfl | apply TinS.same rfl))) (h : c = true → OpT P ops (mkO (some d) op ty pos af) n tin1 [] [] out [] n) (hk : out.keys = [] := by first | rfl | exact agD_keys)
    (r : Ch P ops Fin l n ((d, .opt c out) :: F) H (acc ++ [Rec.acc ⟨(.tmp tj, g) :: tin0, [], [], .opt c out, [], n, n⟩ (some d)])) : Ch P ops Fin (⟨some d, op, ty, pos, af, some (j, want)⟩ :: l) n F H acc :=
  .step _ [] [] _ [] n (.guard hj hg.is.1 h hs.all.1 fun _ _ => bel0 hk) (fun e he => by
    rcases List.mem_cons.1 he with rfl | he
    · exact hg.is.2
    · exact hs.all.2 e he) nofun H (fun _ => by rw [upd_nil]) r
theorem Ch.gr {j tj : Nat} {want c : Bool} {g : T} (hj : (ops[j]?).bind (·.dst) = some tj) (hg : Gd F tj want c g) (h : c = true → OpT P ops (mkO (some d) op ty pos af) n tin1 [(κ, o')] [] out [] n) (hs : TinS c F tin0 tin1) (hH : look H κ = some o') (hk : (∀ e ∈ tin1, Bel n e.2.keys) → Bel n (ownKeys [(κ, o')]) → Bel n out.keys)
    (r : Ch P ops Fin l n ((d, .opt c out) :: F) H (acc ++ [Rec.acc ⟨(.tmp tj, g) :: tin0, [(κ, o')], [], .opt c out, [], n, n⟩ (some d)])) : Ch P ops Fin (⟨some d, op, ty, pos, af, some (j, want)⟩ :: l) n F H acc :=
  .step _ [(κ, o')] [] _ [] n (.guard hj hg.is.1 h hs.all.1 hk) (fun e he => by
    rcases List.mem_cons.1 he with rfl | he
    · exact hg.is.2
    · exact hs.all.2 e he) (fun e he => by rw [List.append_nil, List.mem_singleton] at he; subst he; exact look_mem hH) H (fun _ => by rw [upd_nil]) r
theorem bel1 {κ n : Nat} (hk : Bel n (ownKeys [(κ, o')])) : κ < n := hk κ (List.mem_flatMap.2 ⟨_, List.mem_singleton.2 rfl, List.mem_cons_self ..⟩)
theorem bel2 {n : Nat} (hk : Bel n (ownKeys [(κ, o')])) : Bel n o'.keys := fun q hq => hk q (List.mem_flatMap.2 ⟨_, List.mem_singleton.2 rfl, List.mem_cons_of_mem _ hq⟩)
/-- A call, guarded. -/
theorem Ch.gc {f : FuncId} {xs : List Operand} {ts : List T} {tys : Array TypeId} {j tj : Nat} {want c : Bool} {g : T} (hj : (ops[j]?).bind (·.dst) = some tj := by rfl) (hg : Gd F tj want c g := by first | exact .t rfl | exact .f rfl | exact .ot rfl | exact .of rfl) (hc : c = true → ∀ n, Con P f ts [] n out [] n) (hl : xs.length = ts.length := by rfl) (hs : TinS c F tin0 (xs.zip ts) := by (repeat (first | exact TinS.nil | apply TinS.strip rfl | apply TinS.and rfl | apply TinS.same rfl))) (hk : out.keys = [] := by first | rfl | exact agD_keys)
    (r : Ch P ops Fin l n ((d, .opt c out) :: F) H (acc ++ [Rec.acc ⟨(.tmp tj, g) :: tin0, [], [], .opt c out, [], n, n⟩ (some d)])) : Ch P ops Fin (⟨some d, .call ⟨.value (.func f), xs.toArray, tys⟩, ty, pos, af, some (j, want)⟩ :: l) n F H acc := .g hj hg hs (fun h => .call (hc h) hl) hk r
/-- What is read of one's own box, guarded. -/
theorem Ch.gfO [Lays P] {j tj : Nat} {want cc : Bool} {g : T} {f k off ft o : Nat} {fl : List (Nat × Nat)} {z : List ZK} {lf : Lay} {c : C} {t' : TypeId} {cs : List C} (hj : (ops[j]?).bind (·.dst) = some tj := by rfl) (hg : Gd F tj want cc g := by first | exact .t rfl | exact .f rfl | exact .ot rfl | exact .of rfl) (hs : TinS cc F tin0 [(x, .one c)] := by (repeat (first | exact TinS.nil | apply TinS.strip rfl | apply TinS.and rfl | apply TinS.same rfl))) (hc : offC c = some (κ, o) := by rfl) (hH : look H κ = some (.box t' cs) := by rfl) (ht : lay P t = some ⟨.struct, k, fl, z⟩ := by rfl) (hf : fl[f]? = some (off, ft) := by rfl) (hl : lay P ft = some lf := by rfl) (hz : Nat.beq lf.size 0 = false := by rfl)
    (r : Ch P ops Fin l n ((d, .opt cc (.one (.ptr κ (o + off)))) :: F) H (acc ++ [Rec.acc ⟨(.tmp tj, g) :: tin0, [(κ, .box t' cs)], [], .opt cc (.one (.ptr κ (o + off))), [], n, n⟩ (some d)])) : Ch P ops Fin (⟨some d, .fieldAddr t x f, ty, pos, af, some (j, want)⟩ :: l) n F H acc :=
  .gr hj hg (fun _ => .fieldO hc ht hf hl hz) hs hH (fun _ h q hq => by rw [List.mem_singleton.1 hq]; exact bel1 h) r
theorem mem_get {cs : List C} {o κ : Nat} {c : C} (h : cs[o]? = some c) (hk : κ ∈ c.keys) : κ ∈ cs.flatMap C.keys := List.mem_flatMap.2 ⟨c, List.mem_of_getElem? h, hk⟩
theorem Ch.gl1 [Lays P] {j tj : Nat} {want cc : Bool} {g : T} {k o : Nat} {lk : LK} {fl : List (Nat × Nat)} {z : List ZK} {c c' : C} {t' : TypeId} {cs : List C} (hj : (ops[j]?).bind (·.dst) = some tj := by rfl) (hg : Gd F tj want cc g := by first | exact .t rfl | exact .f rfl | exact .ot rfl | exact .of rfl) (hs : TinS cc F tin0 [(x, .one c)] := by (repeat (first | exact TinS.nil | apply TinS.strip rfl | apply TinS.and rfl | apply TinS.same rfl))) (hc : offC c = some (κ, o) := by rfl) (hH : look H κ = some (.box t' cs) := by rfl) (ht : lay P t = some ⟨lk, k, fl, z⟩ := by rfl) (ha : lk.agg = false := by rfl) (hcs : cs[o]? = some c' := by rfl)
    (r : Ch P ops Fin l n ((d, .opt cc (.one c')) :: F) H (acc ++ [Rec.acc ⟨(.tmp tj, g) :: tin0, [(κ, .box t' cs)], [], .opt cc (.one c'), [], n, n⟩ (some d)])) : Ch P ops Fin (⟨some d, .load t x, ty, pos, af, some (j, want)⟩ :: l) n F H acc :=
  .gr hj hg (fun _ => .loadO1 hc ht ha hcs) hs hH (fun _ h q hq => bel2 h q (mem_get hcs hq)) r
theorem Ch.gla [Lays P] {j tj : Nat} {want cc : Bool} {g : T} {k o : Nat} {lk : LK} {fl : List (Nat × Nat)} {z : List ZK} {c : C} {t' : TypeId} {cs cs' : List C} (hj : (ops[j]?).bind (·.dst) = some tj := by rfl) (hg : Gd F tj want cc g := by first | exact .t rfl | exact .f rfl | exact .ot rfl | exact .of rfl) (hs : TinS cc F tin0 [(x, .one c)] := by (repeat (first | exact TinS.nil | apply TinS.strip rfl | apply TinS.and rfl | apply TinS.same rfl))) (hc : offC c = some (κ, o) := by rfl) (hH : look H κ = some (.box t' cs) := by rfl) (ht : lay P t = some ⟨lk, k, fl, z⟩ := by rfl) (ha : lk.agg = true := by rfl) (hcs : (cs.drop o).take k = cs' := by rfl) (hk : cs'.length = k := by rfl)
    (r : Ch P ops Fin l n ((d, .opt cc (.ag cs')) :: F) H (acc ++ [Rec.acc ⟨(.tmp tj, g) :: tin0, [(κ, .box t' cs)], [], .opt cc (.ag cs'), [], n, n⟩ (some d)])) : Ch P ops Fin (⟨some d, .load t x, ty, pos, af, some (j, want)⟩ :: l) n F H acc :=
  .gr hj hg (fun _ => .loadO hc ht ha hcs hk) hs hH (fun _ h q hq => bel2 h q (mem_drop_take (hcs ▸ hq))) r
/-- A call that writes what one owns: ks are the caller's keys for the contract's. -/
theorem Ch.ch {f : FuncId} {xs : List Operand} {ts : List T} {H0 H1 : HL} {n0 n1 : Nat} {tys : Array TypeId} (ks : List Nat) (hc : Con P f ts H0 n0 out H1 n1) (hl : xs.length = ts.length := by rfl) (hks : ks.length = n0 := by rfl) (hkn : ∀ k ∈ ks, k < n := by decide) (hnd : ks.Nodup := by decide) (hB : belH n0 H0 := by (repeat (first | exact belH_nil | refine belH_cons (blt_of (by rfl)) (by first | exact bel0 rfl | exact bel0 agD_keys | exact belR (by rfl)) ?_)))
    (hF : Tin F (xs.zip (ts.map (T.ren (sig n0 n ks)))) := by first | exact ⟨rfl, trivial⟩ | exact ⟨rfl, rfl, trivial⟩ | exact ⟨rfl, rfl, rfl, trivial⟩ | exact ⟨rfl, rfl, rfl, rfl, trivial⟩ | exact ⟨rfl, rfl, rfl, rfl, rfl, trivial⟩ | exact trivial) (hO : OutL (renH (sig n0 n ks) H0) H H2 := by (repeat (first | exact OutL.nil | apply OutL.cons | exact Out.here (by rfl) | (apply Out.there; rfl))))
    (r : Ch P ops Fin l (n + (n1 - n0)) ((d, out.ren (sig n0 n ks)) :: F) (renH (sig n0 n ks) H1 ++ H2) (acc ++ [Rec.acc ⟨xs.zip (ts.map (T.ren (sig n0 n ks))), [], renH (sig n0 n ks) H0, out.ren (sig n0 n ks), renH (sig n0 n ks) H1, n, n + (n1 - n0)⟩ (some d)])) : Ch P ops Fin (mkO (some d) (.call ⟨.value (.func f), xs.toArray, tys⟩) ty pos af :: l) n F H acc :=
  .step _ [] _ _ _ _ (.callH ks hc hl hks hkn hnd hB) hF.all (fun e he => hO.mem.1 e he) _ hO.upd r
theorem Ch.dyn {f : FuncId} {xs : List Operand} {ts : List T} {cs : List Cap} {H0 H1 : HL} {n0 n1 : Nat} {tys : Array TypeId} (ks : List Nat) (hc : Con P f (ts ++ cs.map capU) H0 n0 out H1 n1) (hl : xs.length = ts.length := by rfl) (hks : ks.length = n0 := by rfl) (hkn : ∀ k ∈ ks, k < n := by decide) (hnd : ks.Nodup := by decide) (hB : belH n0 H0 := by (repeat (first | exact belH_nil | refine belH_cons (blt_of (by rfl)) (by first | exact bel0 rfl | exact bel0 agD_keys | exact belR (by rfl)) ?_)))
    (hcs : ∀ c ∈ cs, ∀ κ, c = .key κ → κ ∈ keys H0 := by simp [keys])
    (hF : Tin F ((x, .one (.clo f (cs.map (Cap.ren (sig n0 n ks))))) :: xs.zip (ts.map (T.ren (sig n0 n ks)))) := by first | exact ⟨rfl, trivial⟩ | exact ⟨rfl, rfl, trivial⟩ | exact ⟨rfl, rfl, rfl, trivial⟩ | exact ⟨rfl, rfl, rfl, rfl, trivial⟩) (hO : OutL (renH (sig n0 n ks) H0) H H2 := by (repeat (first | exact OutL.nil | apply OutL.cons | exact Out.here (by rfl) | (apply Out.there; rfl))))
    (r : Ch P ops Fin l (n + (n1 - n0)) ((d, out.ren (sig n0 n ks)) :: F) (renH (sig n0 n ks) H1 ++ H2) (acc ++ [Rec.acc ⟨(x, .one (.clo f (cs.map (Cap.ren (sig n0 n ks))))) :: xs.zip (ts.map (T.ren (sig n0 n ks))), [], renH (sig n0 n ks) H0, out.ren (sig n0 n ks), renH (sig n0 n ks) H1, n, n + (n1 - n0)⟩ (some d)])) : Ch P ops Fin (mkO (some d) (.call ⟨.value x, xs.toArray, tys⟩) ty pos af :: l) n F H acc :=
  .step _ [] _ _ _ _ (.dynH ks hc hl hks hkn hnd hB hcs) hF.all (fun e he => hO.mem.1 e he) _ hO.upd r
theorem OpT.clo' {d : Option Tmp} {f : FuncId} {xs : List Operand} {cs : List Cap} (hl : xs.length = cs.length := by rfl) : OpT P ops (mkO d (.makeFunc (.func f) #[] xs.toArray) ty pos af) n (xs.zip (cs.map capU)) [] [] (.one (.clo f cs)) [] n := .clo hl
variable [Lays P]
theorem Ch.ap {e k we : Nat} {fl : List (Nat × Nat)} {z : List ZK} {ls ls2 : List (List D)} {le : Lay} (hF : Tin F [(y, .one (.key κ)), (x, dT (sl k ls2))]) (hO : Out κ (.row e k ls) H H2 := by (repeat (first | exact Out.here (by rfl) | (apply Out.there; rfl)))) (ht : lay P t = some ⟨.slice e, we, fl, z⟩ := by rfl) (he : lay P e = some le := by rfl) (hk : le.size = k := by rfl) (hz : le.zero.length = k := by rfl) (hm : Nat.blt 0 ls2.length = true := by rfl) (hb : ls.length + ls2.length ≤ 34359738368)
    (r : Ch P ops Fin l (n + 1) ((d, .one (.key n)) :: F) ((n, .row e k (ls ++ ls2)) :: H2) (acc ++ [Rec.acc ⟨[(y, .one (.key κ)), (x, dT (sl k ls2))], [], [(κ, .row e k ls)], .one (.key n), [(n, .row e k (ls ++ ls2))], n, n + 1⟩ (some d)])) : Ch P ops Fin (mkO (some d) (.call ⟨.builtin .append, #[y, x], #[t, t]⟩) ty pos af :: l) n F H acc :=
  .step _ [] _ _ _ _ (.append ht he hk hz hm hb) hF.all (fun f hf => by rw [List.nil_append, List.mem_singleton] at hf; subst hf; exact hO.mem.1) _ (OutL.upd (l' := [(n, .row e k (ls ++ ls2))]) (.cons hO .nil)) r
theorem Ch.bd {k : Nat} {fl : List (Nat × Nat)} {zs : List ZK} {xs : List (Nat × Operand)} {ss : List T} {cs : List C} (hl : xs.length = ss.length) (hF : Tin F ((xs.map (·.2)).zip ss)) (ht : lay P t = some ⟨.struct, k, fl, zs⟩ := by rfl) (hB : fldsB P fl = true := by rfl) (hb : buildC P fl (zeroC zs) ((xs.map (·.1)).zip ss) = some cs := by rfl)
    (r : Ch P ops Fin l n ((d, .ag cs) :: F) H (acc ++ [Rec.acc ⟨(xs.map (·.2)).zip ss, [], [], .ag cs, [], n, n⟩ (some d)])) : Ch P ops Fin (mkO (some d) (.build t xs.toArray) ty pos af :: l) n F H acc := .p (.build hl hb ht hB) hF r
theorem Ch.bd0 {k : Nat} {fl : List (Nat × Nat)} {zs : List ZK} {cs : List C} (hF : Tin F []) (ht : lay P t = some ⟨.struct, k, fl, zs⟩ := by rfl) (hB : fldsB P fl = true := by rfl) (hb : buildC P fl (zeroC zs) [] = some cs := by rfl)
    (r : Ch P ops Fin l n ((d, .ag cs) :: F) H (acc ++ [Rec.acc ⟨[], [], [], .ag cs, [], n, n⟩ (some d)])) : Ch P ops Fin (mkO (some d) (.build t #[]) ty pos af :: l) n F H acc := .bd (xs := []) (ss := []) rfl hF ht hB hb r
theorem Ch.bd1 {i0 : Nat} {x0 : Operand} {s0 : T} {k : Nat} {fl : List (Nat × Nat)} {zs : List ZK} {cs : List C} (hF : Tin F [(x0, s0)]) (ht : lay P t = some ⟨.struct, k, fl, zs⟩ := by rfl) (hB : fldsB P fl = true := by rfl) (hb : buildC P fl (zeroC zs) [(i0, s0)] = some cs := by rfl)
    (r : Ch P ops Fin l n ((d, .ag cs) :: F) H (acc ++ [Rec.acc ⟨[(x0, s0)], [], [], .ag cs, [], n, n⟩ (some d)])) : Ch P ops Fin (mkO (some d) (.build t #[(i0, x0)]) ty pos af :: l) n F H acc := .bd (xs := [(i0, x0)]) (ss := [s0]) rfl hF ht hB hb r
theorem Ch.bd2 {i0 i1 : Nat} {x0 x1 : Operand} {s0 s1 : T} {k : Nat} {fl : List (Nat × Nat)} {zs : List ZK} {cs : List C} (hF : Tin F [(x0, s0), (x1, s1)]) (ht : lay P t = some ⟨.struct, k, fl, zs⟩ := by rfl) (hB : fldsB P fl = true := by rfl) (hb : buildC P fl (zeroC zs) [(i0, s0), (i1, s1)] = some cs := by rfl)
    (r : Ch P ops Fin l n ((d, .ag cs) :: F) H (acc ++ [Rec.acc ⟨[(x0, s0), (x1, s1)], [], [], .ag cs, [], n, n⟩ (some d)])) : Ch P ops Fin (mkO (some d) (.build t #[(i0, x0), (i1, x1)]) ty pos af :: l) n F H acc := .bd (xs := [(i0, x0), (i1, x1)]) (ss := [s0, s1]) rfl hF ht hB hb r
theorem Ch.bd3 {i0 i1 i2 : Nat} {x0 x1 x2 : Operand} {s0 s1 s2 : T} {k : Nat} {fl : List (Nat × Nat)} {zs : List ZK} {cs : List C} (hF : Tin F [(x0, s0), (x1, s1), (x2, s2)]) (ht : lay P t = some ⟨.struct, k, fl, zs⟩ := by rfl) (hB : fldsB P fl = true := by rfl) (hb : buildC P fl (zeroC zs) [(i0, s0), (i1, s1), (i2, s2)] = some cs := by rfl)
    (r : Ch P ops Fin l n ((d, .ag cs) :: F) H (acc ++ [Rec.acc ⟨[(x0, s0), (x1, s1), (x2, s2)], [], [], .ag cs, [], n, n⟩ (some d)])) : Ch P ops Fin (mkO (some d) (.build t #[(i0, x0), (i1, x1), (i2, x2)]) ty pos af :: l) n F H acc := .bd (xs := [(i0, x0), (i1, x1), (i2, x2)]) (ss := [s0, s1, s2]) rfl hF ht hB hb r
theorem Ch.bd4 {i0 i1 i2 i3 : Nat} {x0 x1 x2 x3 : Operand} {s0 s1 s2 s3 : T} {k : Nat} {fl : List (Nat × Nat)} {zs : List ZK} {cs : List C} (hF : Tin F [(x0, s0), (x1, s1), (x2, s2), (x3, s3)]) (ht : lay P t = some ⟨.struct, k, fl, zs⟩ := by rfl) (hB : fldsB P fl = true := by rfl) (hb : buildC P fl (zeroC zs) [(i0, s0), (i1, s1), (i2, s2), (i3, s3)] = some cs := by rfl)
    (r : Ch P ops Fin l n ((d, .ag cs) :: F) H (acc ++ [Rec.acc ⟨[(x0, s0), (x1, s1), (x2, s2), (x3, s3)], [], [], .ag cs, [], n, n⟩ (some d)])) : Ch P ops Fin (mkO (some d) (.build t #[(i0, x0), (i1, x1), (i2, x2), (i3, x3)]) ty pos af :: l) n F H acc := .bd (xs := [(i0, x0), (i1, x1), (i2, x2), (i3, x3)]) (ss := [s0, s1, s2, s3]) rfl hF ht hB hb r
theorem Ch.bd5 {i0 i1 i2 i3 i4 : Nat} {x0 x1 x2 x3 x4 : Operand} {s0 s1 s2 s3 s4 : T} {k : Nat} {fl : List (Nat × Nat)} {zs : List ZK} {cs : List C} (hF : Tin F [(x0, s0), (x1, s1), (x2, s2), (x3, s3), (x4, s4)]) (ht : lay P t = some ⟨.struct, k, fl, zs⟩ := by rfl) (hB : fldsB P fl = true := by rfl) (hb : buildC P fl (zeroC zs) [(i0, s0), (i1, s1), (i2, s2), (i3, s3), (i4, s4)] = some cs := by rfl)
    (r : Ch P ops Fin l n ((d, .ag cs) :: F) H (acc ++ [Rec.acc ⟨[(x0, s0), (x1, s1), (x2, s2), (x3, s3), (x4, s4)], [], [], .ag cs, [], n, n⟩ (some d)])) : Ch P ops Fin (mkO (some d) (.build t #[(i0, x0), (i1, x1), (i2, x2), (i3, x3), (i4, x4)]) ty pos af :: l) n F H acc := .bd (xs := [(i0, x0), (i1, x1), (i2, x2), (i3, x3), (i4, x4)]) (ss := [s0, s1, s2, s3, s4]) rfl hF ht hB hb r
theorem Ch.bd6 {i0 i1 i2 i3 i4 i5 : Nat} {x0 x1 x2 x3 x4 x5 : Operand} {s0 s1 s2 s3 s4 s5 : T} {k : Nat} {fl : List (Nat × Nat)} {zs : List ZK} {cs : List C} (hF : Tin F [(x0, s0), (x1, s1), (x2, s2), (x3, s3), (x4, s4), (x5, s5)]) (ht : lay P t = some ⟨.struct, k, fl, zs⟩ := by rfl) (hB : fldsB P fl = true := by rfl) (hb : buildC P fl (zeroC zs) [(i0, s0), (i1, s1), (i2, s2), (i3, s3), (i4, s4), (i5, s5)] = some cs := by rfl)
    (r : Ch P ops Fin l n ((d, .ag cs) :: F) H (acc ++ [Rec.acc ⟨[(x0, s0), (x1, s1), (x2, s2), (x3, s3), (x4, s4), (x5, s5)], [], [], .ag cs, [], n, n⟩ (some d)])) : Ch P ops Fin (mkO (some d) (.build t #[(i0, x0), (i1, x1), (i2, x2), (i3, x3), (i4, x4), (i5, x5)]) ty pos af :: l) n F H acc := .bd (xs := [(i0, x0), (i1, x1), (i2, x2), (i3, x3), (i4, x4), (i5, x5)]) (ss := [s0, s1, s2, s3, s4, s5]) rfl hF ht hB hb r
theorem OpT.slice1' {d : Option Tmp} {e k we : Nat} {fl : List (Nat × Nat)} {z : List ZK} {s : T} {l : List D} {le : Lay} (hs : AsD s l := by first | exact .one _ | exact .ag _) (ht : lay P t = some ⟨.slice e, we, fl, z⟩ := by rfl) (he : lay P e = some le := by rfl) (hk : le.size = k := by rfl) (hlk : l.length = k := by rfl) (hz : le.zero.length = k := by rfl) (hb : (Nat.blt 0 k && Nat.ble k 1000) = true := by rfl) : OpT P ops (mkO d (.buildSlice t 1 #[(0, x)]) ty pos af) n [(x, s)] [] [] (dT (sl k [l])) [] n := .slice1 hs ht he hk hlk hz hb
theorem OpT.append0' {d : Option Tmp} {e k we : Nat} {fl : List (Nat × Nat)} {z : List ZK} {ls2 : List (List D)} {le : Lay} {h1 : Value.oneCell' (.slice none 0 0) = true} (ht : lay P t = some ⟨.slice e, we, fl, z⟩ := by rfl) (he : lay P e = some le := by rfl) (hk : le.size = k := by rfl) (hz : le.zero.length = k := by rfl) (hm : Nat.blt 0 ls2.length = true := by rfl) (hb : Nat.ble ls2.length 34359738368 = true := by rfl) :
    OpT P ops (mkO d (.call ⟨.builtin .append, #[y, x], #[t, t]⟩) ty pos af) n [(y, dT (lit (.slice none 0 0) h1)), (x, dT (sl k ls2))] [] [] (.one (.key n)) [(n, .row e k ls2)] (n + 1) := .append0 ht he hk hz hm (Nat.le_of_ble_eq_true hb)
end
/-- The walk stops ahead of region r. -/
structure Stop (r : Nat) : Prop where
theorem stopAt {cx : Cx} {n : Nat} {F : FL} {H : HL} {Q : Exit → Act → World → Prop} {r : Nat} {l : Array Oper} {b : Bool} (_ : Stop r) (k : Wk cx n F H ((Code.region r l b).wp cx.P Q)) : Wk cx n F H ((Code.region r l b).wp cx.P Q) := k
/-- As far as it goes. -/
theorem GO {p q : Prop} (k : q) (h : Wr q → p := by
  intro K
  (repeat (first
    | with_reducible refine W.seq ?_
    | with_reducible refine Ch.endP ?_
    | with_reducible refine W.thenN ?_
    | with_reducible refine W.block ?_
    | with_reducible refine W.exit ?_
    | with_reducible refine W.skip ?_
    | with_reducible refine W.ret ?_
    | with_reducible refine W.thenR ?_
    | with_reducible refine W.thenX ?_
    | with_reducible refine W.inN ?_
    | with_reducible refine W.inR ?_
    | with_reducible refine W.inB ?_
    | with_reducible refine W.outB (by rfl) ?_
    | ((with_reducible show Wk _ _ _ _ (Code.wp _ (.region _ _ false) _)); (fail_if_success (refine stopAt (by assumption) ?_)); refine W.reg (by rfl) ?_)
    | ((with_reducible show Wk _ _ _ _ (Code.wp _ (.region _ _ true) _)); (fail_if_success (refine stopAt (by assumption) ?_)); refine W.draw (by rfl) (by kernel_rfl) ?_)
    | ((with_reducible show Wk _ _ _ _ (Code.wp _ (.cond _ _ _) _)); first | refine W.condDT rfl (by first | assumption | omega) ?_ | refine W.condDF rfl (by first | assumption | omega) ?_ | refine W.condNT rfl (by first | assumption | omega) ?_ | refine W.condNF rfl (by first | assumption | omega) ?_ | refine W.condBT rfl (by first | assumption | rfl) ?_ | refine W.condBF rfl (by first | assumption | rfl) ?_)
    | ((with_reducible show Ch _ _ _ (⟨_, .move _, _, _, _, none⟩ :: _) _ _ _ _); first | refine Ch.p OpT.move ⟨rfl, trivial⟩ ?_)
    | ((with_reducible show Ch _ _ _ (⟨_, .assign _, _, _, _, none⟩ :: _) _ _ _ _); first | refine Ch.p OpT.assign ⟨rfl, trivial⟩ ?_)
    | ((with_reducible show Ch _ _ _ (⟨_, .load _ _, _, _, _, none⟩ :: _) _ _ _ _); first | refine Ch.p OpT.loadAg ⟨rfl, trivial⟩ ?_ | refine Ch.p OpT.load1 ⟨rfl, trivial⟩ ?_ | refine Ch.loadO (hF := ⟨rfl, trivial⟩) (r := ?_) | refine Ch.loadO1 (hF := ⟨rfl, trivial⟩) (r := ?_))
    | ((with_reducible show Ch _ _ _ (⟨_, .fieldAddr _ _ _, _, _, _, none⟩ :: _) _ _ _ _); first | refine Ch.p OpT.fieldA ⟨rfl, trivial⟩ ?_ | refine Ch.fieldO (hF := ⟨rfl, trivial⟩) (r := ?_) | refine Ch.p OpT.fieldP ⟨rfl, trivial⟩ ?_)
    | ((with_reducible show Ch _ _ _ (⟨_, .binOp _ _ _ _ _, _, _, _, none⟩ :: _) _ _ _ _); first | refine Ch.p OpT.cmp ⟨rfl, rfl, trivial⟩ ?_ | refine Ch.p (OpT.ar (hr := by omega)) ⟨rfl, rfl, trivial⟩ ?_ | refine Ch.p OpT.cmpS ⟨rfl, rfl, trivial⟩ ?_ | refine Ch.p OpT.eqNil ⟨rfl, rfl, trivial⟩ ?_ | refine Ch.r OpT.eqNilO ⟨rfl, rfl, trivial⟩ rfl ?_)
    | ((with_reducible show Ch _ _ _ (⟨_, .store _ _ _, _, _, _, none⟩ :: _) _ _ _ _); first | refine Ch.store (hF := ⟨rfl, rfl, trivial⟩) (r := ?_))
    | ((with_reducible show Ch _ _ _ (⟨_, .indexAddr _ _ _, _, _, _, none⟩ :: _) _ _ _ _); first | refine Ch.p OpT.indexR ⟨rfl, rfl, trivial⟩ ?_)
    | ((with_reducible show Ch _ _ _ (⟨_, .extract _ _, _, _, _, none⟩ :: _) _ _ _ _); first | refine Ch.p OpT.extract ⟨rfl, trivial⟩ ?_)
    | ((with_reducible show Ch _ _ _ (⟨_, .box _ _, _, _, _, none⟩ :: _) _ _ _ _); first | refine Ch.nw OpT.box ⟨rfl, trivial⟩ ?_)
    | ((with_reducible show Ch _ _ _ (⟨_, .alloc _, _, _, _, none⟩ :: _) _ _ _ _); first | refine Ch.nw OpT.alloc trivial ?_)
    | ((with_reducible show Ch _ _ _ (⟨_, .pick _ _ _, _, _, _, none⟩ :: _) _ _ _ _); first | refine Ch.p OpT.pickAnd ⟨rfl, rfl, trivial⟩ ?_ | refine Ch.p OpT.pickOr ⟨rfl, rfl, trivial⟩ ?_)
    | ((with_reducible show Ch _ _ _ (⟨_, .call ⟨.builtin .len, _, _⟩, _, _, _, none⟩ :: _) _ _ _ _); first | refine Ch.p OpT.lenR ⟨rfl, trivial⟩ ?_ | refine Ch.p OpT.lenS ⟨rfl, trivial⟩ ?_ | refine Ch.r OpT.lenO ⟨rfl, trivial⟩ rfl ?_)
    | ((with_reducible show Ch _ _ _ (⟨_, .call ⟨.builtin .append, _, _⟩, _, _, _, none⟩ :: _) _ _ _ _); first | refine Ch.nw OpT.append0' ⟨rfl, rfl, trivial⟩ ?_ | refine Ch.r OpT.appendE ⟨rfl, rfl, trivial⟩ rfl ?_ | refine Ch.nw (OpT.appendF' (hb := by first | omega | (simp only [List.length_map, List.length_cons, List.length_nil]; omega))) ⟨rfl, rfl, trivial⟩ ?_ | refine Ch.ap (hF := ⟨rfl, rfl, trivial⟩) (hb := by first | omega | (simp only [List.length_map, List.length_cons, List.length_nil]; omega)) (r := ?_))
    | ((with_reducible show Ch _ _ _ (⟨_, .call ⟨.builtin .max, _, _⟩, _, _, _, none⟩ :: _) _ _ _ _); first | refine Ch.p OpT.max ⟨rfl, rfl, trivial⟩ ?_)
    | ((with_reducible show Ch _ _ _ (⟨_, .field _ _ _, _, _, _, none⟩ :: _) _ _ _ _); first | refine Ch.p OpT.field1 ⟨rfl, trivial⟩ ?_)
    | ((with_reducible show Ch _ _ _ (⟨_, .unOp _ _ _, _, _, _, none⟩ :: _) _ _ _ _); first | refine Ch.p OpT.not ⟨rfl, trivial⟩ ?_ | refine Ch.p (OpT.neg (hr := by omega)) ⟨rfl, trivial⟩ ?_)
    | ((with_reducible show Ch _ _ _ (⟨_, .build _ _, _, _, _, none⟩ :: _) _ _ _ _); first | refine Ch.bd0 trivial (r := ?_) | refine Ch.bd1 ⟨rfl, trivial⟩ (r := ?_) | refine Ch.bd2 ⟨rfl, rfl, trivial⟩ (r := ?_) | refine Ch.bd3 ⟨rfl, rfl, rfl, trivial⟩ (r := ?_) | refine Ch.bd4 ⟨rfl, rfl, rfl, rfl, trivial⟩ (r := ?_) | refine Ch.bd5 ⟨rfl, rfl, rfl, rfl, rfl, trivial⟩ (r := ?_) | refine Ch.bd6 ⟨rfl, rfl, rfl, rfl, rfl, rfl, trivial⟩ (r := ?_))
    | ((with_reducible show Ch _ _ _ (⟨_, .buildSlice _ _ _, _, _, _, none⟩ :: _) _ _ _ _); first | refine Ch.p OpT.slice1' ⟨rfl, trivial⟩ ?_ | refine Ch.nw OpT.slice0 trivial ?_)
    | ((with_reducible show Ch _ _ _ (⟨_, .slice _ _ none (some _) (some _), _, _, _, none⟩ :: _) _ _ _ _); first | refine Ch.p OpT.clip ⟨rfl, rfl, rfl, trivial⟩ ?_)
    | ((with_reducible show Ch _ _ _ (⟨_, .makeFunc _ _ _, _, _, _, none⟩ :: _) _ _ _ _); first | refine Ch.p OpT.cloD0 trivial ?_ | refine Ch.p OpT.cloD1 ⟨rfl, trivial⟩ ?_ | refine Ch.p OpT.clo' ⟨rfl, rfl, trivial⟩ ?_ | refine Ch.p OpT.clo' ⟨rfl, rfl, rfl, trivial⟩ ?_ | refine Ch.p OpT.clo' trivial ?_)
    | ((with_reducible show Ch _ _ _ (⟨_, .nilCheck _, _, _, _, none⟩ :: _) _ _ _ _); first | refine Ch.r (OpT.nilChk rfl) ⟨rfl, trivial⟩ rfl ?_ | refine Ch.p OpT.nilD ⟨rfl, trivial⟩ ?_ | refine Ch.p OpT.nilFD ⟨rfl, trivial⟩ ?_ | refine Ch.p OpT.nilF ⟨rfl, trivial⟩ ?_)
    | ((with_reducible show Ch _ _ _ (⟨_, .convert _ _ _, _, _, _, none⟩ :: _) _ _ _ _); first | refine Ch.p (OpT.conv (hr := by first | rfl | (simp only [IntKind.wrap]; omega))) ⟨rfl, trivial⟩ ?_)
    | ((with_reducible show Ch _ _ _ (⟨_, .index _ _ _, _, _, _, none⟩ :: _) _ _ _ _); first | refine Ch.p OpT.byteAt ⟨rfl, rfl, trivial⟩ ?_)
    | ((with_reducible show Ch _ _ _ (⟨_, .move _, _, _, _, some _⟩ :: _) _ _ _ _); first | refine Ch.g (h := fun _ => OpT.move) (r := ?_))
    | ((with_reducible show Ch _ _ _ (⟨_, .binOp _ _ _ _ _, _, _, _, some _⟩ :: _) _ _ _ _); first | refine Ch.g (h := fun _ => OpT.cmp) (r := ?_) | refine Ch.g (h := fun _ => OpT.cmpS) (r := ?_) | refine Ch.g (h := fun _ => (OpT.ar (hr := by omega))) (r := ?_))
    | ((with_reducible show Ch _ _ _ (⟨_, .load _ _, _, _, _, some _⟩ :: _) _ _ _ _); first | refine Ch.g (h := fun _ => OpT.loadAg) (r := ?_) | refine Ch.g (h := fun _ => OpT.load1) (r := ?_) | refine Ch.gla (r := ?_) | refine Ch.gl1 (r := ?_))
    | ((with_reducible show Ch _ _ _ (⟨_, .fieldAddr _ _ _, _, _, _, some _⟩ :: _) _ _ _ _); first | refine Ch.g (h := fun _ => OpT.fieldA) (r := ?_) | refine Ch.gfO (r := ?_))
    | ((with_reducible show Ch _ _ _ (⟨_, .pick _ _ _, _, _, _, some _⟩ :: _) _ _ _ _); first | refine Ch.g (h := fun _ => OpT.pickAnd) (r := ?_) | refine Ch.g (h := fun _ => OpT.pickOr) (r := ?_))
    | ((with_reducible show Ch _ _ _ (⟨_, .call ⟨.builtin .len, _, _⟩, _, _, _, some _⟩ :: _) _ _ _ _); first | refine Ch.g (h := fun _ => OpT.lenR) (r := ?_) | refine Ch.g (h := fun _ => OpT.lenS) (r := ?_))
    | ((with_reducible show Ch _ _ _ (⟨_, .indexAddr _ _ _, _, _, _, some _⟩ :: _) _ _ _ _); first | refine Ch.g (h := fun _ => OpT.indexR) (r := ?_))
    | ((with_reducible show Ch _ _ _ (⟨_, .unOp _ _ _, _, _, _, some _⟩ :: _) _ _ _ _); first | refine Ch.g (h := fun _ => OpT.not) (r := ?_))
    | ((with_reducible show Ch _ _ _ (⟨_, .extract _ _, _, _, _, some _⟩ :: _) _ _ _ _); first | refine Ch.g (h := fun _ => OpT.extract) (r := ?_))
    | ((with_reducible show Ch _ _ _ (⟨_, .index _ _ _, _, _, _, some _⟩ :: _) _ _ _ _); first | refine Ch.g (h := fun _ => OpT.byteAt) (r := ?_))
    | refine Ch.endD (by kernel_rfl) ?_))
  exact K.out) : p := h ⟨k⟩
end Go.Sv
namespace Go.Sv
open Go Go.RowKit

def belA (n : Nat) (l : List T) : Prop := ∀ t ∈ l, Bel n t.keys
theorem belA_nil {n : Nat} : belA n [] := nofun
theorem belA_cons {n : Nat} {t : T} {l : List T} (h : Bel n t.keys) (k : belA n l) : belA n (t :: l) := fun x hx => by
  rcases List.mem_cons.1 hx with rfl | hx
  · exact h
  · exact k x hx
theorem fnH {P : Program} {f : FuncId} {fn : Func} {c : Code} {args : List T} {H0 H1 : HL} {n0 n1 : Nat} {out : T} {N : Nat} (hf : P.funcs[f]? = some fn) (hN : fn.ntmps = N) (hb : fn.body = some c := by rfl) (hnm : (fn.name == "runtime.NumGoroutine") = false := by kernel_rfl) (hn : Nat.ble args.length N = true := by rfl) (hn1 : Nat.ble n0 n1 = true := by rfl)
    (hk : belA n0 args := by (repeat (first | exact belA_nil | refine belA_cons (by first | exact bel0 rfl | exact bel0 agD_keys | exact belR (by rfl)) ?_)))
    (h : ∀ S w0 β0 X, Wk ⟨P, S, w0, n0, β0, X, N⟩ n0 (frame 0 args) H0 (c.wp P (bodyPost P fn (Post ⟨P, S, w0, n0, β0, X, N⟩ out H1 n1)))) : Con P f args H0 n0 out H1 n1 :=
  Con.enter hf hb hnm (by rw [hN]; exact Nat.le_of_ble_eq_true hn) (Nat.le_of_ble_eq_true hn1) hk (by rintro ⟨P', S, w0, n0', β0, X, N'⟩ rfl rfl rfl; subst hN; exact h S w0 β0 X)
section
variable {cx : Cx} {n n1 : Nat} {F : FL} {H H1 : HL} {fn : Func} {out : T} {r r2 : ResultVar} {u u2 : U}
theorem finH (hr : fn.results = #[r] := by rfl) (hu : resU cx.P F H r = some u := by rfl) (he : u.t = out := by rfl) (hk : Bel n1 out.keys := by first | exact bel0 rfl | exact bel0 agD_keys | exact belR (by rfl)) (hH : SubH H H1 := by (repeat (first | exact SubH.nil | refine SubH.cons rfl ?_)))
    (hb : belH n1 H1 := by (repeat (first | exact belH_nil | refine belH_cons (blt_of (by rfl)) (by first | exact bel0 rfl | exact bel0 agD_keys | exact belR (by rfl)) ?_))) : Wk cx n F H (bodyPost cx.P fn (Post cx out H1 n1) .ret) := by
  subst he
  exact W.fin (us := [u]) (by rw [hr]; simp [hu]) hk fun e he => ⟨(hb e he).1, (hb e he).2, hH.mem e he⟩
theorem finH2 (hr : fn.results = #[r, r2] := by rfl) (hu : resU cx.P F H r = some u := by rfl) (hu2 : resU cx.P F H r2 = some u2 := by rfl) (he : T.tup [u, u2] = out := by rfl) (hk : Bel n1 out.keys := by first | exact bel0 rfl | exact belR (by rfl)) (hH : SubH H H1 := by (repeat (first | exact SubH.nil | refine SubH.cons rfl ?_)))
    (hb : belH n1 H1 := by (repeat (first | exact belH_nil | refine belH_cons (blt_of (by rfl)) (by first | exact bel0 rfl | exact bel0 agD_keys | exact belR (by rfl)) ?_))) : Wk cx n F H (bodyPost cx.P fn (Post cx out H1 n1) .ret) := by
  subst he
  exact W.fin (us := [u, u2]) (by rw [hr]; simp [hu, hu2]) hk fun e he => ⟨(hb e he).1, (hb e he).2, hH.mem e he⟩
end
end Go.Sv
