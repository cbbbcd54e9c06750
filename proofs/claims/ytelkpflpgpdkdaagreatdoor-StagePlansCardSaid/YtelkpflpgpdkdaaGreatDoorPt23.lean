/- Part 23 of what StageOrder and StagePlans ask: for every input each returns true, and its input reads as it did. No condition. -/
import Derived.Test.YtelkpflpgpdkdaaGreatDoorPt16
import Derived.Test.YtelkpflpgpdkdaaGreatDoorPt22
namespace Go.Proofs.YtelkpflpgpdkdaaGreatDoor
open Go.Sv
theorem depths_take (l : List Doc) (k : Nat) (x : Doc) (h : l[k]? = some x) : Doc.depths (l.take (k + 1)) = max (Doc.depths (l.take k)) x.depth := by
  rw [List.take_add_one, h]; simp only [Option.toList_some, Doc.depths_append, Doc.depths]; omega
theorem sizes_take (l : List Doc) (k : Nat) (x : Doc) (h : l[k]? = some x) : Doc.sizes (l.take (k + 1)) = Doc.sizes (l.take k) + x.size := by
  rw [List.take_add_one, h]; simp only [Option.toList_some, Doc.sizes_append, Doc.sizes]; omega
theorem sizes_take_le (l : List Doc) (k : Nat) : Doc.sizes (l.take k) ≤ Doc.sizes l := by
  conv => rhs; rw [← List.take_append_drop k l, Doc.sizes_append]
  omega
set_option maxRecDepth 10000 in
theorem depthC (d : Doc) (hd : d.depth ≤ 1000000) : ∀ n, Con Tryz.prog 196 [agD (docF d)] [] n (iT d.depth) [] n := by
  have hd' := d.depth_kids
  refine fnI Tryz.func196 Tryz.ntmps196 (h := fun S w0 β0 X => ?_)
  refine GO ?_
  refine W.len 7 (h := fun hl => ?_)
  refine W.lp (· ≤ d.kids.length) (fun k => [(9, iT k), (3, iT (Doc.depths (d.kids.take k)))]) [(8, _), (7, _), (1, _)] (d.kids.length - ·) 0 (Nat.zero_le _) (round := fun k hk => ?_)
  by_cases hlt : k < d.kids.length
  · have hx := List.getElem?_eq_getElem hlt
    generalize d.kids[k] = x at hx
    have hdx := Doc.depth_le_depths (List.mem_of_getElem? hx)
    refine GO ?_
    refine Ch.c (depthC x (by omega)) (r := ?_)
    refine GO ?_
    rw [show (if (x.depth : Int) > Doc.depths (d.kids.take k) then (x.depth : Int) else Doc.depths (d.kids.take k)) = Doc.depths (d.kids.take (k + 1)) by rw [depths_take _ _ _ hx]; split <;> omega]
    exact W.ag (k + 1) hlt (by omega)
  · obtain rfl : k = d.kids.length := by omega
    rw [List.take_length]
    refine GO ?_
    exact fin1 (he := by rw [hd']; rfl)
termination_by d.depth
decreasing_by omega
set_option maxRecDepth 10000 in
theorem sizeC (d : Doc) (hd : d.size ≤ 1000000000) : ∀ n, Con Tryz.prog 197 [agD (docF d)] [] n (iT d.size) [] n := by
  have hd' := d.size_kids
  refine fnI Tryz.func197 Tryz.ntmps197 (h := fun S w0 β0 X => ?_)
  refine GO ?_
  refine W.len 7 (h := fun hl => ?_)
  refine W.lp (· ≤ d.kids.length) (fun k => [(9, iT k), (3, iT (Doc.sizes (d.kids.take k) + 1 : Nat))]) [(8, _), (7, _), (1, _)] (d.kids.length - ·) 0 (Nat.zero_le _) (round := fun k hk => ?_)
  have hle := sizes_take_le d.kids k
  by_cases hlt : k < d.kids.length
  · have hx := List.getElem?_eq_getElem hlt
    generalize d.kids[k] = x at hx
    have hdx := Doc.size_le_sizes (List.mem_of_getElem? hx)
    refine GO ?_
    refine Ch.c (sizeC x (by omega)) (r := ?_)
    refine GO ?_
    rw [show ((Doc.sizes (d.kids.take k) + 1 : Nat) : Int) + x.size = (Doc.sizes (d.kids.take (k + 1)) + 1 : Nat) by rw [sizes_take _ _ _ hx]; omega]
    exact W.ag (k + 1) hlt (by omega)
  · obtain rfl : k = d.kids.length := by omega
    rw [List.take_length]
    refine GO ?_
    exact fin1 (he := by rw [hd']; rfl)
termination_by d.size
decreasing_by omega
end Go.Proofs.YtelkpflpgpdkdaaGreatDoor
namespace Go.Proofs.YtelkpflpgpdkdaaGreatDoor
open Go.Sv
theorem emp (s : ByteArray) : (s.toList == (ByteArray.mk #[]).toList) = decide (s.size = 0) := by
  rw [str_nil2 (s := ByteArray.mk #[]) rfl, ← str_len s]
  cases s.toList <;> simp
theorem finB {cx : Cx} {n : Nat} {F : FL} {H : HL} {fn : Go.Func} {r : Go.ResultVar} {b b' : Bool} (hr : fn.results = #[r] := by rfl) (hu : resU cx.P F H r = some (.one (.d (bl b'))) := by rfl) (he : b' = b) : Wk cx n F H (bodyPost cx.P fn (Post cx (bT b) [] 0) .ret) := fin1 hr hu (by rw [he]; rfl) rfl
theorem finI {cx : Cx} {n : Nat} {F : FL} {H : HL} {fn : Go.Func} {r : Go.ResultVar} {b b' : Int} (hr : fn.results = #[r] := by rfl) (hu : resU cx.P F H r = some (.one (.d (i64 b'))) := by rfl) (he : b' = b) : Wk cx n F H (bodyPost cx.P fn (Post cx (iT b) [] 0) .ret) := fin1 hr hu (by rw [he]; rfl) rfl
set_option maxRecDepth 10000 in
theorem plainC (d : Doc) (h1 : d.keys.length ≤ 1000000) (h2 : d.kids.length ≤ 1000000) : ∀ n, Con Tryz.prog 210 [agD (docF d)] [] n (bT (plain d)) [] n := by
  refine fnI Tryz.func210 Tryz.ntmps210 (h := fun S w0 β0 X => ?_)
  by_cases k1 : d.kind = 1
  · refine GO ?_
    exact finB (he := by rw [emp]; grind [plain])
  by_cases k2 : d.kind = 2
  · refine GO ?_
    exact finB (he := by rw [emp]; grind [plain])
  by_cases k3 : d.kind = 3
  · refine GO ?_
    exact finB (he := by rw [emp]; grind [plain])
  by_cases k0 : (0 : Int) < (d.keys.length : Int) + d.kids.length
  · refine GO ?_
    exact finB (he := by grind [plain])
  by_cases k4 : d.kind = 4
  · refine GO ?_
    exact finB (he := by rw [emp]; grind [plain])
  by_cases k5 : d.kind = 5
  · refine GO ?_
    exact finB (he := by rw [emp]; grind [plain])
  by_cases k6 : d.kind = 6
  · refine GO ?_
    exact finB (he := by grind [plain])
  · refine GO ?_
    exact finB (he := by grind [plain])
end Go.Proofs.YtelkpflpgpdkdaaGreatDoor
namespace Go.Proofs.YtelkpflpgpdkdaaGreatDoor
open Go.Sv
set_option maxRecDepth 10000 in
theorem indexDocC {ls : List (List D)} {xs : List Doc} [Row ls Doc xs docF] (f : FuncId) (cs : List D) (p : Doc → Bool) (hc : ∀ x ∈ xs, ∀ n, Con Tryz.prog f ([agD (docF x)] ++ cs.map dT) [] n (bT (p x)) [] n) : ∀ n, Con Tryz.prog 240 [dT (sl 5 ls), dT (cloD f cs)] [] n (iT (idxOf p xs)) [] n := by
  refine fnI Tryz.func240 Tryz.ntmps240 (h := fun S w0 β0 X => ?_)
  refine GO ?_
  refine W.len 6 (h := fun hl => ?_)
  refine W.lp (fun k => k ≤ xs.length ∧ ∀ y ∈ xs.take k, p y = false) (fun k => [(8, iT k)]) [(7, _), (0, _), (1, _)] (xs.length - ·) 0 ⟨Nat.zero_le _, nofun⟩ (round := fun k hk => ?_)
  by_cases hlt : k < xs.length
  · have hx := List.getElem?_eq_getElem hlt
    generalize xs[k] = x at hx
    refine GO ?_
    refine Ch.dy (hc x (List.mem_of_getElem? hx)) (r := ?_)
    cases hp : p x
    · refine GO ?_
      exact W.ag (k + 1) ⟨hlt, take_all_succ hx hp hk.2⟩ (by omega)
    · refine GO ?_
      exact fin1 (he := by rw [idxOf_at hx hp hk.2]; rfl)
  · obtain rfl : k = xs.length := by omega
    refine GO ?_
    exact fin1 (he := by rw [idxOf_none fun y hy => hk.2 y (by rwa [List.take_length])]; rfl)
theorem byte_get {s : Str} {k : Nat} {c : UInt8} (h : s[k]? = some c) : s.data.toList[k]? = some c := by
  rw [← h]; simp [getElem?_def]; rfl
set_option maxRecDepth 10000 in
theorem nameC (s : Str) : ∀ n, Con Tryz.prog 45 [sT s] [] n (bT (nameOk s)) [] n := by
  refine fnI Tryz.func45 Tryz.ntmps45 (h := fun S w0 β0 X => ?_)
  cases hb : (s.toList == (ByteArray.mk #[]).toList || decide ((16 : Int) < (s.size : Int)))
  · refine GO ?_
    rw [emp] at hb
    have hz : s.size ≤ 16 := by grind
    refine W.lp (fun k => k ≤ s.size ∧ namesFrom 0 (s.data.toList.take k) = true) (fun k => [(15, iT k)]) [(14, _), (0, _)] (s.size - ·) 0 ⟨Nat.zero_le _, rfl⟩ (round := fun k hk => ?_)
    by_cases hlt : k < s.size
    · have hx : s[k]? = some s[k] := getElem?_pos s k hlt
      generalize s[k] = c at hx
      have hs := namesFrom_succ (byte_get hx)
      rw [hk.2, Bool.true_and] at hs
      refine GO ?_
      refine W.cond rfl (fun h => ?_) (fun h => ?_)
      · refine GO ?_
        exact finB (he := by
          have := namesFrom_false (l := s.data.toList) (k := k + 1) (by grind [nameAt])
          simp [nameOk, this])
      · refine GO ?_
        exact W.ag (k + 1) ⟨hlt, by grind [nameAt]⟩ (by omega)
    · obtain rfl : k = s.size := by omega
      refine GO ?_
      exact finB (he := by
        have := hk.2
        rw [List.take_of_length_le (by simp)] at this
        grind [nameOk])
  · refine GO ?_
    exact finB (he := by rw [emp] at hb; grind [nameOk])
theorem getD_at {α : Type} [Inhabited α] {l : List α} {j : Nat} (h : j < l.length) : l[j]? = some (l.getD j default) := by simp [h]
set_option maxRecDepth 10000 in
theorem keysC (d : Doc) (hb : d.keys.length ≤ 1000000) : ∀ n, Con Tryz.prog 211 [agD (docF d)] [] n (bT (keysOk (decide (d.kind = 1)) d.keys)) [] n := by
  refine fnI Tryz.func211 Tryz.ntmps211 (h := fun S w0 β0 X => ?_)
  refine GO ?_
  refine W.lp (fun k => k ≤ d.keys.length ∧ keysTo (decide (d.kind = 1)) d.keys k = true) (fun k => [(8, iT k)]) [(7, _), (6, _), (1, _)] (d.keys.length - ·) 0 ⟨Nat.zero_le _, rfl⟩ (round := fun k hk => ?_)
  by_cases hlt : k < d.keys.length
  · have hx := List.getElem?_eq_getElem hlt
    generalize d.keys[k] = x at hx
    have hxd : d.keys.getD k default = x := by simp [hx]
    have hs := keysTo_succ (decide (d.kind = 1)) d.keys k
    refine GO ?_
    refine Ch.g (h := fun hg => OpT.indexR (j := k - 1) (v := d.keys.getD (k - 1) default) (hij := by grind) (hj := getD_at (by omega))) (r := ?_)
    refine GO ?_
    refine Ch.gc (hc := fun _ => nameC x) (r := ?_)
    refine GO ?_
    refine W.cond rfl (fun h => ?_) (fun h => ?_)
    · refine GO ?_
      exact finB (he := by
        rw [keysTo_false hlt]
        grind [keyStep, sLe])
    · refine GO ?_
      exact W.ag (k + 1) ⟨hlt, by grind [keyStep, sLe]⟩ (by omega)
  · obtain rfl : k = d.keys.length := by omega
    refine GO ?_
    exact finB (he := by rw [keysOk, hk.2])
end Go.Proofs.YtelkpflpgpdkdaaGreatDoor
namespace Go.Proofs.YtelkpflpgpdkdaaGreatDoor
open Go.Sv
set_option maxRecDepth 10000 in
theorem containsDocC {ls : List (List D)} {xs : List Doc} [Row ls Doc xs docF] (f : FuncId) (cs : List D) (p : Doc → Bool) (hc : ∀ x ∈ xs, ∀ n, Con Tryz.prog f ([agD (docF x)] ++ cs.map dT) [] n (bT (p x)) [] n) : ∀ n, Con Tryz.prog 212 [dT (sl 5 ls), dT (cloD f cs)] [] n (bT (xs.any p)) [] n := by
  refine fnI Tryz.func212 Tryz.ntmps212 (h := fun S w0 β0 X => ?_)
  refine GO ?_
  refine Ch.c (indexDocC f cs p hc) (r := ?_)
  refine GO ?_
  exact finB (he := idxOf_nonneg p xs)
set_option maxRecDepth 10000 in
theorem rightC (d : Doc) (hd : d.fit) : ∀ n, Con Tryz.prog 198 [agD (docF d)] [] n (bT d.part) [] n := by
  have h1 : ∀ x ∈ d.kids, ∀ n, Con Tryz.prog 213 ([agD (docF x)] ++ [].map dT) [] n (bT (!x.part)) [] n := fun x hx => by
    have := mem_size hx
    refine fnI Tryz.func213 Tryz.ntmps213 (h := fun S w0 β0 X => ?_)
    refine GO ?_
    refine Ch.c (rightC x (hd.kid hx)) (r := ?_)
    refine GO ?_
    exact fin1
  refine fnI Tryz.func198 Tryz.ntmps198 (h := fun S w0 β0 X => ?_)
  refine GO ?_
  refine Ch.c (plainC d hd.keys hd.kids) (r := ?_)
  refine GO ?_
  refine Ch.gc (hc := fun _ => keysC d hd.keys) (r := ?_)
  refine GO ?_
  refine Ch.gc (hc := fun _ => containsDocC (xs := d.kids) _ [] (fun x => !x.part) h1) (r := ?_)
  refine GO ?_
  exact finB (he := by rw [d.part_kids, List.all_eq_not_any_not])
termination_by d.size
set_option maxRecDepth 10000 in
theorem docRightC (d : Doc) (hf : d.fit) : ∀ n, Con Tryz.prog 179 [agD (docF d)] [] n (bT d.right) [] n := by
  refine fnI Tryz.func179 Tryz.ntmps179 (h := fun S w0 β0 X => ?_)
  refine GO ?_
  refine Ch.c (depthC d (by have := hf.1; have := depth_le_size _ d (Nat.le_refl _); omega)) (r := ?_)
  refine GO ?_
  refine Ch.gc (hc := fun _ => sizeC d (by have := hf.1; omega)) (r := ?_)
  refine GO ?_
  refine Ch.gc (hc := fun _ => rightC d hf) (r := ?_)
  refine GO ?_
  exact finB (he := by rw [Doc.right]; grind)
end Go.Proofs.YtelkpflpgpdkdaaGreatDoor
namespace Go.Proofs.YtelkpflpgpdkdaaGreatDoor
open Go.Sv
namespace Typ
mutual
def fold (g : Nat → Nat → Nat) : Typ → Nat
  | mk _ _ _ _ fs of => foldTs g (foldFs g 0 fs) of + 1
def foldFs (g : Nat → Nat → Nat) (a : Nat) : List Fld → Nat
  | [] => a
  | f :: l => foldFs g (g a (foldF g f)) l
def foldF (g : Nat → Nat → Nat) : Fld → Nat
  | .mk _ _ t => fold g t
def foldTs (g : Nat → Nat → Nat) (a : Nat) : List Typ → Nat
  | [] => a
  | t :: l => foldTs g (g a (fold g t)) l
end
theorem fold_parts (g : Nat → Nat → Nat) (t : Typ) : fold g t = foldTs g (foldFs g 0 t.fields) t.of + 1 := by cases t; rfl
theorem foldF_typ (g : Nat → Nat → Nat) (f : Fld) : foldF g f = fold g f.typ := by cases f; rfl
theorem foldFs_app (g : Nat → Nat → Nat) (l m : List Fld) : ∀ a, foldFs g a (l ++ m) = foldFs g (foldFs g a l) m := by
  induction l with
  | nil => intro a; rfl
  | cons x l ih => intro a; simp only [List.cons_append, foldFs, ih]
theorem foldTs_app (g : Nat → Nat → Nat) (l m : List Typ) : ∀ a, foldTs g a (l ++ m) = foldTs g (foldTs g a l) m := by
  induction l with
  | nil => intro a; rfl
  | cons x l ih => intro a; simp only [List.cons_append, foldTs, ih]
theorem foldFs_take (g : Nat → Nat → Nat) {l : List Fld} {k : Nat} {x : Fld} (h : l[k]? = some x) (a : Nat) : foldFs g a (l.take (k + 1)) = g (foldFs g a (l.take k)) (fold g x.typ) := by
  rw [List.take_add_one, h, Option.toList_some, foldFs_app]; simp [foldFs, foldF_typ]
theorem foldTs_take (g : Nat → Nat → Nat) {l : List Typ} {k : Nat} {x : Typ} (h : l[k]? = some x) (a : Nat) : foldTs g a (l.take (k + 1)) = g (foldTs g a (l.take k)) (fold g x) := by
  rw [List.take_add_one, h, Option.toList_some, foldTs_app]; simp [foldTs]
mutual
theorem fold_add : ∀ t : Typ, fold (· + ·) t = t.size
  | mk _ _ _ _ fs of => by rw [fold, size, foldFs_add fs, foldTs_add of]; omega
theorem foldFs_add : ∀ (l : List Fld) (a : Nat), foldFs (· + ·) a l = a + sizeFs l
  | [], a => rfl
  | .mk _ _ t :: l, a => by rw [foldFs, foldF, sizeFs, sizeF, foldFs_add l, fold_add t]; omega
theorem foldTs_add : ∀ (l : List Typ) (a : Nat), foldTs (· + ·) a l = a + sizes l
  | [], a => rfl
  | t :: l, a => by rw [foldTs, sizes, foldTs_add l, fold_add t]; omega
end
mutual
theorem fold_max : ∀ t : Typ, fold max t = t.depth
  | mk _ _ _ _ fs of => by rw [fold, depth, foldFs_max fs, foldTs_max of]; omega
theorem foldFs_max : ∀ (l : List Fld) (a : Nat), foldFs max a l = max a (depthFs l)
  | [], a => by rw [foldFs, depthFs]; omega
  | .mk _ _ t :: l, a => by rw [foldFs, foldF, depthFs, depthF, foldFs_max l, fold_max t]; omega
theorem foldTs_max : ∀ (l : List Typ) (a : Nat), foldTs max a l = max a (depths l)
  | [], a => by rw [foldTs, depths]; omega
  | t :: l, a => by rw [foldTs, depths, foldTs_max l, fold_max t]; omega
end
mutual
theorem fold_le {g : Nat → Nat → Nat} (hg : ∀ a b, g a b ≤ a + b) : ∀ t : Typ, fold g t ≤ t.size
  | mk _ _ _ _ fs of => by have := foldTs_le hg of (foldFs g 0 fs); have := foldFs_le hg fs 0; rw [fold, size]; omega
theorem foldFs_le {g : Nat → Nat → Nat} (hg : ∀ a b, g a b ≤ a + b) : ∀ (l : List Fld) (a : Nat), foldFs g a l ≤ a + sizeFs l
  | [], a => by rw [foldFs]; omega
  | .mk _ _ t :: l, a => by have := fold_le hg t; have := hg a (fold g t); have := foldFs_le hg l (g a (fold g t)); rw [foldFs, foldF, sizeFs, sizeF]; omega
theorem foldTs_le {g : Nat → Nat → Nat} (hg : ∀ a b, g a b ≤ a + b) : ∀ (l : List Typ) (a : Nat), foldTs g a l ≤ a + sizes l
  | [], a => by rw [foldTs]; omega
  | t :: l, a => by have := fold_le hg t; have := hg a (fold g t); have := foldTs_le hg l (g a (fold g t)); rw [foldTs, sizes]; omega
end
theorem sizeFs_take_le (l : List Fld) (k : Nat) : sizeFs (l.take k) ≤ sizeFs l := by
  conv => rhs; rw [← List.take_append_drop k l, sizeFs_append]
  omega
theorem sizesT_take_le (l : List Typ) (k : Nat) : sizes (l.take k) ≤ sizes l := by
  conv => rhs; rw [← List.take_append_drop k l, sizes_append]
  omega
end Typ
abbrev foldCs (f : Go.FuncId) : List Cap := [.one (adr [cloD f []]), .key 0, .one (adr [i64 1])]
abbrev foldH (f : Go.FuncId) : HL := [(0, .box 203 [.clo 194 (foldCs f)])]
set_option maxRecDepth 10000 in
theorem fold1C {g : Nat → Nat → Nat} (hg : ∀ a b, g a b ≤ a + b) (f : Go.FuncId) (hf : ∀ a b : Nat, a + b ≤ 1000000 → ∀ n, Con Tryz.prog f ([iT a, iT b] ++ [].map dT) [] n (iT (g a b)) [] n) (t : Typ) (ht : t.size ≤ 1000000) : Con Tryz.prog 194 ([agD (typF t)] ++ (foldCs f).map capU) (foldH f) 1 (iT (t.fold g)) (foldH f) 1 := by
  refine fnH Tryz.func194 Tryz.ntmps194 (h := fun S w0 β0 X => ?_)
  have hp := t.size_parts
  refine GO ?_
  refine W.len 12 (h := fun hl => ?_)
  refine W.lp (· ≤ t.fields.length) (fun k => [(14, iT k), (6, iT (Typ.foldFs g 0 (t.fields.take k)))]) [(13, _), (12, _), (4, _), (1, _), (2, _), (3, _)] (t.fields.length - ·) 0 (Nat.zero_le _) (round := fun k hk => ?_)
  have ha := Typ.foldFs_le hg (t.fields.take k) 0
  have hb := Typ.sizeFs_take_le t.fields k
  by_cases hlt : k < t.fields.length
  · have hx := List.getElem?_eq_getElem hlt
    generalize t.fields[k] = x at hx
    have hm := Typ.sizeFs_mem (List.mem_of_getElem? hx)
    have hc := Typ.fold_le hg x.typ
    have hd := Typ.take_sizeFs hx
    have he := Typ.sizeFs_take_le t.fields (k + 1)
    refine GO ?_
    refine Ch.dyn [0] (fold1C hg f hf x.typ (by omega)) (r := ?_)
    refine GO ?_
    refine Ch.dy (ts := [_, _]) (cs := []) (hf (Typ.foldFs g 0 (t.fields.take k)) (x.typ.fold g) (by omega)) (r := ?_)
    refine GO ?_
    rw [← Typ.foldFs_take g hx]
    exact W.ag (k + 1) hlt (by omega)
  · obtain rfl : k = t.fields.length := by omega
    rw [List.take_length] at ha ⊢
    refine GO ?_
    refine W.len 27 (h := fun hl => ?_)
    refine W.lp (· ≤ t.of.length) (fun k => [(29, iT k), (6, iT (Typ.foldTs g (Typ.foldFs g 0 t.fields) (t.of.take k)))]) [(28, _), (27, _), (4, _), (1, _), (2, _), (3, _)] (t.of.length - ·) 0 (Nat.zero_le _) (round := fun k hk => ?_)
    have hc := Typ.foldTs_le hg (t.of.take k) (Typ.foldFs g 0 t.fields)
    have hb := Typ.sizesT_take_le t.of k
    by_cases hlt : k < t.of.length
    · have hx := List.getElem?_eq_getElem hlt
      generalize t.of[k] = x at hx
      have hm := Typ.sizes_mem (List.mem_of_getElem? hx)
      have hc := Typ.fold_le hg x
      have hd := Typ.take_sizes hx
      have he := Typ.sizesT_take_le t.of (k + 1)
      refine GO ?_
      refine Ch.dyn [0] (fold1C hg f hf x (by omega)) (r := ?_)
      refine GO ?_
      refine Ch.dy (ts := [_, _]) (cs := []) (hf (Typ.foldTs g (Typ.foldFs g 0 t.fields) (t.of.take k)) (x.fold g) (by omega)) (r := ?_)
      refine GO ?_
      rw [← Typ.foldTs_take g hx]
      exact W.ag (k + 1) hlt (by omega)
    · obtain rfl : k = t.of.length := by omega
      rw [List.take_length] at hc ⊢
      refine GO ?_
      exact finH (he := by rw [t.fold_parts]; rfl)
termination_by t.size
set_option maxRecDepth 10000 in
theorem foldC {g : Nat → Nat → Nat} (hg : ∀ a b, g a b ≤ a + b) (f : Go.FuncId) (hf : ∀ a b : Nat, a + b ≤ 1000000 → ∀ n, Con Tryz.prog f ([iT a, iT b] ++ [].map dT) [] n (iT (g a b)) [] n) (t : Typ) (ht : t.size ≤ 1000000) : ∀ n, Con Tryz.prog 172 [agD (typF t), iT 1, dT (cloD f [])] [] n (iT (t.fold g)) [] n := by
  refine fnI Tryz.func172 Tryz.ntmps172 (h := fun S w0 β0 X => ?_)
  have st : Stop 1 := ⟨⟩
  refine GO ?_
  clear st
  refine W.frzB 1 [i64 1] (h := ?_)
  refine W.frzB 2 [cloD f []] (h := ?_)
  refine GO ?_
  refine Ch.p (OpT.clo' (cs := [.one (adr [cloD f []]), .key 3, .one (adr [i64 1])])) ⟨rfl, rfl, rfl, trivial⟩ ?_
  refine GO ?_
  refine Ch.dyn [3] (fold1C hg f hf t ht) (r := ?_)
  refine GO ?_
  exact fin1
set_option maxRecDepth 10000 in
theorem sizeTC (t : Typ) (ht : t.size ≤ 1000000) : ∀ n, Con Tryz.prog 131 [agD (typF t)] [] n (iT t.size) [] n := by
  refine fnI Tryz.func131 Tryz.ntmps131 (h := fun S w0 β0 X => ?_)
  refine GO ?_
  refine Ch.c (foldC (g := (· + ·)) (fun _ _ => Nat.le_refl _) _ (fun a b hab => by
    refine fnI Tryz.func173 Tryz.ntmps173 (h := fun S w0 β0 X => ?_)
    refine GO ?_
    exact fin1) t ht) (r := ?_)
  refine GO ?_
  exact fin1 (he := by rw [← t.fold_add]; rfl)
set_option maxRecDepth 10000 in
theorem depthTC (t : Typ) (ht : t.size ≤ 1000000) : ∀ n, Con Tryz.prog 132 [agD (typF t)] [] n (iT t.depth) [] n := by
  refine fnI Tryz.func132 Tryz.ntmps132 (h := fun S w0 β0 X => ?_)
  refine GO ?_
  refine Ch.c (foldC (g := max) (fun _ _ => by omega) _ (fun a b hab => by
    refine fnI Tryz.func174 Tryz.ntmps174 (h := fun S w0 β0 X => ?_)
    refine GO ?_
    exact finI (he := by split <;> omega)) t ht) (r := ?_)
  refine GO ?_
  exact fin1 (he := by rw [← t.fold_max]; rfl)
end Go.Proofs.YtelkpflpgpdkdaaGreatDoor
namespace Go.Proofs.YtelkpflpgpdkdaaGreatDoor
open Go.Sv
set_option maxRecDepth 10000 in
theorem bareC (t : Typ) : ∀ n, Con Tryz.prog 175 [agD (typF t)] [] n (bT (bareT t)) [] n := by
  refine fnI Tryz.func175 Tryz.ntmps175 (h := fun S w0 β0 X => ?_)
  refine GO ?_
  refine W.cond rfl (fun h1 => ?_) (fun h1 => ?_)
  · refine GO ?_
    exact finB (he := by grind [bareT])
  refine GO ?_
  refine W.cond rfl (fun h2 => ?_) (fun h2 => ?_)
  · refine GO ?_
    exact finB (he := by grind [bareT])
  refine GO ?_
  refine W.cond rfl (fun h3 => ?_) (fun h3 => ?_)
  · refine GO ?_
    exact finB (he := by grind [bareT])
  refine GO ?_
  refine W.cond rfl (fun h4 => ?_) (fun h4 => ?_)
  · refine GO ?_
    exact finB (he := by grind [bareT])
  refine GO ?_
  exact finB (he := by simp at h1 h2 h3 h4; simp [bareT]; grind)
set_option maxRecDepth 10000 in
theorem namesC (l : List Str) (hb : l.length ≤ 1000000) : ∀ n, Con Tryz.prog 177 [dT (strsD l)] [] n (bT (namesOk l)) [] n := by
  refine fnI Tryz.func177 Tryz.ntmps177 (h := fun S w0 β0 X => ?_)
  refine GO ?_
  refine W.lp (fun k => k ≤ l.length ∧ keysTo false l k = true) (fun k => [(7, iT k)]) [(6, _), (5, _), (0, _)] (l.length - ·) 0 ⟨Nat.zero_le _, rfl⟩ (round := fun k hk => ?_)
  by_cases hlt : k < l.length
  · have hx := List.getElem?_eq_getElem hlt
    generalize l[k] = x at hx
    have hxd : l.getD k default = x := by simp [hx]
    have hs := keysTo_succ false l k
    refine GO ?_
    refine Ch.g (h := fun hg => OpT.indexR (j := k - 1) (v := l.getD (k - 1) default) (hij := by grind) (hj := getD_at (by omega))) (r := ?_)
    refine GO ?_
    refine W.cond rfl (fun h => ?_) (fun h => ?_)
    · refine GO ?_
      exact finB (he := by
        rw [namesOk, keysTo_false hlt]
        · rfl
        · grind [keyStep, sLe])
    · refine GO ?_
      exact W.ag (k + 1) ⟨hlt, by grind [keyStep, sLe]⟩ (by omega)
  · obtain rfl : k = l.length := by omega
    refine GO ?_
    exact finB (he := by grind [namesOk, keysOk])
set_option maxRecDepth 10000 in
theorem fieldsC (l : List Fld) (hb : l.length ≤ 1000000) (hr : ∀ f ∈ l, ∀ n, Con Tryz.prog 133 [agD (typF f.typ)] [] n (bT f.typ.part) [] n) : ∀ n, Con Tryz.prog 176 [dT (sl 8 (fldsC l))] [] n (bT (fieldsOk l)) [] n := by
  refine fnI Tryz.func176 Tryz.ntmps176 (h := fun S w0 β0 X => ?_)
  refine GO ?_
  refine W.lp (fun k => k ≤ l.length ∧ fldsTo l k = true ∧ ∀ f ∈ l.take k, f.typ.part = true) (fun k => [(7, iT k)]) [(6, _), (5, _), (0, _)] (l.length - ·) 0 ⟨Nat.zero_le _, rfl, nofun⟩ (round := fun k hk => ?_)
  by_cases hlt : k < l.length
  · have hx := List.getElem?_eq_getElem hlt
    generalize l[k] = x at hx
    have hp : l[k - 1]? = some (l[k - 1]'(by omega)) := List.getElem?_eq_getElem (by omega)
    generalize l[k - 1]'(by omega) = p at hp
    refine GO ?_
    refine Ch.c (nameC x.name) (r := ?_)
    refine GO ?_
    refine Ch.g (h := fun hg => OpT.indexR (j := k - 1) (hij := by grind) (hj := hp)) (r := ?_)
    refine GO ?_
    refine Ch.gc (hc := fun _ => hr x (List.mem_of_getElem? hx)) (r := ?_)
    refine GO ?_
    have hs := fldsTo_succ l k
    refine W.cond rfl (fun h => ?_) (fun h => ?_)
    · refine GO ?_
      exact finB (he := by
        by_cases hxp : x.typ.part = true
        · rw [fieldsOk, fldsTo_false hlt]
          · rfl
          · grind [fldStep, sLe]
        · have : (l.all fun f => f.typ.part) = false := List.all_eq_false.2 ⟨x, List.mem_of_getElem? hx, hxp⟩
          rw [fieldsOk, this, Bool.and_false])
    · refine GO ?_
      exact W.ag (k + 1) ⟨hlt, by grind [fldStep, sLe], fun f hf => by
        rw [List.take_add_one, hx] at hf
        grind⟩ (by omega)
  · obtain rfl : k = l.length := by omega
    refine GO ?_
    have ha : (l.all fun f => f.typ.part) = true := List.all_eq_true.2 fun f hf => hk.2.2 f (by rwa [List.take_length])
    exact finB (he := by rw [fieldsOk, hk.2.1, ha]; grind)
end Go.Proofs.YtelkpflpgpdkdaaGreatDoor
namespace Go.Proofs.YtelkpflpgpdkdaaGreatDoor
open Go.Sv
theorem one_of {α : Type} (l : List α) (a : α) : ∃ v, l.length = 1 → l = [v] := by
  match l with
  | [] => exact ⟨a, nofun⟩
  | [v] => exact ⟨v, fun _ => rfl⟩
  | _ :: _ :: _ => exact ⟨a, nofun⟩
set_option maxRecDepth 10000 in
theorem partTC (t : Typ) (hf : t.fit) : ∀ n, Con Tryz.prog 133 [agD (typF t)] [] n (bT t.part) [] n := by
  have hp := t.part_kids
  refine fnI Tryz.func133 Tryz.ntmps133 (h := fun S w0 β0 X => ?_)
  refine GO ?_
  refine Ch.c (bareC t) (r := ?_)
  cases hb : bareT t
  · refine GO ?_
    exact finB (he := by rw [hp, hb]; rfl)
  rw [hb, Bool.true_and] at hp
  by_cases k1 : t.kind = 1
  · refine GO ?_
    refine Ch.c (fieldsC t.fields hf.fields fun f hm => partTC f.typ (hf.fld hm)) (r := ?_)
    refine GO ?_
    exact finB (he := by rw [hp, if_pos k1]; rfl)
  by_cases k2 : t.kind = 2 ∨ t.kind = 3
  · obtain ⟨v, hv⟩ := one_of t.of t
    have hm : t.of.length = 1 → v ∈ t.of := fun h => by rw [hv h]; exact List.mem_singleton.2 rfl
    rcases k2 with k2 | k2
    · refine GO ?_
      refine Ch.g (h := fun hg => OpT.indexR (xs := t.of) (f := typF) (j := 0) (v := v) (hj := by rw [hv (by simp only [Bool.and_eq_true, decide_eq_true_eq] at hg; omega)]; rfl)) (r := ?_)
      refine GO ?_
      refine Ch.gc (hc := fun hg => partTC v (hf.kid (hm (by simp only [Bool.and_eq_true, decide_eq_true_eq] at hg; omega)))) (r := ?_)
      refine GO ?_
      exact finB (he := by
        rw [hp, if_neg k1, if_pos (by omega)]
        by_cases h1 : t.of.length = 1
        · rw [hv h1]; simp
        · simp [h1]; grind)
    · refine GO ?_
      refine Ch.g (h := fun hg => OpT.indexR (xs := t.of) (f := typF) (j := 0) (v := v) (hj := by rw [hv (by simp only [Bool.and_eq_true, decide_eq_true_eq] at hg; omega)]; rfl)) (r := ?_)
      refine GO ?_
      refine Ch.gc (hc := fun hg => partTC v (hf.kid (hm (by simp only [Bool.and_eq_true, decide_eq_true_eq] at hg; omega)))) (r := ?_)
      refine GO ?_
      exact finB (he := by
        rw [hp, if_neg k1, if_pos (by omega)]
        by_cases h1 : t.of.length = 1
        · rw [hv h1]; simp
        · simp [h1]; grind)
  have k3 : ¬ t.kind = 2 := by omega
  have k4 : ¬ t.kind = 3 := by omega
  by_cases k5 : t.kind = 4
  · refine GO ?_
    exact finB (he := by rw [hp]; grind)
  by_cases k6 : t.kind = 5
  · refine GO ?_
    exact finB (he := by rw [hp]; grind)
  by_cases k7 : t.kind = 6
  · refine GO ?_
    exact finB (he := by rw [hp]; grind)
  by_cases k8 : t.kind = 7
  · refine GO ?_
    refine Ch.c (namesC t.names hf.names) (r := ?_)
    refine GO ?_
    exact finB (he := by rw [hp]; grind)
  refine GO ?_
  exact finB (he := by rw [hp]; grind)
termination_by t.size
decreasing_by
  · exact fld_size hm
  · exact of_size (hm (by simp only [Bool.and_eq_true, decide_eq_true_eq] at hg; omega))
  · exact of_size (hm (by simp only [Bool.and_eq_true, decide_eq_true_eq] at hg; omega))
set_option maxRecDepth 10000 in
theorem rightTC (t : Typ) (hf : t.fit) : ∀ n, Con Tryz.prog 99 [agD (typF t)] [] n (bT t.right) [] n := by
  refine fnI Tryz.func99 Tryz.ntmps99 (h := fun S w0 β0 X => ?_)
  refine GO ?_
  refine Ch.c (sizeTC t hf.1) (r := ?_)
  refine GO ?_
  refine Ch.gc (hc := fun _ => depthTC t hf.1) (r := ?_)
  refine GO ?_
  refine Ch.gc (hc := fun _ => partTC t hf) (r := ?_)
  refine GO ?_
  exact finB (he := by rw [Typ.right]; grind)
end Go.Proofs.YtelkpflpgpdkdaaGreatDoor
namespace Go.Proofs.YtelkpflpgpdkdaaGreatDoor
open Go.Sv
set_option maxRecDepth 10000 in
theorem cloneStrC (ls : List (List D)) (hb : ls.length ≤ 34359738368) : Con Tryz.prog 83 [dT (sl 1 ls)] [] 0 (.one (.key 0)) [(0, .row 9 1 ls)] 1 := by
  refine fnH Tryz.func83 Tryz.ntmps83 (h := fun S w0 β0 X => ?_)
  refine GO ?_
  refine W.condNil rfl (fun h => ?_) ?_
  · subst h
    refine GO ?_
    refine W.nilT 2 9 1 (h := ?_)
    exact finH
  · cases ls with
    | nil =>
      refine GO ?_
      exact finH
    | cons l ls =>
      have hb' := hb
      rw [List.length_cons] at hb'
      refine GO ?_
      refine W.swap 0 1 (h := ?_)
      exact finH
set_option maxRecDepth 10000 in
theorem cloneDocC (ls : List (List D)) (hb : ls.length ≤ 34359738368) : Con Tryz.prog 84 [dT (sl 5 ls)] [] 0 (.one (.key 0)) [(0, .row 48 5 ls)] 1 := by
  refine fnH Tryz.func84 Tryz.ntmps84 (h := fun S w0 β0 X => ?_)
  refine GO ?_
  refine W.condNil rfl (fun h => ?_) ?_
  · subst h
    refine GO ?_
    refine W.nilT 2 48 5 (h := ?_)
    exact finH
  · cases ls with
    | nil =>
      refine GO ?_
      exact finH
    | cons l ls =>
      have hb' := hb
      rw [List.length_cons] at hb'
      refine GO ?_
      refine W.swap 0 1 (h := ?_)
      exact finH
set_option maxRecDepth 10000 in
theorem cloneFldC (ls : List (List D)) (hb : ls.length ≤ 34359738368) : Con Tryz.prog 134 [dT (sl 8 ls)] [] 0 (.one (.key 0)) [(0, .row 206 8 ls)] 1 := by
  refine fnH Tryz.func134 Tryz.ntmps134 (h := fun S w0 β0 X => ?_)
  refine GO ?_
  refine W.condNil rfl (fun h => ?_) ?_
  · subst h
    refine GO ?_
    refine W.nilT 2 206 8 (h := ?_)
    exact finH
  · cases ls with
    | nil =>
      refine GO ?_
      exact finH
    | cons l ls =>
      have hb' := hb
      rw [List.length_cons] at hb'
      refine GO ?_
      refine W.swap 0 1 (h := ?_)
      exact finH
set_option maxRecDepth 10000 in
theorem cloneTypC (ls : List (List D)) (hb : ls.length ≤ 34359738368) : Con Tryz.prog 135 [dT (sl 6 ls)] [] 0 (.one (.key 0)) [(0, .row 56 6 ls)] 1 := by
  refine fnH Tryz.func135 Tryz.ntmps135 (h := fun S w0 β0 X => ?_)
  refine GO ?_
  refine W.condNil rfl (fun h => ?_) ?_
  · subst h
    refine GO ?_
    refine W.nilT 2 56 6 (h := ?_)
    exact finH
  · cases ls with
    | nil =>
      refine GO ?_
      exact finH
    | cons l ls =>
      have hb' := hb
      rw [List.length_cons] at hb'
      refine GO ?_
      refine W.swap 0 1 (h := ?_)
      exact finH
set_option maxRecDepth 10000 in
theorem cloneHopC (ls : List (List D)) (hb : ls.length ≤ 34359738368) : Con Tryz.prog 160 [dT (sl 2 ls)] [] 0 (.one (.key 0)) [(0, .row 177 2 ls)] 1 := by
  refine fnH Tryz.func160 Tryz.ntmps160 (h := fun S w0 β0 X => ?_)
  refine GO ?_
  refine W.condNil rfl (fun h => ?_) ?_
  · subst h
    refine GO ?_
    refine W.nilT 2 177 2 (h := ?_)
    exact finH
  · cases ls with
    | nil =>
      refine GO ?_
      exact finH
    | cons l ls =>
      have hb' := hb
      rw [List.length_cons] at hb'
      refine GO ?_
      refine W.swap 0 1 (h := ?_)
      exact finH
set_option maxRecDepth 10000 in
theorem cloneIntC (ls : List (List D)) (hb : ls.length ≤ 34359738368) : Con Tryz.prog 90 [dT (sl 1 ls)] [] 0 (.one (.key 0)) [(0, .row 3 1 ls)] 1 := by
  refine fnH Tryz.func90 Tryz.ntmps90 (h := fun S w0 β0 X => ?_)
  refine GO ?_
  refine W.condNil rfl (fun h => ?_) ?_
  · subst h
    refine GO ?_
    refine W.nilT 2 3 1 (h := ?_)
    exact finH
  · cases ls with
    | nil =>
      refine GO ?_
      exact finH
    | cons l ls =>
      have hb' := hb
      rw [List.length_cons] at hb'
      refine GO ?_
      refine W.swap 0 1 (h := ?_)
      exact finH
set_option maxRecDepth 10000 in
theorem cloneLensC (ls : List (List D)) (hb : ls.length ≤ 34359738368) : Con Tryz.prog 136 [dT (sl 16 ls)] [] 0 (.one (.key 0)) [(0, .row 210 16 ls)] 1 := by
  refine fnH Tryz.func136 Tryz.ntmps136 (h := fun S w0 β0 X => ?_)
  refine GO ?_
  refine W.condNil rfl (fun h => ?_) ?_
  · subst h
    refine GO ?_
    refine W.nilT 2 210 16 (h := ?_)
    exact finH
  · cases ls with
    | nil =>
      refine GO ?_
      exact finH
    | cons l ls =>
      have hb' := hb
      rw [List.length_cons] at hb'
      refine GO ?_
      refine W.swap 0 1 (h := ?_)
      exact finH
set_option maxRecDepth 10000 in
theorem clonePairC (ls : List (List D)) (hb : ls.length ≤ 34359738368) : Con Tryz.prog 137 [dT (sl 2 ls)] [] 0 (.one (.key 0)) [(0, .row 212 2 ls)] 1 := by
  refine fnH Tryz.func137 Tryz.ntmps137 (h := fun S w0 β0 X => ?_)
  refine GO ?_
  refine W.condNil rfl (fun h => ?_) ?_
  · subst h
    refine GO ?_
    refine W.nilT 2 212 2 (h := ?_)
    exact finH
  · cases ls with
    | nil =>
      refine GO ?_
      exact finH
    | cons l ls =>
      have hb' := hb
      rw [List.length_cons] at hb'
      refine GO ?_
      refine W.swap 0 1 (h := ?_)
      exact finH
end Go.Proofs.YtelkpflpgpdkdaaGreatDoor
