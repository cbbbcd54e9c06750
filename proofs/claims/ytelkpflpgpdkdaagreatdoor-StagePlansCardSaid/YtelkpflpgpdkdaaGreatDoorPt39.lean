/- Part 39 of what StageOrder and StagePlans ask: for every input each returns true, and its input reads as it did. No condition. -/
import Derived.Test.YtelkpflpgpdkdaaGreatDoorPt23
import Derived.Test.YtelkpflpgpdkdaaGreatDoorPt25
import Derived.Test.YtelkpflpgpdkdaaGreatDoorPt27
import Derived.Test.YtelkpflpgpdkdaaGreatDoorPt28
import Derived.Test.YtelkpflpgpdkdaaGreatDoorPt30
import Derived.Test.YtelkpflpgpdkdaaGreatDoorPt32
import Derived.Test.YtelkpflpgpdkdaaGreatDoorPt33
import Derived.Test.YtelkpflpgpdkdaaGreatDoorPt35
import Derived.Test.YtelkpflpgpdkdaaGreatDoorPt37
namespace Go.Proofs.YtelkpflpgpdkdaaGreatDoor
open Go.Sv
def waysU (w : List Hop) : U := .one (.d (sl 2 (w.map hopF)))
def wayG (M : Ways) : Value → Option U := intM fun n => (M n).map waysU
def supp (n : Nat) (M : Ways) : Prop := ∀ v, M v ≠ none → 0 ≤ v ∧ v < n
theorem supp_put {n : Nat} {M : Ways} {k : Int} {w : List Hop} (h : supp n M) (hk : 0 ≤ k ∧ k < n) : supp n (M.put k w) := fun v hv => by
  unfold Ways.put at hv
  split at hv
  · rename_i e; rw [e]; exact hk
  · exact h v hv
theorem goHops_supp {V : Ways → Int → List Hop → Option Ways} {n : Nat} {js : List Join} {way : List Hop} (hV : ∀ (M : Ways) (v : Int) (w : List Hop) (M' : Ways), supp n M → 0 ≤ v ∧ v < n → V M v w = some M' → supp n M') : ∀ (l : List Hop) (M M' : Ways), supp n M → goHops V n js way l M = some M' → supp n M'
  | [], M, M', h, e => by unfold goHops at e; cases e; exact h
  | x :: l, M, M', h, e => by
    unfold goHops at e
    split at e
    · rename_i hc
      obtain ⟨M1, e1, e2⟩ := Option.bind_eq_some_iff.1 e
      exact goHops_supp hV l M1 M' (hV _ _ _ _ h hc.2 e1) e2
    · exact goHops_supp hV l M M' h e
theorem visit_supp {n : Nat} {js : List Join} : ∀ (f : Nat) (M : Ways) (k : Int) (w : List Hop) (M' : Ways), supp n M → 0 ≤ k ∧ k < n → visitN n js f M k w = some M' → supp n M'
  | 0, _, _, _, _, _, _, e => by unfold visitN at e; cases e
  | f + 1, M, k, w, M', h, hk, e => by
    unfold visitN at e
    exact goHops_supp (fun M v w M' h1 h2 h3 => visit_supp f M v w M' h1 h2 h3) _ _ _ (supp_put h hk) e
theorem wayG_put (M : Ways) (k : Int) (w : List Hop) : wayG (M.put k w) (.int .i64 k) = some (waysU w) ∧ ∀ x, x ≠ .int .i64 k → wayG (M.put k w) x = wayG M x := by
  refine ⟨by rw [wayG, intM, Ways.put, if_pos rfl]; rfl, fun x hx => ?_⟩
  cases x <;> try rfl
  rename_i q u
  cases q <;> try rfl
  rw [wayG, intM, Ways.put, if_neg (fun e => hx (by rw [e]))]; rfl
def wayL (n : Nat) : List Value := (List.range n).map fun i : Nat => .int .i64 (i : Int)
theorem wayG_keys {n : Nat} {M : Ways} (h : supp n M) (x : Value) (hx : wayG M x ≠ none) : x ∈ wayL n := by
  cases x <;> try exact absurd rfl hx
  rename_i q u
  cases q <;> try exact absurd rfl hx
  have h1 : M u ≠ none := fun e => hx (by rw [wayG, intM, e]; rfl)
  obtain ⟨h2, h3⟩ := h u h1
  exact List.mem_map.2 ⟨u.toNat, List.mem_range.2 (by omega), by rw [show ((u.toNat : Nat) : Int) = u by omega]⟩
theorem wf64 {k : Int} (h : 0 ≤ k) (h2 : k ≤ 1000000) : (Lit.int .i64 k).wf = true := by simp [Lit.wf, IntKind.min, IntKind.max, IntKind.signed, IntKind.bits]; omega
abbrev visCs (r : Registry) : List Cap := [.key 0, .one (adr (regF r)), .key 2]
abbrev visH (r : Registry) (M : Ways) : HL := [(0, .box 190 [.key 1]), (1, .map (mapM Tryz.prog 3 (wayG M))), (2, .box 229 [.clo 157 (visCs r)])]
set_option maxRecDepth 10000 in
theorem visitC (r : Registry) (hr : InR r.schemas.length r.joins) (hn : r.schemas.length ≤ 1000) (hj : r.joins.length ≤ 1000) : ∀ (f : Nat) (M M' : Ways) (k : Int) (way : List Hop), supp r.schemas.length M → way.length + f ≤ 100000 → 0 ≤ k ∧ k < r.schemas.length → visitN r.schemas.length r.joins f M k way = some M' → Con Tryz.prog 157 ([iT k, dT (sl 2 (way.map hopF))] ++ (visCs r).map capU) (visH r M) 3 (.tup []) (visH r M') 3
  | 0, _, _, _, _, _, _, _, e => by unfold visitN at e; cases e
  | f + 1, M, M', k, way, hs, hw, hk, e => by
    unfold visitN at e
    obtain ⟨g1, g2⟩ := wayG_put M k way
    have hs1 := supp_put (w := way) hs hk
    refine fnH Tryz.func157 Tryz.ntmps157 (h := fun S w0 β0 X => ?_)
    refine GO ?_
    refine Ch.put (f := wayG M) (u := waysU way) (wayG (M.put k way)) (wayL r.schemas.length) (wayG_keys hs) (by rw [wayL, List.length_map, List.length_range]; omega) (keyI (k := 3) (wf64 hk.1 (by omega))) g1 g2 (r := ?_)
    refine GO ?_
    refine Ch.c (garoundC r k (by omega)) (r := ?_)
    refine GO ?_
    rw [show hopsAt r k = arnd (hopsG k) 0 r.joins from rfl]
    have hL : ∀ h ∈ arnd (hopsG k) 0 r.joins, ∃ m j, h.join = (m : Nat) ∧ r.joins[m]? = some j ∧ j.between k (hopTo r.joins h) := fun h hh => hopsG_mem hh
    generalize arnd (hopsG k) 0 r.joins = L at *
    refine W.len 17 (h := fun hl => ?_)
    refine W.lpG (fun a : Nat × Ways => a.1 ≤ L.length ∧ supp r.schemas.length a.2 ∧ goHops (visitN r.schemas.length r.joins f) r.schemas.length r.joins way (L.drop a.1) a.2 = some M') (fun a => [(19, iT a.1)]) [(1, _), (2, _), (3, _), (4, _), (17, _), (18, _)] (fun a => [(1, .map (mapM Tryz.prog 3 (wayG a.2)))]) [(0, _), (2, _)] (fun a => L.length - a.1) (0, M.put k way) (⟨Nat.zero_le _, hs1, e⟩) (round := fun a hI => ?_)
    obtain ⟨i, M1⟩ := a
    obtain ⟨hi, hs2, e2⟩ := hI
    simp only at hi hs2 e2 ⊢
    by_cases hlt : i < L.length
    · have hh := List.getElem?_eq_getElem hlt
      generalize L[i] = h at hh
      obtain ⟨m, j, hm, hjm, hbt⟩ := hL h (List.mem_of_getElem? hh)
      have hd : L.drop i = h :: L.drop (i + 1) := by
        obtain ⟨h1, h2⟩ := List.getElem?_eq_some_iff.1 hh
        rw [List.drop_eq_getElem_cons h1, h2]
      rw [hd] at e2
      unfold goHops at e2
      have hto : hopTo r.joins h = hopEnd j h.back := by unfold hopTo hopEnd; rw [hm, Int.toNat_natCast, hjm]
      have hin : 0 ≤ hopEnd j h.back ∧ hopEnd j h.back < r.schemas.length := by
        have := hr j (List.mem_of_getElem? hjm)
        unfold hopEnd; split <;> omega
      rw [hto] at e2
      have hend := gendC r h m j hm hjm
      generalize hopEnd j h.back = v at *
      have hkey : KeyOk Tryz.prog 3 (.int .i64 v) := keyI (wf64 hin.1 (by omega))
      have hth : (decide (0 ≤ v) && decide (v < r.schemas.length)) = true := by simp only [Bool.and_eq_true, decide_eq_true_eq]; exact hin
      have hgt := gthereC r v
      rw [hth] at hgt
      refine GO ?_
      refine Ch.c (hend) (r := ?_)
      refine GO ?_
      cases hM : M1 v with
      | none =>
        rw [if_pos ⟨hM, hin⟩] at e2
        obtain ⟨M2, e3, e4⟩ := Option.bind_eq_some_iff.1 e2
        refine Ch.look (f := wayG M1) (key := .int .i64 v) (o := none) (by rw [wayG, intM, hM]; rfl) hkey (r := ?_)
        refine GO ?_
        refine Ch.gc (hc := fun _ => hgt) (r := ?_)
        refine GO ?_
        refine Ch.ch [] (cloneHopC (way.map hopF) (by rw [List.length_map]; omega)) (r := ?_)
        refine GO ?_
        refine Ch.p (OpT.slice1' (hs := asAg (l := hopF h) rfl)) ⟨rfl, trivial⟩ ?_
        refine Ch.ap ⟨rfl, rfl, trivial⟩ (hb := by rw [List.length_map]; simp; omega) (r := ?_)
        rw [show way.map hopF ++ [hopF h] = (way ++ [h]).map hopF by rw [List.map_append]; rfl]
        refine Ch.dyn [0, 1, 2, 5] (ts := [iT v, .one (.key 3)]) (cs := visCs r) (Con.give (visitC r hr hn hj f M1 M2 v (way ++ [h]) hs2 (by rw [List.length_append, List.length_singleton]; omega) hin e3) (.there .here)) (r := ?_)
        refine GO ?_
        exact W.ag ((i + 1, M2)) (⟨hlt, visit_supp f M1 v (way ++ [h]) M2 hs2 hin e3, e4⟩) (by simp only; omega)
      | some w =>
        rw [if_neg (fun hc => by rw [hM] at hc; exact nomatch hc.1)] at e2
        refine Ch.look (f := wayG M1) (key := .int .i64 v) (o := some (waysU w)) (by rw [wayG, intM, hM]; rfl) hkey (r := ?_)
        refine GO ?_
        refine Ch.gc (ts := [agD (regF r), iT v]) (out := bT false) (hc := fun hc => absurd hc (by simp)) (r := ?_)
        refine GO ?_
        exact W.ag ((i + 1, M1)) (⟨hlt, hs2, e2⟩) (by simp only; omega)
    · obtain rfl : i = L.length := by omega
      rw [List.drop_length] at e2
      unfold goHops at e2
      cases e2
      refine GO ?_
      exact finH0n
end Go.Proofs.YtelkpflpgpdkdaaGreatDoor
namespace Go.Proofs.YtelkpflpgpdkdaaGreatDoor
open Go.Sv
set_option maxRecDepth 10000
theorem gwaysC (r : Registry) (k : Int) (M : Ways) (hr : InR r.schemas.length r.joins) (hn : r.schemas.length ≤ 1000) (hj : r.joins.length ≤ 1000) (hk : 0 ≤ k ∧ k < r.schemas.length) (hM : waysN r.schemas.length r.joins k = some M) : Con Tryz.prog 119 [agD (regF r), iT k] [] 0 (.one (.key 0)) [(0, .map (mapM Tryz.prog 3 (wayG M)))] 1 := by
  unfold waysN at hM
  rw [if_pos hk] at hM
  have hth : (decide (0 ≤ k) && decide (k < r.schemas.length)) = true := by simp only [Bool.and_eq_true, decide_eq_true_eq]; exact hk
  have hgt := gthereC r k
  rw [hth] at hgt
  have hv := (visitC r hr hn hj r.schemas.length (fun _ => none) M k [] (fun v hv => absurd rfl hv) (by simp; omega) hk hM).argL (args := [iT k, dT nilD] ++ (visCs r).map capU) ⟨.refl _, fun _ _ _ h => nil_sl 2 _ _ h, .refl _, .refl _, .refl _, trivial⟩
  have hz : (fun _ => none : Value → Option U) = wayG fun _ => none := by funext v; cases v <;> first | rfl | (rename_i q u; cases q <;> rfl)
  refine fnH Tryz.func119 Tryz.ntmps119 (h := fun S w0 β0 X => ?_)
  have st : Stop 4 := ⟨⟩
  refine GO ?_
  refine Ch.nw (OpT.makeMap 3) trivial ?_
  rw [hz]
  refine GO ?_
  refine Ch.c (hgt) (r := ?_)
  refine GO ?_
  refine W.frzB 0 (regF r) (h := ?_)
  clear st
  refine GO ?_
  refine Ch.p (OpT.clo' (cs := [.key 2, .one (adr (regF r)), .key 3])) ⟨rfl, rfl, rfl, trivial⟩ ?_
  refine GO ?_
  refine Ch.dyn [2, 1, 3] (ts := [iT k, dT nilD]) (cs := visCs r) hv (r := ?_)
  refine GO ?_
  refine W.swap 0 1 (h := ?_)
  exact finH
end Go.Proofs.YtelkpflpgpdkdaaGreatDoor
namespace Go.Proofs.YtelkpflpgpdkdaaGreatDoor
open Go.Sv
def zR : List D := [nilD, nilD]
theorem nil_reg (w : World) (us : List Value) (h : Cells w zR us) : Cells w (regF zeroR) us := by
  match us, h with
  | [_, _], h => exact ⟨nil_sl 7 _ _ h.1, nil_sl 3 _ _ h.2.1, trivial⟩
theorem regU_e {t u : Registry × Int} (h : t = u) : regU t = regU u := by rw [h]
set_option maxRecDepth 10000 in
set_option maxHeartbeats 2000000 in
theorem gaddJC (r : Registry) (j : Join) (hR : RawH) (hr : InR r.schemas.length r.joins) (hn : r.schemas.length ≤ 1000) (hj : r.joins.length ≤ 1000) (hft : ∀ x ∈ r.schemas, x.typ.fit) (hfl : Lens.fit j.lens) (hw : Lens.wides j.lens) : ∀ n, Con Tryz.prog 92 [agD (regF r), agD (joinF j)] [] n (regU (addJE r j.from_ j.to j.lens)) [] n := by
  refine fnI Tryz.func92 Tryz.ntmps92 (h := fun S w0 β0 X => ?_)
  obtain ⟨a, b, l⟩ := j
  have hta := gthereC r a
  have htb := gthereC r b
  by_cases hab : a < 0 ∨ b < 0 ∨ (r.schemas.length : Int) ≤ a ∨ (r.schemas.length : Int) ≤ b
  · rw [regU_e (show addJE r (Join.mk a b l).from_ (Join.mk a b l).to (Join.mk a b l).lens = (zeroR, 3) from if_pos hab)]
    refine GO ?_
    refine Ch.c (hta) (r := ?_)
    refine GO ?_
    refine Ch.gc (hc := fun _ => htb) (r := ?_)
    refine GO ?_
    refine W.cond rfl (fun h1 => ?_) (fun h1 => ?_)
    · refine GO ?_
      refine W.boxL 2 zR (regF zeroR) nil_reg (h := ?_)
      exact fin2
    · exact absurd h1 (by simp; omega)
  have hb : 0 ≤ a ∧ 0 ≤ b ∧ a < r.schemas.length ∧ b < r.schemas.length := by omega
  obtain ⟨M, hM, hMc⟩ := waysN_ok hr (k := a) ⟨hb.1, hb.2.2.1⟩
  have hx := List.getElem?_eq_getElem (show a.toNat < r.schemas.length by omega)
  generalize r.schemas[a.toNat]'(by omega) = x at hx
  have hy := List.getElem?_eq_getElem (show b.toNat < r.schemas.length by omega)
  generalize r.schemas[b.toNat]'(by omega) = y at hy
  have hv := addJE_in (l := l) hr hx hy (M := M) (fun v => by rw [Int.toNat_of_nonneg hb.1]; exact hMc v)
  rw [Int.toNat_of_nonneg hb.1, Int.toNat_of_nonneg hb.2.1] at hv
  have hta1 : (decide (0 ≤ a) && decide (a < r.schemas.length)) = true := by simp; omega
  have htb1 : (decide (0 ≤ b) && decide (b < r.schemas.length)) = true := by simp; omega
  rw [hta1] at hta
  rw [htb1] at htb
  have hT := ltargetC x.typ l hR (hft x (List.mem_of_getElem? hx)) hfl hw
  obtain ⟨ai, rfl⟩ := Int.eq_ofNat_of_zero_le hb.1
  obtain ⟨bi, rfl⟩ := Int.eq_ofNat_of_zero_le hb.2.1
  rw [Int.toNat_natCast] at hx hy
  have hkey : KeyOk Tryz.prog 3 (.int .i64 (bi : Int)) := keyI (wf64 (by omega) (by omega))
  refine GO ?_
  refine Ch.c (hta) (r := ?_)
  refine GO ?_
  refine Ch.gc (hc := fun _ => htb) (r := ?_)
  refine GO ?_
  refine Ch.ch [] (gwaysC r ai M hr hn hj ⟨hb.1, hb.2.2.1⟩ hM) (r := ?_)
  refine GO ?_
  cases hMb : M (bi : Int) with
  | some w =>
    rw [regU_e (show addJE r (Join.mk ai bi l).from_ (Join.mk ai bi l).to (Join.mk ai bi l).lens = (zeroR, 11) by rw [hv, if_pos (by rw [hMb]; exact nofun)])]
    refine Ch.look (f := wayG M) (key := .int .i64 (bi : Int)) (o := some (waysU w)) (by rw [wayG, intM, hMb]; rfl) hkey (r := ?_)
    refine GO ?_
    refine W.boxL 2 zR (regF zeroR) nil_reg (h := ?_)
    exact fin2
  | none =>
  rw [if_neg (by rw [hMb]; exact fun h => h rfl)] at hv
  refine Ch.look (f := wayG M) (key := .int .i64 (bi : Int)) (o := none) (by rw [wayG, intM, hMb]; rfl) hkey (r := ?_)
  refine GO ?_
  refine Ch.c (hT) (r := ?_)
  refine GO ?_
  by_cases h0 : (Lens.target l x.typ).2 ≠ 0
  · rw [regU_e (show addJE r (Join.mk ai bi l).from_ (Join.mk ai bi l).to (Join.mk ai bi l).lens = (zeroR, (Lens.target l x.typ).2) by rw [hv, if_pos h0])]
    refine GO ?_
    refine W.boxL 2 zR (regF zeroR) nil_reg (h := ?_)
    exact fin2
  rw [if_neg h0] at hv
  refine GO ?_
  refine Ch.c (sameTC (Lens.target l x.typ).1 y.typ) (r := ?_)
  refine GO ?_
  cases hs : (Lens.target l x.typ).1.same y.typ with
  | false =>
    rw [regU_e (show addJE r (Join.mk ai bi l).from_ (Join.mk ai bi l).to (Join.mk ai bi l).lens = (zeroR, 7) by rw [hv, if_pos hs])]
    refine GO ?_
    refine W.boxL 2 zR (regF zeroR) nil_reg (h := ?_)
    exact fin2
  | true =>
  rw [if_neg (by rw [hs]; exact nofun)] at hv
  refine GO ?_
  refine Ch.c (clipJoinC (r.joins.map joinF)) (r := ?_)
  refine GO ?_
  refine Ch.p (OpT.slice1' (hs := asAg (l := joinF ⟨ai, bi, l⟩) rfl)) ⟨rfl, trivial⟩ ?_
  refine GO ?_
  rw [regU_e (show addJE r (Join.mk ai bi l).from_ (Join.mk ai bi l).to (Join.mk ai bi l).lens = _ from hv)]
  rw [show regU (⟨r.schemas, r.joins ++ [⟨ai, bi, l⟩]⟩, 0) = .tup [.ag [.d (sl 7 (r.schemas.map namedF)), .d (sl 3 (r.joins.map joinF ++ [joinF ⟨ai, bi, l⟩]))], .one (.d (i64 0))] by simp only [regU, regF, List.map_append, List.map_cons, List.map_nil]]
  refine W.frz 5 (h := ?_)
  exact fin2
end Go.Proofs.YtelkpflpgpdkdaaGreatDoor
namespace Go.Proofs.YtelkpflpgpdkdaaGreatDoor
open Go.Sv
set_option maxRecDepth 10000 in
set_option maxHeartbeats 2000000 in
theorem gRightC (hR : RawH) (r : Registry) (h1 : ∀ x ∈ r.schemas, x.typ.fit) (h2 : ∀ j ∈ r.joins, Lens.fit j.lens ∧ Lens.wides j.lens) (h3 : r.schemas.length ≤ 1000000) (h4 : r.joins.length ≤ 1000000) : ∀ n, Con Tryz.prog 62 [agD (regF r)] [] n (bT (regRight r)) [] n := by
  refine fnI Tryz.func62 Tryz.ntmps62 (h := fun S w0 β0 X => ?_)
  have hp := regRight_eq r
  have st : Stop 3 := ⟨⟩
  refine GO ?_
  clear st
  refine W.boxL 1 zR (regF zeroR) nil_reg (h := ?_)
  refine GO ?_
  refine W.lpG (fun a : Nat × Registry => a.1 ≤ r.schemas.length ∧ OnWay r a.2 ∧ a.2.joins = [] ∧ foldS r.schemas zeroR = foldS (r.schemas.drop a.1) a.2) (fun a => [(12, iT a.1)]) [(1, _), (3, _), (10, _), (11, _)] (fun a => [(1, .box 60 ((regF a.2).map C.d))]) [(0, _)] (fun a => r.schemas.length - a.1) (0, zeroR) (⟨Nat.zero_le _, OnWay.zero r, rfl, rfl⟩) (round := fun a hI => ?_)
  obtain ⟨q, x⟩ := a
  obtain ⟨hq, hw, hj0, hf⟩ := hI
  replace hw : OnWay r x := hw
  replace hj0 : x.joins = [] := hj0
  by_cases hlt : q < r.schemas.length
  · have hy := List.getElem?_eq_getElem hlt
    generalize r.schemas[q] = y at hy
    rw [drop_at hy, foldS_next] at hf
    have hya := h1 y (List.mem_of_getElem? hy)
    refine GO ?_
    refine Ch.c (gaddSC x y.name y.typ hya (by have := hw.len; omega)) (r := ?_)
    refine GO ?_
    refine W.cond rfl (fun h0 => ?_) (fun h0 => ?_)
    · refine GO ?_
      refine GO ?_
      exact finB (he := by rw [hp, hf, if_neg (by simpa using h0)]; rfl)
    · have h0 : (addSE x y.name y.typ).2 = 0 := by simpa using h0
      rw [if_pos h0] at hf
      obtain ⟨g1, g2⟩ := hw.addS (List.mem_of_getElem? hy) hj0 h0
      refine GO ?_
      exact W.ag (q + 1, (addSE x y.name y.typ).1) ⟨hlt, g1, g2, hf⟩ (by simp only; omega)
  obtain rfl : q = r.schemas.length := by omega
  rw [List.drop_length] at hf
  rw [hf, foldS, Option.bind_some] at hp
  refine GO ?_
  refine W.lpG (fun a : Nat × Registry => a.1 ≤ r.joins.length ∧ OnWay r a.2 ∧ foldJ r.joins x = foldJ (r.joins.drop a.1) a.2) (fun a => [(31, iT a.1)]) [(3, _), (29, _), (30, _)] (fun a => [(1, .box 60 ((regF a.2).map C.d))]) [(0, _)] (fun a => r.joins.length - a.1) (0, x) (⟨Nat.zero_le _, hw, rfl⟩) (round := fun a hI => ?_)
  clear hw hj0 hf hq
  obtain ⟨q, z⟩ := a
  obtain ⟨hq, hw, hf⟩ := hI
  replace hw : OnWay r z := hw
  by_cases hlt : q < r.joins.length
  · have hy := List.getElem?_eq_getElem hlt
    generalize r.joins[q] = y at hy
    rw [drop_at hy, foldJ_next] at hf
    have hya := h2 y (List.mem_of_getElem? hy)
    refine GO ?_
    refine Ch.c (gaddJC z y hR hw.inr (by have := hw.len; omega) (by have := hw.for_.len hw.inr; have := hw.len; omega) (fun u hu => h1 u (hw.sch u hu)) hya.1 hya.2) (r := ?_)
    refine GO ?_
    refine W.cond rfl (fun h0 => ?_) (fun h0 => ?_)
    · refine GO ?_
      refine GO ?_
      exact finB (he := by rw [hp, hf, if_neg (by simpa using h0)]; rfl)
    · have h0 : (addJE z y.from_ y.to y.lens).2 = 0 := by simpa using h0
      rw [if_pos h0] at hf
      refine GO ?_
      exact W.ag (q + 1, (addJE z y.from_ y.to y.lens).1) ⟨hlt, hw.addJ h0, hf⟩ (by simp only; omega)
  obtain rfl : q = r.joins.length := by omega
  rw [List.drop_length] at hf
  rw [hf] at hp
  refine GO ?_
  exact finB (he := by rw [hp]; rfl)
end Go.Proofs.YtelkpflpgpdkdaaGreatDoor
namespace Go.Proofs.YtelkpflpgpdkdaaGreatDoor
open Go.Sv
def pathU (p : List Hop × Int) : T := .tup [.one (.d (sl 2 (p.1.map hopF))), .one (.d (i64 p.2))]
set_option maxRecDepth 10000 in
set_option maxHeartbeats 1000000 in
theorem gpathC (hR : RawH) (r : Registry) (a b : Int) (h1 : ∀ x ∈ r.schemas, x.typ.fit) (h2 : ∀ j ∈ r.joins, Lens.fit j.lens ∧ Lens.wides j.lens) (h3 : r.schemas.length ≤ 1000000) (h4 : r.joins.length ≤ 1000000) : ∀ n, Con Tryz.prog 106 [agD (regF r), iT a, iT b] [] n (pathU (pathE r a b)) [] n := by
  refine fnI Tryz.func106 Tryz.ntmps106 (h := fun S w0 β0 X => ?_)
  have hta := gthereC r a
  have htb := gthereC r b
  have hp := (rfl : pathE r a b = pathE r a b)
  conv at hp => rhs; rw [pathE]
  refine GO ?_
  refine Ch.c (gRightC hR r h1 h2 h3 h4) (r := ?_)
  refine GO ?_
  refine W.cond rfl (fun hg => ?_) (fun hg => ?_)
  · have hg : regRight r = false := by simpa using hg
    rw [if_pos hg] at hp
    refine GO ?_
    refine W.less 6 (sl 2 []) rfl (nil_sl 2) (h := ?_)
    rw [hp]
    exact fin2
  have hg : ¬ regRight r = false := by simpa using hg
  rw [if_neg hg] at hp
  obtain ⟨q1, q2, _, q4, _⟩ := regRight_ok (Bool.of_not_eq_false hg)
  refine GO ?_
  refine Ch.c (hta) (r := ?_)
  refine GO ?_
  refine Ch.gc (hc := fun _ => htb) (r := ?_)
  refine GO ?_
  refine W.cond rfl (fun hc => ?_) (fun hc => ?_)
  · rw [if_pos (by simp at hc; omega)] at hp
    refine GO ?_
    refine W.less 6 (sl 2 []) rfl (nil_sl 2) (h := ?_)
    rw [hp]
    exact fin2
  have hb : 0 ≤ a ∧ a < r.schemas.length ∧ 0 ≤ b ∧ b < r.schemas.length := by simp at hc; omega
  rw [if_neg (by omega)] at hp
  obtain ⟨M, hM, hMc⟩ := waysN_ok q4 (k := a) ⟨hb.1, hb.2.1⟩
  rw [hM, Option.bind_some] at hp
  obtain ⟨bi, rfl⟩ := Int.eq_ofNat_of_zero_le hb.2.2.1
  have hkey : KeyOk Tryz.prog 3 (.int .i64 (bi : Int)) := keyI (wf64 (by omega) (by omega))
  refine GO ?_
  refine Ch.ch [] (gwaysC r a M q4 (by omega) (by omega) ⟨hb.1, hb.2.1⟩ hM) (r := ?_)
  refine GO ?_
  cases hMb : M (bi : Int) with
  | none =>
    rw [hMb] at hp
    refine Ch.look (f := wayG M) (key := .int .i64 (bi : Int)) (o := none) (by rw [wayG, intM, hMb]; rfl) hkey (r := ?_)
    refine GO ?_
    refine W.less 6 (sl 2 []) rfl (nil_sl 2) (h := ?_)
    rw [hp]
    exact fin2
  | some w =>
    rw [hMb] at hp
    refine Ch.look (f := wayG M) (key := .int .i64 (bi : Int)) (o := some (waysU w)) (by rw [wayG, intM, hMb]; rfl) hkey (r := ?_)
    refine GO ?_
    rw [hp]
    exact fin2
set_option maxRecDepth 10000 in
set_option maxHeartbeats 2000000 in
theorem gCopyC (r : Registry) (h1 : ∀ x ∈ r.schemas, x.typ.fit) (h2 : ∀ j ∈ r.joins, Lens.fit j.lens) (h3 : r.schemas.length ≤ 1000000) (h4 : r.joins.length ≤ 1000000) : ∀ n, Con Tryz.prog 65 [agD (regF r)] [] n (agD (regF r)) [] n := by
  refine fnI Tryz.func65 Tryz.ntmps65 (h := fun S w0 β0 X => ?_)
  refine GO ?_
  refine W.nilB 2 0 153 7 (h := ?_)
  refine W.nilB 2 1 156 3 (h := ?_)
  refine W.lpG ((· ≤ r.schemas.length)) (fun k => [(11, iT k)]) [(1, _), (2, _), (3, _), (9, _), (10, _)] (fun k => [(3, .row 153 7 ((r.schemas.take k).map namedF))]) [(0, _), (1, _), (2, _), (4, _)] (r.schemas.length - ·) 0 (Nat.zero_le _) (round := fun k hk => ?_)
  by_cases hlt : k < r.schemas.length
  · have hx := List.getElem?_eq_getElem hlt
    generalize r.schemas[k] = x at hx
    have hlen : (r.schemas.take k).length = k := by rw [List.length_take]; omega
    refine GO ?_
    refine Ch.c (typCopyC x.typ (h1 x (List.mem_of_getElem? hx))) (r := ?_)
    refine GO ?_
    refine Ch.p (OpT.slice1' (hs := asAg (l := namedF x) rfl)) ⟨rfl, trivial⟩ ?_
    refine GO ?_
    rw [← take_map_succ hx]
    refine W.swap 3 6 (h := ?_)
    exact W.ag (k + 1) hlt (by omega)
  obtain rfl : k = r.schemas.length := by omega
  rw [List.take_length]

  refine W.frz 3 (h := ?_)
  refine GO ?_
  refine W.lpG ((· ≤ r.joins.length)) (fun k => [(30, iT k)]) [(2, _), (3, _), (28, _), (29, _)] (fun k => [(4, .row 156 3 ((r.joins.take k).map joinF))]) [(0, _), (1, _), (2, _)] (r.joins.length - ·) 0 (Nat.zero_le _) (round := fun k hk => ?_)
  by_cases hlt : k < r.joins.length
  · have hx := List.getElem?_eq_getElem hlt
    generalize r.joins[k] = x at hx
    have hlen : (r.joins.take k).length = k := by rw [List.length_take]; omega
    refine GO ?_
    refine Ch.c ((lensCopyC x.lens (h2 x (List.mem_of_getElem? hx))).data) (r := ?_)
    refine GO ?_
    refine Ch.p (OpT.slice1' (hs := asAg (l := joinF x) rfl)) ⟨rfl, trivial⟩ ?_
    refine GO ?_
    rw [← take_map_succ hx]
    refine W.swap 4 6 (h := ?_)
    exact W.ag (k + 1) hlt (by omega)
  obtain rfl : k = r.joins.length := by omega
  rw [List.take_length]
  refine GO ?_
  refine W.frz 4 (h := ?_)
  exact fin1 (hk := agD_keys)
end Go.Proofs.YtelkpflpgpdkdaaGreatDoor
namespace Go.Proofs.YtelkpflpgpdkdaaGreatDoor
open Go.Sv
theorem addSE_fit {r : Registry} {s : Str} {t : Typ} (h1 : ∀ x ∈ r.schemas, x.typ.fit) (h2 : ∀ j ∈ r.joins, Lens.fit j.lens ∧ Lens.wides j.lens) (h3 : r.schemas.length ≤ 12) (h4 : r.joins.length ≤ 12) (ht : t.fit) :
    (∀ x ∈ (addSE r s t).1.schemas, x.typ.fit) ∧ (∀ j ∈ (addSE r s t).1.joins, Lens.fit j.lens) ∧ (addSE r s t).1.schemas.length ≤ 1000000 ∧ (addSE r s t).1.joins.length ≤ 1000000 := by
  have hz : (∀ x ∈ zeroR.schemas, x.typ.fit) ∧ (∀ j ∈ zeroR.joins, Lens.fit j.lens) ∧ zeroR.schemas.length ≤ 1000000 ∧ zeroR.joins.length ≤ 1000000 := ⟨nofun, nofun, Nat.zero_le _, Nat.zero_le _⟩
  unfold addSE
  repeat' split
  · exact hz
  · exact hz
  · exact hz
  · refine ⟨fun x hx => ?_, fun j hj => (h2 j hj).1, by simp; omega, by simp only; omega⟩
    rcases List.mem_append.1 hx with e | e
    · exact h1 x e
    · rw [List.mem_singleton.1 e]; exact ht
set_option maxRecDepth 10000 in
set_option maxHeartbeats 1000000 in
theorem gAddSC (hR : RawH) (r : Registry) (s : Str) (t : Typ) (h1 : ∀ x ∈ r.schemas, x.typ.fit) (h2 : ∀ j ∈ r.joins, Lens.fit j.lens ∧ Lens.wides j.lens) (h3 : r.schemas.length ≤ 1000000) (h4 : r.joins.length ≤ 1000000) (ht : t.fit) : ∀ n, Con Tryz.prog 43 [agD (regF r), sT s, agD (typF t)] [] n (regU (addR r (addSE r s t))) [] n := by
  refine fnI Tryz.func43 Tryz.ntmps43 (h := fun S w0 β0 X => ?_)
  refine GO ?_
  refine Ch.c (gRightC hR r h1 h2 h3 h4) (r := ?_)
  refine GO ?_
  refine W.cond rfl (fun hg => ?_) (fun hg => ?_)
  · have hg : regRight r = false := by simpa using hg
    refine GO ?_
    refine W.boxL 2 zR (regF zeroR) nil_reg (h := ?_)
    rw [addR, if_pos hg]
    exact fin2
  have hg : ¬ regRight r = false := by simpa using hg
  obtain ⟨q1, q2, _, _, _⟩ := regRight_ok (Bool.of_not_eq_false hg)
  obtain ⟨z1, z2, z3, z4⟩ := addSE_fit (s := s) h1 h2 q1 q2 ht
  rw [addR, if_neg hg]
  refine GO ?_
  refine Ch.c (gaddSC r s t ht h3) (r := ?_)
  refine GO ?_
  refine Ch.c (gCopyC (addSE r s t).1 z1 z2 z3 z4) (r := ?_)
  refine GO ?_
  exact fin2
end Go.Proofs.YtelkpflpgpdkdaaGreatDoor
namespace Go.Proofs.YtelkpflpgpdkdaaGreatDoor
open Go.Sv
def stU (p : State × Int) : T := .tup [.ag ((stateF p.1).map C.d), .one (.d (i64 p.2))]
set_option maxRecDepth 10000 in
theorem aGoC (t : Typ) (l : List Lens) (e : Int) (bk : Bool) (s : State) (hR : RawH) (ht : t.fit) (hfit : Lens.fit l) (hw : Lens.wides l) (hs : StFit s) : ∀ n, Con Tryz.prog 141 [agD (typF t), dT (sl 16 (lensesC l)), iT e, bT bk, agD (stateF s)] [] n (stU (goS cvP t l e bk s)) [] n := by
  refine fnI Tryz.func141 Tryz.ntmps141 (h := fun S w0 β0 X => ?_)
  refine GO ?_
  refine Ch.c (agoesC t l e bk s hR ht hfit hw hs) (r := ?_)
  refine GO ?_
  refine Ch.c (stCopyC (goesS cvP t l e bk s).1.1 (goes_fit cvP_ok hs).1) (r := ?_)
  refine GO ?_
  exact fin2
theorem nil_docS (d : Doc) (w : World) (us : List Value) (h : Cells w (docF d ++ [nilD]) us) : Cells w (stateF ⟨d, []⟩) us := by
  match us, h with
  | [_, _, _, _, _, _], h => exact ⟨h.1, h.2.1, h.2.2.1, h.2.2.2.1, h.2.2.2.2.1, nil_sl 8 _ _ h.2.2.2.2.2.1, trivial⟩
theorem nil_resS (l : List Res) (w : World) (us : List Value) (h : Cells w [i64 0, i64 0, str ⟨#[]⟩, nilD, nilD, sl 8 (l.map resF)] us) : Cells w (stateF ⟨zeroDoc, l⟩) us := by
  match us, h with
  | [_, _, _, _, _, _], h => exact ⟨h.1, h.2.1, h.2.2.1, nil_sl 1 _ _ h.2.2.2.1, nil_sl 5 _ _ h.2.2.2.2.1, h.2.2.2.2.2⟩
set_option maxRecDepth 10000 in
theorem aneedsC (t : Typ) (l : List Lens) (e : Int) (bk : Bool) (d : Doc) (hR : RawH) (ht : t.fit) (hfit : Lens.fit l) (hw : Lens.wides l) (hd : d.fit) : ∀ n, Con Tryz.prog 168 [agD (typF t), dT (sl 16 (lensesC l)), iT e, bT bk, agD (docF d)] [] n (dT (sl 8 ((needS cvP t l e bk d).map resF))) [] n := by
  refine fnI Tryz.func168 Tryz.ntmps168 (h := fun S w0 β0 X => ?_)
  have hs : StFit ⟨d, []⟩ := ⟨hd, Nat.zero_le _, nofun⟩
  obtain ⟨_, h1, h2⟩ := goes_fit (t := t) (l := l) (ed := e) (bk := bk) cvP_ok hs
  have hz : StFit ⟨zeroDoc, (goesS cvP t l e bk ⟨d, []⟩).1.2⟩ := ⟨stS_zero.1.doc, h1, h2⟩
  have hg := fun n => (agoesC t l e bk ⟨d, []⟩ hR ht hfit hw hs n).argL (args := [agD (typF t), dT (sl 16 (lensesC l)), iT e, bT bk, agD (docF d ++ [nilD])]) ⟨.refl _, .refl _, .refl _, .refl _, .ag (nil_docS d), trivial⟩
  have hc := fun n => (stCopyC ⟨zeroDoc, (goesS cvP t l e bk ⟨d, []⟩).1.2⟩ hz n).argL (args := [agD [i64 0, i64 0, str ⟨#[]⟩, nilD, nilD, sl 8 ((goesS cvP t l e bk ⟨d, []⟩).1.2.map resF)]]) ⟨.ag (nil_resS _), trivial⟩
  refine GO ?_
  refine Ch.c (hg) (r := ?_)
  refine GO ?_
  refine Ch.c (hc) (r := ?_)
  refine GO ?_
  exact fin1
def hopU (n : Int) (p : State × Int) : T := .tup [.one (.d (i64 n)), .ag ((stateF p.1).map C.d), .one (.d (i64 p.2))]
theorem regG_lens {r : Registry} (hG : RegG r) {i : Nat} {j : Join} (hj : r.joins[i]? = some j) : Lens.fit j.lens ∧ Lens.wides j.lens := by
  obtain ⟨h1, h2, _⟩ := hG.go j (List.mem_of_getElem? hj) false
  exact ⟨h1, h2⟩
set_option maxRecDepth 10000 in
theorem thopC (r : Registry) (k i : Nat) (bk : Bool) (s : State) (x : Named) (j : Join) (hR : RawH) (hG : RegG r) (hx : r.schemas[k]? = some x) (hj : r.joins[i]? = some j) (hs : StFit s) : ∀ n, Con Tryz.prog 108 [agD (regF r), iT k, agD (hopF ⟨i, bk⟩), agD (stateF s)] [] n (hopU (hopEnd j bk) (hopS cvP r k ⟨i, bk⟩ s)) [] n := by
  refine fnI Tryz.func108 Tryz.ntmps108 (h := fun S w0 β0 X => ?_)
  obtain ⟨hf, hw⟩ := regG_lens hG hj
  have ht := hG.ok.typs x (List.mem_of_getElem? hx)
  have he : hopS cvP r k ⟨i, bk⟩ s = goS cvP x.typ j.lens i bk s := by rw [hopS, typAt_eq hx, joinAt_eq hj]
  rw [he]
  refine GO ?_
  refine Ch.c (aGoC x.typ j.lens i bk s hR ht hf hw hs) (r := ?_)
  refine GO ?_
  cases bk with
  | true =>
    refine GO ?_
    exact fin3
  | false =>
    refine GO ?_
    exact fin3
end Go.Proofs.YtelkpflpgpdkdaaGreatDoor
namespace Go.Proofs.YtelkpflpgpdkdaaGreatDoor
open Go.Sv
theorem idxA_resIdx (l : List Res) (e : Int) (st : List Int) (ks : List Str) : idxA l e st ks = resIdx l e st ks := by
  rw [idxA, resIdx]
  congr 1
  funext x
  rw [show firstNZ [cmpI x.edge e, cmpL cmpI x.step st, cmpL cmpS x.at_ ks] = resLess x (placeRes e st ks) from resLess_first x (placeRes e st ks)]
  by_cases hz : resLess x (placeRes e st ks) = 0 <;> simp [hz]
theorem puts_take {l : List Res} {s : State} (hs : StS s) (hl : l.length ≤ 40000) (hf : ∀ x ∈ l, x.fit) (k : Nat) : StFit ((l.take k).foldl putN s) := (puts_fit (l.take k) s hs.1 (by have := hs.2; rw [List.length_take]; omega) fun x hx => hf x (List.mem_of_mem_take hx)).1
set_option maxRecDepth 10000 in
set_option maxHeartbeats 1000000 in
theorem tneededC (r : Registry) (k i : Nat) (bk : Bool) (s : State) (x : Named) (j : Join) (hR : RawH) (hG : RegG r) (hx : r.schemas[k]? = some x) (hj : r.joins[i]? = some j) (hs : StS s) : ∀ n, Con Tryz.prog 124 [agD (regF r), iT k, agD (hopF ⟨i, bk⟩), agD (stateF s)] [] n (agD (stateF (needed cvP r k ⟨i, bk⟩ s))) [] n := by
  refine fnI Tryz.func124 Tryz.ntmps124 (h := fun S w0 β0 X => ?_)
  obtain ⟨hf, hw⟩ := regG_lens hG hj
  have ht := hG.ok.typs x (List.mem_of_getElem? hx)
  have he : needed cvP r k ⟨i, bk⟩ s = (needS cvP x.typ j.lens i bk s.doc).foldl putN s := by rw [needed, typAt_eq hx, joinAt_eq hj]
  obtain ⟨h1, h2⟩ := need_fit cvP_ok (t := x.typ) (l := j.lens) (ed := (i : Int)) (bk := bk) hs.1.doc
  have hn := aneedsC x.typ j.lens i bk s.doc hR ht hf hw hs.1.doc
  rw [he]
  generalize needS cvP x.typ j.lens i bk s.doc = l at *
  have hp := puts_take hs h1 h2
  refine GO ?_
  refine Ch.c (hn) (r := ?_)
  refine GO ?_
  refine W.lpG ((· ≤ l.length)) (fun q => [(32, iT q)]) [(7, _), (8, _), (30, _), (31, _)] (fun q => [(2, .box 94 ((stateF ((l.take q).foldl putN s)).map C.d))]) [(3, _)] (l.length - ·) 0 (Nat.zero_le _) (round := fun q hq => ?_)
  by_cases hlt : q < l.length
  · have hy := List.getElem?_eq_getElem hlt
    generalize l[q] = y at hy
    have hup : (l.take (q + 1)).foldl putN s = putN ((l.take q).foldl putN s) y := foldl_snoc hy
    have hsf := hp q
    generalize (l.take q).foldl putN s = u at *
    have hidx := idxA_resIdx u.res y.edge y.step y.at_
    have hfind := afindC u.res y.edge y.step y.at_
    rw [show idxOf (fun x => decide (firstNZ [cmpI x.edge y.edge, cmpL cmpI x.step y.step, cmpL cmpS x.at_ y.at_] = 0)) u.res = resIdx u.res y.edge y.step y.at_ from hidx] at hfind
    refine GO ?_
    refine Ch.c (hfind) (r := ?_)
    refine GO ?_
    by_cases h3 : resIdx u.res y.edge y.step y.at_ < 0
    · have hup2 : (l.take (q + 1)).foldl putN s = ⟨u.doc, resPut u.res y⟩ := by rw [hup, putN, if_pos h3]
      refine GO ?_
      refine Ch.c (putC u.res y (by have := hsf.len; omega) hsf.res (h2 y (List.mem_of_getElem? hy))) (r := ?_)
      refine GO ?_
      rw [show (stateF u).map C.d = (docF u.doc ++ [sl 8 (u.res.map resF)]).map C.d from rfl]
      refine W.ag (q + 1) hlt (by omega) (hH := ?_)
      simp only [hup2]
      (repeat (first | exact SubH.nil | refine SubH.cons rfl ?_))
    · have hup2 : (l.take (q + 1)).foldl putN s = u := by rw [hup, putN, if_neg h3]
      refine GO ?_
      refine W.ag (q + 1) hlt (by omega) (hH := ?_)
      simp only [hup2]
      (repeat (first | exact SubH.nil | refine SubH.cons rfl ?_))
  · obtain rfl : q = l.length := by omega
    rw [List.take_length]
    refine GO ?_
    exact fin1
end Go.Proofs.YtelkpflpgpdkdaaGreatDoor
