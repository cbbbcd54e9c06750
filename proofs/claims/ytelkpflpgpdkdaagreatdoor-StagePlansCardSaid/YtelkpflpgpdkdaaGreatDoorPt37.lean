/- Part 37 of what StageOrder and StagePlans ask: for every input each returns true, and its input reads as it did. No condition. -/
import Derived.Test.YtelkpflpgpdkdaaGreatDoorPt30
import Derived.Test.YtelkpflpgpdkdaaGreatDoorPt34
import Derived.Test.YtelkpflpgpdkdaaGreatDoorPt35
import Derived.Test.YtelkpflpgpdkdaaGreatDoorPt36
namespace Go.Proofs.YtelkpflpgpdkdaaGreatDoor
open Go.Sv
theorem Con.newRow {P : Program} {f : FuncId} {args : List T} {H0 : HL} {n0 e k : Nat} {ls : List (List D)} (hE : Enters P f) (h : ∀ (β : Env) (S : List Nat) (w : World) (vs : Array Value), All2 (fun t v => T.is β (View β H0 S w) t v) args vs.toList → OwnsG P β n0 S H0 w → Calls P f vs w fun r w' => ∃ v, r = .returned v ∧ Kept [] w w' ∧ v.oneCell' = true ∧ (∀ β' V', Own.is β' V' w' (.row e k ls) v) ∧ ∀ g, blk v = some g → w.heap.size ≤ g) : Con P f args H0 n0 (.one (.key n0)) ((n0, .row e k ls) :: H0) (n0 + 1) :=
  ⟨hE, Nat.le_succ _, fun β S w vs hv hO => by
    refine (h β S w vs hv hO).mono ?_
    rintro r w' ⟨v, rfl, hk, h1, hr, hg⟩
    obtain ⟨β', hβ'⟩ : ∃ β' : Env, β' = fun κ => if κ = n0 then v else β κ := ⟨_, rfl⟩
    have hn : β' n0 = v := by rw [hβ']; exact if_pos rfl
    have hlt : ∀ κ, κ < n0 → β' κ = β κ := fun κ hκ => by rw [hβ']; exact if_neg (by omega)
    have hH : ∀ e ∈ H0, β' e.1 = β e.1 := fun e he => hlt _ (hO.is e he).1
    have hb : ∀ b, b ∈ blks β' ((n0, Own.row e k ls) :: H0) → b ∈ blks β H0 ∨ w.heap.size ≤ b := fun b hb => by
      obtain ⟨f, hf, hb⟩ := mem_blks.1 hb
      rcases List.mem_cons.1 hf with rfl | hf
      · exact .inr (hg b (by rw [← hn]; exact hb))
      · exact .inl (mem_blks.2 ⟨f, hf, by rw [← hH f hf]; exact hb⟩)
    have hV : Sub (View β H0 S w) (View β' ((n0, Own.row e k ls) :: H0) S w') := hide_sub hk fun b hlt hnb => ⟨by simp, fun hm => by
      rcases List.mem_append.1 hm with hm | hm
      · rcases hb b hm with h | h
        · exact hnb (List.mem_append_left _ h)
        · omega
      · exact hnb (List.mem_append_right _ hm)⟩
    refine ⟨v, β', rfl, ⟨hk.os, hk.tape, hk.output, hk.size, fun b hb _ => hk.block b hb (by simp)⟩, hlt, fun κ hκ => by rw [List.mem_singleton.1 hκ]; exact Nat.lt_succ_self _, ⟨hn.symm, h1⟩, ⟨fun f hf => ?_, fun f hf f' hf' hne b h2 h3 => ?_, fun b hm => ?_, fun b hb => Nat.lt_of_lt_of_le (hO.lt b hb) hk.size⟩, hb⟩
    · rcases List.mem_cons.1 hf with rfl | hf
      · exact ⟨Nat.lt_succ_self _, nofun, by show Own.is β' _ w' _ (β' n0); rw [hn]; exact hr _ _⟩
      · obtain ⟨k1, k2, k3⟩ := hO.is f hf
        refine ⟨Nat.lt_succ_of_lt k1, Bel.up (Nat.le_succ _) k2, ?_⟩
        rw [hH f hf]
        exact Own.keep (fun κ hκ => hlt κ (k2 κ hκ)) hV (fun b _ x hx => hk.heap (by simp) hx) k3
    · rcases List.mem_cons.1 hf with rfl | hf <;> rcases List.mem_cons.1 hf' with rfl | hf'
      · exact hne rfl
      · rw [hn] at h2
        rw [hH f' hf'] at h3
        have := hg b h2
        have := Own.lt (hO.is f' hf').2.2 h3
        omega
      · rw [hn] at h3
        rw [hH f hf] at h2
        have := hg b h3
        have := Own.lt (hO.is f hf).2.2 h2
        omega
      · rw [hH f hf] at h2
        rw [hH f' hf'] at h3
        exact hO.apart f hf f' hf' hne b h2 h3
    · rcases hb b hm with h | h
      · exact hO.out b h
      · exact fun hS => by have := hO.lt b hS; omega⟩
section
open Go.RowKit Go.Lib Go.Maps Go.Sort Go.MapKept Go.Shelf
open Go.WideElems (rd rg rd_key rg_of)
open Go.WideShapes (sorted_perm)
variable {P : Program} {k : TypeId} {w : World} {b : Nat} {F : Value → Option Value} {es : Array MapEntry} {clock : Nat}
/-- A map's block, as the library's laws on keys read it. -/
theorem mapAt_owns (h : MapAt P k es clock F) (hb : w.heap[b]? = some (.map es clock)) (hk : Go.Program.underlying P k = some .string) : ∃ D : DataW Unit, w.ownsMap P k anyR b es.size D ∧ (strKeys D).Nodup ∧ (∀ s : List UInt8, s ∈ strKeys D ↔ s.length ≤ maxLen ∧ F (.string ⟨s.toArray⟩) ≠ none) ∧ Maps.size D ≤ es.size := by
  obtain ⟨hF, h1, h2⟩ := h
  have hkey : ∀ x ∈ es.toList, ∃ u : List UInt8, x.key = .string ⟨u.toArray⟩ ∧ (rg P k anyR x).1 = .string u ∧ u.length ≤ maxLen := fun x hx => by
    obtain ⟨y, hy⟩ := hF.reads x hx
    obtain ⟨u, hu, hyu, hlen⟩ := Maps.keyOf_str hk (rd_key hy)
    exact ⟨u, hu, by rw [rg_of hy]; exact hyu, hlen⟩
  refine ⟨_, ⟨es, clock, hb, hF, Nat.le_refl _, rfl⟩, ?_, fun s => ?_, ?_⟩
  · show (List.map (fun p => strOf p.1) ((es.toList.map (rg P k anyR)).foldr DataW.insert [])).Nodup
    refine ((sorted_perm _).map _).nodup_iff.2 ?_
    rw [List.map_map]
    have hp := fit_apart (string_keyed hk) hF
    rw [List.pairwise_map] at hp
    refine List.pairwise_map.2 (hp.imp_of_mem fun {x y} hx hy hne e => hne ?_)
    obtain ⟨a, _, ha, _⟩ := hkey x hx
    obtain ⟨b, _, hb, _⟩ := hkey y hy
    simp only [Function.comp_apply, ha, hb, strOf] at e
    rw [ha, hb, e]
  · show s ∈ List.map (fun p => strOf p.1) ((es.toList.map (rg P k anyR)).foldr DataW.insert []) ↔ _
    rw [((sorted_perm _).map _).mem_iff, List.map_map, List.mem_map]
    constructor
    · rintro ⟨x, hx, rfl⟩
      obtain ⟨a, ha, hr, hlen⟩ := hkey x hx
      simp only [Function.comp_apply, hr, strOf]
      refine ⟨hlen, ?_⟩
      rw [← ha, h1 x hx]; exact nofun
    · rintro ⟨hlen, hne⟩
      obtain ⟨x, hx, hxk⟩ := h2 _ hne
      obtain ⟨a, ha, hr, _⟩ := hkey x hx
      refine ⟨x, hx, ?_⟩
      simp only [Function.comp_apply, hr, strOf]
      rw [ha] at hxk
      simpa using hxk
  · show ((es.toList.map (rg P k anyR)).foldr DataW.insert []).length ≤ _
    rw [length_sorted]
    simp
theorem fkeys {V : World} {l : Flds} {ss : List (List UInt8)} {D : DataW Unit} (hs : FSrt l) (hsz : ∀ p ∈ l, p.1.size ≤ 256) (hF : ∀ key, OptU V (fldG l key) (F key)) (h5 : (strKeys D).Nodup) (h6 : ∀ s : List UInt8, s ∈ strKeys D ↔ s.length ≤ maxLen ∧ F (.string ⟨s.toArray⟩) ≠ none) (hp : ss.Perm (strKeys D)) : (ss.mergeSort (fun x y => decide (x ≤ y))).map encStr = l.map fun p => .string p.1 := by
  have hn : ∀ s : Str, F (.string s) ≠ none ↔ fget s l ≠ none := fun s => by
    have := hF (.string s)
    rw [fldG, strM] at this
    cases hg : fget s l with
    | none => rw [hg] at this; exact ⟨fun h => absurd this h, fun h => absurd rfl h⟩
    | some d => rw [hg] at this; obtain ⟨_, v, h, _⟩ := this; rw [h]; exact ⟨fun _ => nofun, fun _ => nofun⟩
  have hperm : ss.Perm (l.map fun p => p.1.data.toList) := by
    refine hp.trans ((List.perm_ext_iff_of_nodup h5 ?_).2 fun s => ?_)
    · refine List.pairwise_map.2 (hs.imp fun {p q} hpq e => ?_)
      have : p.1 = q.1 := str_ext (by rw [toList_data, toList_data, e])
      rw [this, sLt_irr] at hpq; cases hpq
    · rw [h6, List.mem_map, hn]
      constructor
      · rintro ⟨_, h8⟩
        cases hg : fget ⟨s.toArray⟩ l with
        | none => exact absurd hg h8
        | some d => exact ⟨_, fget_mem hg, by simp⟩
      · rintro ⟨p, hp, rfl⟩
        refine ⟨by have := hsz p hp; simp only [Array.length_toList]; unfold maxLen; exact Nat.le_trans this (by decide), ?_⟩
        have : (⟨p.1.data.toList.toArray⟩ : ByteArray) = p.1 := by simp
        rw [this]
        exact fun h => fget_none.1 h (List.mem_map_of_mem hp)
  rw [keys_sorted hs hperm, List.map_map]
  refine List.map_congr_left fun p _ => ?_
  show encStr p.1.data.toList = _
  simp [encStr]
theorem keys_cells {V : World} : ∀ f : Flds, Cells V ((f.map (·.1)).map fun s => [str s]).flatten (f.map fun p => Value.string p.1)
  | [] => trivial
  | _ :: f => ⟨rfl, keys_cells f⟩
abbrev SortedC (g : FuncId) (ty : TypeId) (f : Flds) : Prop := Con Tryz.prog 50 [.one (.clo g [.key 1])] [(0, .map (fldM f)), (1, .box ty [.key 0])] 2 (.one (.key 2)) [(2, .row 9 1 ((f.map (·.1)).map fun s => [str s])), (0, .map (fldM f)), (1, .box ty [.key 0])] 3
theorem sortedG (g : FuncId) (ty : TypeId) (eg : Enters Tryz.prog g) (hseq : ∀ (Bm b nn : Nat) (D0 : DataW Unit) (w : World), Bm < w.heap.size → w.cell? ⟨Bm, 0, none⟩ = some (.map (some b)) → w.ownsMap Tryz.prog 9 anyR b nn D0 → SeqGives Fence.wide 2 Tryz.prog g #[.pointer (some ⟨Bm, 0, none⟩)] encStr (fun ss => ss.Perm (strKeys D0)) (Maps.size D0) w) (f : Flds) (hs : FSrt f) (hl : f.length ≤ 1000000) (hz : ∀ p ∈ f, p.1.size ≤ 256) :
    SortedC g ty f := by
  refine Con.newRow (entersF Tryz.func50 (by kernel_rfl) rfl) fun β S w vs hv hO => ?_
  obtain ⟨vs⟩ := vs
  match vs, hv with
  | [v0], h =>
    obtain ⟨⟨us, e0, h1⟩, _⟩ := h
    match us, h1 with
    | [u], h1 =>
      have hu : u = β 1 := h1.1
      obtain ⟨_, _, b, o, h2, h3, es, clock, F, h4, h5, h6⟩ := hO.is (0, _) (List.mem_cons_self ..)
      obtain ⟨_, _, bx, us2, h7, h8, h9⟩ := hO.is (1, _) (List.mem_cons_of_mem _ (List.mem_cons_self ..))
      have h2 : β 0 = .map (some b) := h2
      have h7 : β 1 = .pointer (some ⟨bx, 0, none⟩) := h7
      match us2, h9, h8 with
      | [u2], h9, h8 =>
        have hu2 : u2 = .map (some b) := h9.1.1.trans h2
        subst h4
        obtain ⟨D, k1, k2, k3, k4⟩ := mapAt_owns h5 h3 Tryz.underlying9
        have hcell : w.cell? ⟨bx, 0, none⟩ = some (.map (some b)) := by rw [cell_of_row _ _ _ _ _ _ h8]; simp [hu2]
        have hsz : es.size ≤ f.length := by
          have := h5.size (string_keyed Tryz.underlying9) (L := f.map fun p => Value.string p.1) fun key hk => fldG_keys f key fun hn => by
            have := h6 key
            rw [hn] at this
            exact hk this
          simpa using this
        have hc := (AnyZ.sorted_in Tryz.sorted50 Fence.wide 5 trivial trivial trivial trivial rfl (by omega) (Tryz.sorts50 _) (entersF Tryz.func81 (by kernel_rfl) rfl) g #[.pointer (some ⟨bx, 0, none⟩)] trivial eg _ (Maps.size D) (by unfold maxLen; omega) (by omega) w (hseq bx b es.size D w (Array.getElem?_eq_some_iff.1 h8).1 hcell k1)).calls room_wide
        rw [e0, hu, h7]
        refine Calls.mono hc ?_
        rintro r w' ⟨v, ss, rfl, hp, hrow, _, hbel⟩
        rw [fkeys hs hz h6 k2 k3 hp] at hrow
        have hlen : ss.length = f.length := by have := hrow.1; simpa using this.symm
        rw [hlen] at hrow
        refine ⟨v, rfl, ⟨hbel.os, hbel.tape, hbel.output, hbel.size, fun b hb _ => hbel.block b hb⟩, ?_, fun β' V' => ⟨fun l hl => by obtain ⟨s, _, rfl⟩ := List.mem_map.1 hl; rfl, ?_⟩, fun g hg => ?_⟩
        · rcases hrow.2 with ⟨rfl, _⟩ | ⟨g, cap, cur, rfl, _⟩ <;> rfl
        · rcases hrow.2 with ⟨rfl, h0⟩ | ⟨g, cap, cur, rfl, _, r1, r2, r3, r4, r5⟩
          · exact .inl ⟨rfl, by rw [List.eq_nil_of_length_eq_zero h0]; rfl⟩
          · refine .inr ⟨g, cap, cur, _, by simp, r1, by simpa using r2, r3, r4, rfl, ?_⟩
            rw [List.length_map, List.length_map, r5]
            exact keys_cells f
        · rcases hrow.2 with ⟨rfl, _⟩ | ⟨g', cap, cur, rfl, hb, _⟩
          · cases hg
          · cases hg; exact hb
end
end Go.Proofs.YtelkpflpgpdkdaaGreatDoor
namespace Go.Proofs.YtelkpflpgpdkdaaGreatDoor
open Go.Sv
set_option maxRecDepth 10000 in
theorem keys35C (f : Flds) : Con Tryz.prog 51 [.one (.key 0)] [(0, .map (fldM f))] 1 (.one (.clo 82 [.key 1])) [(0, .map (fldM f)), (1, .box 100 [.key 0])] 2 := by
  refine fnH Tryz.func51 Tryz.ntmps51 (h := fun S w0 β0 X => ?_)
  refine GO ?_
  refine Ch.p (OpT.clo' (cs := [.key 1])) ⟨rfl, trivial⟩ ?_
  refine GO ?_
  exact finH
set_option maxRecDepth 10000 in
theorem keys249C (f : Flds) : Con Tryz.prog 251 [.one (.key 0)] [(0, .map (fldM f))] 1 (.one (.clo 270 [.key 1])) [(0, .map (fldM f)), (1, .box 286 [.key 0])] 2 := by
  refine fnH Tryz.func251 Tryz.ntmps251 (h := fun S w0 β0 X => ?_)
  refine GO ?_
  refine Ch.p (OpT.clo' (cs := [.key 1])) ⟨rfl, trivial⟩ ?_
  refine GO ?_
  exact finH
theorem sorted35C (f : Flds) (hs : FSrt f) (hl : f.length ≤ 1000000) (hz : ∀ p ∈ f, p.1.size ≤ 256) : SortedC 82 100 f := sortedG 82 100 (entersF Tryz.func82 (by kernel_rfl) rfl) (fun Bm b nn D0 w h1 h2 h3 => Go.Proofs.AnyZ.keys_gives (ρ := Tryz.keys51_ren) { Tryz.keys51 with } Fence.wide _ trivial rfl (by omega) Bm b nn D0 w h1 h2 h3) f hs hl hz
theorem sorted249C (f : Flds) (hs : FSrt f) (hl : f.length ≤ 1000000) (hz : ∀ p ∈ f, p.1.size ≤ 256) : SortedC 270 286 f := sortedG 270 286 (entersF Tryz.func270 (by kernel_rfl) rfl) (fun Bm b nn D0 w h1 h2 h3 => Go.Proofs.AnyZ.keys_gives (ρ := Tryz.keys251_ren) { Tryz.keys251 with } Fence.wide _ trivial rfl (by omega) Bm b nn D0 w h1 h2 h3) f hs hl hz
theorem fputs_mem : ∀ {m l : Flds} {p : Str × Doc}, p ∈ fputs m l → p ∈ m ∨ p ∈ l
  | [], _, _, h => .inr h
  | (s, d) :: m, l, p, h => by
    rcases fputs_mem (m := m) (l := fput s d l) h with h | h
    · exact .inl (List.mem_cons_of_mem _ h)
    · rcases fput_mem h with h | h
      · exact .inl (h ▸ List.mem_cons_self ..)
      · exact .inr h
set_option maxHeartbeats 1000000 in
set_option maxRecDepth 10000 in
theorem docRecC (ks : List Str) (kids : List Doc) (hlen : ks.length = kids.length) (hl : ks.length ≤ 1000000) (hz : ∀ s ∈ ks, s.size ≤ 256) (hf : ∀ d ∈ kids, d.fit) : ∀ n, Con Tryz.prog 26 [dT (strsD ks), dT (sl 5 (docsC kids))] [] n (agD (docF (recOf (fputs (ks.zip kids) [])))) [] n := by
  refine fnI Tryz.func26 Tryz.ntmps26 (h := fun S w0 β0 X => ?_)
  have hfs : FSrt (fputs (ks.zip kids) []) := FSrt.puts List.Pairwise.nil
  have hfl : (fputs (ks.zip kids) []).length ≤ 1000000 := Nat.le_trans (fputs_len _ _) (by rw [List.length_zip]; simp; omega)
  have hfm : ∀ p ∈ fputs (ks.zip kids) [], p.1.size ≤ 256 ∧ p.2.fit := fun p hp => by
    rcases fputs_mem hp with h | h
    · have := List.of_mem_zip (a := p.1) (b := p.2) h
      exact ⟨hz _ this.1, hf _ this.2⟩
    · cases h
  refine GO ?_
  refine Ch.nw (OpT.makeMap 9) trivial ?_
  refine GO ?_
  rw [show (mapM Tryz.prog 9 fun _ => none) = fldM (fputs ((ks.zip kids).take 0) []) by rw [fldM, List.take_zero, fputs, fldG_nil]]
  have s9 : Stop 9 := ⟨⟩
  refine W.lpG ((· ≤ ks.length)) (fun k => [(20, iT k)]) [(1, _), (4, _), (5, _), (18, _), (19, _)] (fun k => [(1, .map (fldM (fputs ((ks.zip kids).take k) [])))]) [(0, _)] (ks.length - ·) 0 (Nat.zero_le _) (round := fun k hi => ?_)
  by_cases hlt : k < ks.length
  · have hs := List.getElem?_eq_getElem hlt
    generalize ks[k] = s at hs
    have hx := List.getElem?_eq_getElem (show k < kids.length by omega)
    generalize kids[k]'(by omega) = x at hx
    have hzk : (ks.zip kids)[k]? = some (s, x) := by rw [List.getElem?_zip_eq_some]; exact ⟨hs, hx⟩
    have hup := fputs_succ hzk
    have hfl2 : (fputs ((ks.zip kids).take k) []).length ≤ 1000000 := Nat.le_trans (fputs_len _ _) (by rw [List.length_take]; simp; omega)
    have hsz := hz s (List.mem_of_getElem? hs)
    rw [show fldM (fputs ((ks.zip kids).take k) []) = mapM Tryz.prog 9 (fldG (fputs ((ks.zip kids).take k) [])) from rfl]
    generalize fputs ((ks.zip kids).take k) [] = f at *
    obtain ⟨g1, g2⟩ := fldG_put s x f
    refine GO ?_
    refine Ch.put (u := fldU x) (fldG (fput s x f)) (f.map fun p => Value.string p.1) (fldG_keys f) (by rw [List.length_map]; omega) (keyS (k := 9) (by omega)) g1 g2 (r := ?_)
    refine GO ?_
    rw [← hup]
    exact W.ag (k + 1) (hlt) (by omega)
  · obtain rfl : k = ks.length := by omega
    rw [List.take_of_length_le (by rw [List.length_zip]; omega)]
    generalize fputs (ks.zip kids) [] = f at *
    clear s9
    refine GO ?_
    refine Ch.ch [1] (keys35C f) (r := ?_)
    refine GO ?_
    refine Ch.ch [1, 3] (sorted35C f hfs hfl fun p hp => (hfm p hp).1) (r := ?_)
    refine GO ?_
    refine W.frz 4 (h := ?_)
    refine W.nilB 2 3 9 1 (h := ?_)
    refine W.nilB 2 4 48 5 (h := ?_)
    refine GO ?_
    rw [show ((f.map (·.1)).map fun s => [str s]).length = f.length by simp]
    refine W.lpG ((· ≤ f.length)) (fun j => [(37, iT j)]) [(4, _), (5, _), (8, _), (35, _), (36, _)] (fun j => [(5, .row 9 1 (((f.take j).map (·.1)).map fun s => [str s])), (6, .row 48 5 (docsC ((f.take j).map (·.2))))]) [(0, _), (1, _), (2, _)] (f.length - ·) 0 (Nat.zero_le _) (round := fun j hj => ?_)
    by_cases hlt2 : j < f.length
    · have hp := List.getElem?_eq_getElem hlt2
      generalize f[j] = p at hp
      obtain ⟨s, x⟩ := p
      have hs : (f.map (·.1))[j]? = some s := by rw [List.getElem?_map, hp]; rfl
      have hg : fget s f = some x := fget_of_mem hfs (List.mem_of_getElem? hp)
      have hsz : s.size ≤ 256 := (hfm _ (List.mem_of_getElem? hp)).1
      have hxf : x.fit := (hfm _ (List.mem_of_getElem? hp)).2
      have hl1 : (((f.take j).map (·.1)).map fun s => [str s]).length = j := by simp; omega
      have hl2 : (docsC ((f.take j).map (·.2))).length = j := by rw [docsC_len]; simp; omega
      have hn1 : (((f.take j).map (·.1)).map fun s => [str s]) ++ [[str s]] = (((f.take (j + 1)).map (·.1)).map fun s => [str s]) := by rw [List.take_add_one, hp]; simp
      have hn2 : docsC ((f.take j).map (·.2)) ++ [docF x] = docsC ((f.take (j + 1)).map (·.2)) := by rw [(rowDocs _).eq, (rowDocs ((f.take (j + 1)).map (·.2))).eq, List.take_add_one, hp]; simp
      rw [show fldM f = mapM Tryz.prog 9 (fldG f) from rfl]
      refine GO ?_
      refine Ch.ap ⟨rfl, rfl, trivial⟩ (hb := by rw [hl1]; simp; omega) (r := ?_)
      refine GO ?_
      refine Ch.look (f := fldG f) (key := .string s) (o := some (fldU x)) (by rw [fldG, strM, hg]; rfl) (keyS (k := 9) (by omega)) (r := ?_)
      refine GO ?_
      refine Ch.c (docCopyC x hxf) (r := ?_)
      refine GO ?_
      rw [hn1, hn2]
      refine W.swap 5 7 (h := ?_)
      refine W.swap 6 8 (h := ?_)
      exact W.ag (j + 1) (hlt2) (by omega)
    · obtain rfl : j = f.length := by omega
      rw [List.take_length]
      refine W.frz 5 (h := ?_)
      refine W.frz 6 (h := ?_)
      refine GO ?_
      exact fin1
end Go.Proofs.YtelkpflpgpdkdaaGreatDoor
namespace Go.Proofs.YtelkpflpgpdkdaaGreatDoor
open Go.Sv
set_option maxRecDepth 10000 in
set_option maxHeartbeats 1000000 in
theorem fdocC : FDocH := by
  intro f hfs hfl hfm
  refine fnH Tryz.func220 Tryz.ntmps220 (h := fun S w0 β0 X => ?_)
  have hrec : fputs ((f.map (·.1)).zip (f.map (·.2))) [] = f := fOf_rec hfs
  have hd := docRecC (f.map (·.1)) (f.map (·.2)) (by simp) (by simpa using hfl) (fun s hs => by obtain ⟨p, hp, rfl⟩ := List.mem_map.1 hs; exact (hfm p hp).1) (fun d hd => by obtain ⟨p, hp, rfl⟩ := List.mem_map.1 hd; exact (hfm p hp).2)
  rw [hrec] at hd
  refine GO ?_
  refine Ch.ch [0] (keys249C f) (r := ?_)
  refine GO ?_
  refine Ch.ch [0, 2] (sorted249C f hfs hfl fun p hp => (hfm p hp).1) (r := ?_)
  refine GO ?_
  refine W.frz 3 (h := ?_)
  refine W.nilT 4 48 5 (h := ?_)
  refine GO ?_
  rw [show ((f.map (·.1)).map fun s => [str s]).length = f.length by simp]
  refine W.lpG ((· ≤ f.length)) (fun j => [(4, .one (.key 4)), (12, iT j)]) [(0, _), (2, _), (3, _), (10, _), (11, _)] (fun j => [(4, .row 48 5 (docsC ((f.take j).map (·.2))))]) [(0, _), (1, _)] (f.length - ·) 0 (Nat.zero_le _) (round := fun j hj => ?_)
  by_cases hlt2 : j < f.length
  · have hp := List.getElem?_eq_getElem hlt2
    generalize f[j] = p at hp
    obtain ⟨s, x⟩ := p
    have hs : (f.map (·.1))[j]? = some s := by rw [List.getElem?_map, hp]; rfl
    have hg : fget s f = some x := fget_of_mem hfs (List.mem_of_getElem? hp)
    have hsz : s.size ≤ 256 := (hfm _ (List.mem_of_getElem? hp)).1
    have hl2 : (docsC ((f.take j).map (·.2))).length = j := by rw [docsC_len]; simp; omega
    have hn2 : docsC ((f.take j).map (·.2)) ++ [docF x] = docsC ((f.take (j + 1)).map (·.2)) := by rw [(rowDocs _).eq, (rowDocs ((f.take (j + 1)).map (·.2))).eq, List.take_add_one, hp]; simp
    rw [show fldM f = mapM Tryz.prog 9 (fldG f) from rfl]
    refine GO ?_
    refine Ch.look (f := fldG f) (key := .string s) (o := some (fldU x)) (by rw [fldG, strM, hg]; rfl) (keyS (k := 9) (by omega)) (r := ?_)
    refine GO ?_
    rw [hn2]
    refine W.swap 4 5 (h := ?_)
    exact W.ag (j + 1) (hlt2) (by omega)
  · obtain rfl : j = f.length := by omega
    rw [List.take_length]
    refine W.frz 4 (h := ?_)
    refine GO ?_
    refine Ch.c (hd) (r := ?_)
    refine GO ?_
    exact finH
end Go.Proofs.YtelkpflpgpdkdaaGreatDoor
namespace Go.Proofs.YtelkpflpgpdkdaaGreatDoor
open Go.Sv
set_option maxRecDepth 10000 in
set_option maxHeartbeats 2000000 in
theorem revLensC : RevLensH := by
  intro ls hl h16
  refine fnH Tryz.func214 Tryz.ntmps214 (h := fun S w0 β0 X => ?_)
  by_cases hne : 0 < ls.length
  rotate_left
  · have : ls = [] := List.eq_nil_of_length_eq_zero (by omega)
    subst this
    refine GO ?_
    refine W.lp (fun k : Nat => k = 0) (fun k => [(2, iT 0), (3, iT (-1))]) [(0, _)] (fun k => k) 0 rfl (round := fun k hk => ?_)
    refine GO ?_
    exact finH0n
  refine GO ?_
  refine W.cap (ls := ls) 0 hne (h := fun c hc hc2 => ?_)
  refine W.hdr 0 0 (ls := ls) (h := ?_)
  refine W.uncap 0 (h := ?_)
  refine W.lpG (fun k : Nat => k ≤ ls.length) (fun k => [(2, iT k), (3, iT ((ls.length : Int) - ((k + 1 : Nat) : Int)))]) [(0, _)] (fun k => [(0, .row 210 16 (revK ls k))]) [] (fun k : Nat => ls.length - k) 0 (Nat.zero_le _) (hH := by rw [revK_zero]; (repeat (first | exact SubH.nil | refine SubH.cons rfl ?_))) (round := fun k hk => ?_)
  by_cases hlt : 2 * k + 1 < ls.length
  · obtain ⟨j, hj⟩ : ∃ j : Nat, (ls.length : Int) - ((k + 1 : Nat) : Int) = j := ⟨ls.length - (k + 1), by omega⟩
    have hkj : k < j := by omega
    have hx := List.getElem?_eq_getElem (show k < ls.length by omega)
    have hy := List.getElem?_eq_getElem (show j < ls.length by omega)
    generalize ls[k]'(by omega) = x at hx
    generalize ls[j]'(by omega) = y at hy
    have hxl := h16 x (List.mem_of_getElem? hx)
    have hyl := h16 y (List.mem_of_getElem? hy)
    have hs := revK_step (show j + k + 1 = ls.length by omega) hkj hx hy
    have hgx := revK_at (k := k) hx (Nat.le_refl _) (by omega)
    have hgy := revK_at (k := k) hy (by omega) (by omega)
    have hlk : k < (revK ls k).length := by rw [revK_len]; omega
    have hlj : j < (revK ls k).length := by rw [revK_len]; omega
    have hk1 : k < ls.length + 0 := by omega
    have hj1 : j < ls.length + 0 := by omega
    clear hx hy
    match x, y, hxl, hyl, hs, hgx, hgy with
    | [x0, x1, x2, x3, x4, x5, x6, x7, x8, x9, x10, x11, x12, x13, x14, x15], [y0, y1, y2, y3, y4, y5, y6, y7, y8, y9, y10, y11, y12, y13, y14, y15], hxl, hyl, hs, hgx, hgy =>
      rw [hj]
      refine GO ?_
      refine Ch.p (OpT.indexS hj1) ⟨rfl, rfl, trivial⟩ ?_
      refine Ch.r (OpT.loadW hgy (ho := Nat.zero_add _) (hlk := hyl)) ⟨rfl, trivial⟩ rfl ?_
      refine GO ?_
      refine Ch.p (OpT.indexS hk1) ⟨rfl, rfl, trivial⟩ ?_
      refine Ch.r (OpT.loadW hgx (ho := Nat.zero_add _) (hlk := hxl)) ⟨rfl, trivial⟩ rfl ?_
      refine GO ?_
      refine Ch.p (OpT.indexS hk1) ⟨rfl, rfl, trivial⟩ ?_
      refine Ch.storeW (hs := .ag [y0, y1, y2, y3, y4, y5, y6, y7, y8, y9, y10, y11, y12, y13, y14, y15]) (hj := hlk) (ho := Nat.zero_add _) (hlk := hyl) (r := ?_)
      refine GO ?_
      refine Ch.p (OpT.indexS hj1) ⟨rfl, rfl, trivial⟩ ?_
      refine Ch.storeW (hs := .ag [x0, x1, x2, x3, x4, x5, x6, x7, x8, x9, x10, x11, x12, x13, x14, x15]) (hj := show j < ((revK ls k).set k [y0, y1, y2, y3, y4, y5, y6, y7, y8, y9, y10, y11, y12, y13, y14, y15]).length by rw [List.length_set]; exact hlj) (ho := Nat.zero_add _) (hlk := hxl) (r := ?_)
      rw [hs]
      refine GO ?_
      rw [show (j : Int) - 1 = (ls.length : Int) - ((k + 1 + 1 : Nat) : Int) by omega]
      exact W.ag (k + 1) ((by omega)) (by omega)
  · rw [revK_end (by omega)]
    by_cases hlt2 : k < (ls.length : Int) - ((k + 1 : Nat) : Int)
    · exact absurd hlt2 (by omega)
    refine GO ?_
    exact finH0n
end Go.Proofs.YtelkpflpgpdkdaaGreatDoor
namespace Go.Proofs.YtelkpflpgpdkdaaGreatDoor
open Go.Sv
theorem W.boxL {cx : Cx} {n : Nat} {F : FL} {H H2 : HL} {K : Act → World → Prop} (κ : Nat) (l l' : List D) {ty : TypeId} (hw : ∀ w us, Cells w l us → Cells w l' us) (hR : Rep κ (.box ty (l.map C.d)) (.box ty (l'.map C.d)) H H2 := by (repeat (first | exact Rep.here (by rfl) | (apply Rep.there; rfl)))) (h : Wk cx n F H2 K) : Wk cx n F H K := fun β a w hh =>
  h β a w (hh.tell κ hR agD_keys fun _ ⟨b, us, h1, h2, h3⟩ => ⟨b, us, h1, h2, all2_map.2 (hw _ _ (all2_map.1 h3))⟩)
def zS : List D := [i64 0, i64 0, str ⟨#[]⟩, nilD, nilD, nilD]
theorem nil_state (w : World) (us : List Value) (h : Cells w zS us) : Cells w (stateF zeroS) us := by
  match us, h with
  | [_, _, _, _, _, _], h => exact ⟨h.1, h.2.1, h.2.2.1, nil_sl 1 _ _ h.2.2.2.1, nil_sl 5 _ _ h.2.2.2.2.1, nil_sl 8 _ _ h.2.2.2.2.2.1, trivial⟩
theorem nil_wk (e : Int) (bk : Bool) (rs : List Res) (w : World) (us : List Value) (h : Cells w [i64 e, bl bk, sl 8 (rs.map resF), nilD, i64 0] us) : Cells w (wkF e bk rs [] 0) us := by
  match us, h with
  | [_, _, _, _, _], h => exact ⟨h.1, h.2.1, h.2.2.1, nil_sl 8 _ _ h.2.2.2.1, h.2.2.2.2.1, trivial⟩
theorem nil_place (w : World) (us : List Value) (h : Cells w [nilD, nilD] us) : Cells w (placeF [] []) us := by
  match us, h with
  | [_, _], h => exact ⟨nil_sl 1 _ _ h.1, nil_sl 1 _ _ h.2.1, trivial⟩
def goesU (p : (State × List Res) × Int) : T := .tup [.ag ((stateF p.1.1).map C.d), .one (.d (sl 8 (p.1.2.map resF))), .one (.d (i64 p.2))]
theorem effs_fit {l : List Lens} (bk : Bool) (h : Lens.fit l) : Lens.fit (effs bk l) := by
  cases bk with
  | false => exact h
  | true => exact ⟨by rw [show effs true l = Lens.back l from rfl, back_size]; exact h.1, Lens.back_fits _ h.2⟩
theorem effs_wides {l : List Lens} (bk : Bool) (h : Lens.wides l) : Lens.wides (effs bk l) := by
  cases bk with
  | false => exact h
  | true => exact Lens.back_wides _ h
set_option maxHeartbeats 2000000 in
set_option maxRecDepth 10000 in
theorem agoesC (t : Typ) (l : List Lens) (e : Int) (bk : Bool) (s : State) (hR : RawH) (ht : t.fit) (hfit : Lens.fit l) (hw : Lens.wides l) (hs : StFit s) : ∀ n, Con Tryz.prog 180 [agD (typF t), dT (sl 16 (lensesC l)), iT e, bT bk, agD (stateF s)] [] n (goesU (goesS cvP t l e bk s)) [] n := by
  refine fnI Tryz.func180 Tryz.ntmps180 (h := fun S w0 β0 X => ?_)
  obtain ⟨q, hq⟩ : ∃ q, q = goesS cvP t l e bk s := ⟨_, rfl⟩
  rw [← hq]
  have hT := ltargetC t (effs bk l) hR ht (effs_fit bk hfit) (effs_wides bk hw)
  have hB := lbackC revLensC (Lens.size l + 1) l (Nat.lt_succ_self _) hfit
  have hW := fun m l hz hf => wstepsC putC fdocC revLensC e bk m l hz hf
  unfold goesS at hq
  have s4 : Stop 4 := ⟨⟩
  refine GO ?_
  refine W.mid 3 [(13, dT (sl 16 (lensesC (effs bk l))))] [(1, _), (2, _), (3, _), (5, _), (9, _), (10, _), (11, _), (12, _)] [] [(0, _), (1, _), (2, _)] (h1 := ?_) (h2 := ?_)
  · cases bk with
    | false =>
      refine GO ?_
      exact W.meet
    | true =>
      refine GO ?_
      refine Ch.c (hB) (r := ?_)
      refine GO ?_
      exact W.meet
  clear s4
  have s5 : Stop 5 := ⟨⟩
  refine GO ?_
  refine Ch.c (hT) (r := ?_)
  refine GO ?_
  clear s5
  by_cases h0 : (Lens.target (effs bk l) t).2 ≠ 0
  · rw [if_pos h0] at hq
    subst hq
    refine GO ?_
    refine W.boxL 2 zS (stateF zeroS) nil_state (h := ?_)
    refine W.less 11 (sl 8 []) rfl (nil_sl 8) ?_
    exact fin3
  rw [if_neg h0] at hq
  have h0' := Classical.not_not.1 h0
  refine GO ?_
  refine Ch.c (resRightC s.res hs.res) (r := ?_)
  refine GO ?_
  cases hr : resRight s.res with
  | false =>
    rw [if_pos hr] at hq
    subst hq
    refine GO ?_
    refine W.boxL 2 zS (stateF zeroS) nil_state (h := ?_)
    refine W.less 11 (sl 8 []) rfl (nil_sl 8) ?_
    exact fin3
  | true =>
  rw [if_neg (by rw [hr]; exact nofun)] at hq
  refine GO ?_
  refine Ch.c (isC t s.doc itoaC ht hs.doc) (r := ?_)
  refine GO ?_
  cases hi : isOf t s.doc with
  | false =>
    rw [if_pos hi] at hq
    subst hq
    refine GO ?_
    refine W.boxL 2 zS (stateF zeroS) nil_state (h := ?_)
    refine W.less 11 (sl 8 []) rfl (nil_sl 8) ?_
    exact fin3
  | true =>
  rw [if_neg (by rw [hi]; exact nofun)] at hq
  obtain ⟨_, _, hok, ⟨g, w, e1, hwk⟩, _⟩ := walk_goes (ed := e) (bk := bk) cvP_ok hs h0' hr hi
  rw [e1] at hq
  simp only at hq
  have s13 : Stop 13 := ⟨⟩
  have hst := (hW (Lens.size l + 1) l (Nat.lt_succ_self _) hfit s.doc [] [] ⟨s.res, [], 0⟩ w g hok hs.doc (Nat.zero_le _) (Nat.zero_le _) e1 hwk.fok).argL (args := [.one (.key 0), dT (sl 16 (lensesC l)), agD (docF s.doc), agD [nilD, nilD]]) ⟨.refl _, .refl _, .refl _, .ag nil_place, trivial⟩
  refine GO ?_
  refine Ch.c (stCopyC s hs) (r := ?_)
  refine GO ?_
  refine W.boxL 4 [i64 e, bl bk, sl 8 (s.res.map resF), nilD, i64 0] (wkF e bk s.res [] 0) (nil_wk e bk s.res) (h := ?_)
  clear s13
  refine GO ?_
  refine Ch.ch [4] hst (r := ?_)
  refine GO ?_
  unfold goesEnd at hq
  by_cases h3 : w.err ≠ 0
  · rw [if_pos h3] at hq
    subst hq
    refine GO ?_
    refine W.boxL 2 zS (stateF zeroS) nil_state (h := ?_)
    refine W.less 11 (sl 8 []) rfl (nil_sl 8) ?_
    exact fin3
  rw [if_neg h3] at hq
  refine GO ?_
  refine Ch.c (resRightC w.res hwk.res) (r := ?_)
  refine GO ?_
  cases hr2 : resRight w.res with
  | false =>
    rw [if_pos hr2] at hq
    subst hq
    refine GO ?_
    refine W.boxL 2 zS (stateF zeroS) nil_state (h := ?_)
    refine W.less 11 (sl 8 []) rfl (nil_sl 8) ?_
    exact fin3
  | true =>
  rw [if_neg (by rw [hr2]; exact nofun)] at hq
  refine GO ?_
  refine Ch.c (docRightC (recOf g) hwk.doc) (r := ?_)
  refine GO ?_
  cases hd : (recOf g).right with
  | false =>
    rw [if_pos hd] at hq
    subst hq
    refine GO ?_
    refine W.boxL 2 zS (stateF zeroS) nil_state (h := ?_)
    refine W.less 11 (sl 8 []) rfl (nil_sl 8) ?_
    exact fin3
  | true =>
  rw [if_neg (by rw [hd]; exact nofun)] at hq
  subst hq
  refine GO ?_
  exact fin3
end Go.Proofs.YtelkpflpgpdkdaaGreatDoor
