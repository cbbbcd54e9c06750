/- Part 26 of what StageOrder and StagePlans ask: for every input each returns true, and its input reads as it did. No condition. -/
import Derived.Test.YtelkpflpgpdkdaaGreatDoorPt24
import Derived.Maps.OwnOps
import Derived.Maps.OwnSet
import Derived.Maps.Range
import Derived.Sort.KeysCollected
namespace Go.Sv
open Go Go.RowKit Go.Lib Go.Maps Go.MapKept
open Go.WideElems (rd rg pl rd_key rd_val rg_of rd_mk)
open Go.WideShapes (sorted_perm)
open Go.ChangeMaps (setBlock putKey notKey heap_setBlock_same heap_setBlock_other mem_insert_iff)

def anyR (_ : Value) : Option (DataW Unit × List MemPlace) := some (.lit (.bool true), [])
theorem len_of {α : Type} : ∀ {l m : List α}, l.Nodup → (∀ x ∈ l, x ∈ m) → l.length ≤ m.length
  | [], _, _, _ => Nat.zero_le _
  | x :: l, m, hn, hs => by
    obtain ⟨m1, m2, rfl⟩ := List.append_of_mem (hs x (List.mem_cons_self ..))
    rw [List.nodup_cons] at hn
    have := len_of hn.2 (m := m1 ++ m2) fun y hy => by
      have := hs y (List.mem_cons_of_mem _ hy)
      simp only [List.mem_append, List.mem_cons] at this ⊢
      rcases this with h | rfl | h
      · exact .inl h
      · exact absurd hy hn.1
      · exact .inr h
    simp only [List.length_append, List.length_cons] at this ⊢
    omega
/-- What a map's block holds: F tells what stands at a key. -/
structure MapAt (P : Program) (k : TypeId) (es : Array MapEntry) (clock : Nat) (F : Value → Option Value) : Prop where
  fit : Go.WideElems.Fit P k anyR es clock
  at_ : ∀ x ∈ es.toList, F x.key = some x.val
  all : ∀ key, F key ≠ none → ∃ x ∈ es.toList, x.key = key
section
variable {P : Program} {k t e : TypeId} {w w' : World} {b n : Nat} {F : Value → Option Value} {es : Array MapEntry} {clock : Nat}
theorem mapAt_new : MapAt P k #[] 0 (fun _ => none) := by
  obtain ⟨es, clock, hb, hF, hs, _⟩ := World.ownsMap_made (H := Unit) (default : World) P k anyR
  rw [heap_alloc_new] at hb
  cases hb
  exact ⟨hF, fun x hx => by simp at hx, fun key h => absurd rfl h⟩
theorem MapAt.size (h : MapAt P k es clock F) (K : Keyed P k) {L : List Value} (hL : ∀ key, F key ≠ none → key ∈ L) : es.size ≤ L.length := by
  have hp := fit_apart K h.fit
  rw [List.pairwise_map] at hp
  have := len_of (l := es.toList.map MapEntry.key) (List.pairwise_map.2 (hp.imp_of_mem fun {x y} hx hy hne e => hne (by
    obtain ⟨a, ha⟩ := h.fit.reads x hx
    obtain ⟨b, hb⟩ := h.fit.reads y hy
    have h1 := rd_key ha
    rw [e, rd_key hb] at h1
    rw [rg_of ha, rg_of hb, Option.some.inj h1]))) fun x hx => by
    obtain ⟨y, hy, rfl⟩ := List.mem_map.1 hx
    exact hL _ (by rw [h.at_ y hy]; exact nofun)
  simpa using this
theorem MapAt.look (c : Bool) (h : MapAt P k es clock F) (hb : w.heap[b]? = some (.map es clock)) (K : Keyed P k) (ht : P.underlying t = some (.map k e)) {z : Value} (hz : (zeroValue e).run P w = .ok z w) {key : Value} {kl : Lit} (hkey : keyOf P k key = some kl) :
    (Instr.lookup t (.map (some b)) key c).run P w = .ok (if c then .tuple #[(F key).getD z, .bool (F key).isSome] else (F key).getD z) w := by
  rcases Maps.fit_look c K ht hz hb h.fit hkey with ⟨hrun, hno, _⟩ | ⟨e0, y, hm, hk, hrun, _⟩
  · have : F key = none := by
      cases hf : F key with
      | none => rfl
      | some v => obtain ⟨x, hx, hxk⟩ := h.all key (by rw [hf]; simp); exact absurd hxk (hno x hx)
    rw [hrun, this]; rfl
  · have := h.at_ e0 hm
    rw [hk] at this
    rw [hrun, this]; rfl
theorem MapAt.put (h : MapAt P k es clock F) (hb : w.heap[b]? = some (.map es clock)) (K : Keyed P k) (ht : P.underlying t = some (.map k e)) (hn : es.size < maxLen) {key val : Value} {kl : Lit} (hkey : keyOf P k key = some kl) {F' : Value → Option Value} (hF1 : F' key = some val) (hF2 : ∀ x, x ≠ key → F' x = F x) :
    ∃ es' clock', (Instr.mapUpdate t (.map (some b)) key val).run P w = .ok () (setBlock w b (.map es' clock')) ∧ MapAt P k es' clock' F' := by
  obtain ⟨hF, h1, h2⟩ := h
  obtain ⟨es', clock', hrun, Ft', hput, _, _, hwho⟩ := Maps.fit_store (R' := anyR) K ht hb hF hn (fun _ _ _ _ hz => hz) hkey (val := val) rfl
  have hrd : ∀ {es : Array MapEntry} {clock : Nat}, Go.WideElems.Fit P k anyR es clock → ∀ {l : Lit}, (∃ x ∈ es.toList, keyOf P k x.key = some l) ↔ (l, DataW.lit (.bool true)) ∈ (es.toList.map (rg P k anyR)).foldr DataW.insert [] := fun {es clock} hF {l} => by
    rw [(sorted_perm _).mem_iff, List.mem_map]
    constructor
    · rintro ⟨x, hx, hl⟩
      exact ⟨x, hx, rg_of (rd_mk (R := anyR) (born := x.born) hl rfl)⟩
    · rintro ⟨x, hx, hl⟩
      obtain ⟨y, hy⟩ := hF.reads x hx
      rw [rg_of hy] at hl
      have := rd_key hy
      rw [hl] at this
      exact ⟨x, hx, this⟩
  refine ⟨es', clock', hrun, Ft', fun x hx => ?_, fun x hx => ?_⟩
  · rcases hwho x hx with ⟨h3, h4⟩ | ⟨h3, h4⟩
    · rw [hF2 _ h4]; exact h1 x h3
    · rw [h3, hF1, h4]
  · have hl : ∃ l, keyOf P k x = some l := by
      by_cases hxk : x = key
      · exact ⟨kl, by rw [hxk]; exact hkey⟩
      · rw [hF2 _ hxk] at hx
        obtain ⟨y, hy, rfl⟩ := h2 x hx
        obtain ⟨z, hz⟩ := hF.reads y hy
        exact ⟨_, rd_key hz⟩
    obtain ⟨l, hl⟩ := hl
    have hmem : (l, DataW.lit (.bool true)) ∈ (es'.toList.map (rg P k anyR)).foldr DataW.insert [] := by
      rw [hput]
      unfold putKey
      rw [mem_insert_iff]
      by_cases hxk : x = key
      · subst hxk
        rw [hkey] at hl
        cases hl
        exact .inl rfl
      · rw [hF2 _ hxk] at hx
        obtain ⟨y, hy, rfl⟩ := h2 x hx
        refine .inr (List.mem_filter.2 ⟨(hrd hF).1 ⟨y, hy, hl⟩, ?_⟩)
        rw [notKey_iff (K.key hkey)]
        exact fun he => hxk (K.inj hl (by rw [hkey, ← he]))
    obtain ⟨y, hy, hly⟩ := (hrd Ft').2 hmem
    exact ⟨y, hy, K.inj hly hl⟩
theorem MapAt.drop (h : MapAt P k es clock F) (hb : w.heap[b]? = some (.map es clock)) (K : Keyed P k) (ht : P.underlying t = some (.map k e)) {key : Value} {kl : Lit} (hkey : keyOf P k key = some kl) {F' : Value → Option Value} (hF1 : F' key = none) (hF2 : ∀ x, x ≠ key → F' x = F x) (ty : TypeId) :
    ∃ es', (Builtin.delete_ #[t, k] ty #[.map (some b), key]).run P w = .ok (.tuple #[]) (setBlock w b (.map es' clock)) ∧ MapAt P k es' clock F' := by
  obtain ⟨hF, h1, h2⟩ := h
  obtain ⟨es', hrun, Ft', hsz, _, _, hwho⟩ := fit_drop_who (ty := ty) K ht hb hF hkey
  refine ⟨es', hrun, Ft', fun x hx => ?_, fun x hx => ?_⟩
  · obtain ⟨h3, h4⟩ := (hwho x).1 hx
    rw [hF2 _ h4]; exact h1 x h3
  · by_cases hxk : x = key
    · rw [hxk, hF1] at hx; exact absurd rfl hx
    · rw [hF2 _ hxk] at hx
      obtain ⟨y, hy, rfl⟩ := h2 x hx
      exact ⟨y, (hwho y).2 ⟨hy, hxk⟩, rfl⟩
end
/-- A value of data. -/
def U.plain (u : U) : Prop := u.keys = []
/-- What stands at each key. -/
def OptU (V : World) (o : Option U) (r : Option Value) : Prop := match o with
  | none => r = none
  | some u => u.keys = [] ∧ ∃ v, r = some v ∧ U.is (fun _ => undef) V u v
/-- A map: f tells what stands at a key. -/
def mapM (P : Program) (k : TypeId) (f : Value → Option U) : M where
  is V o := ∃ es clock F, o = .map es clock ∧ MapAt P k es clock F ∧ ∀ key, OptU V (f key) (F key)
  mono := by
    rintro w w' o hS ⟨es, clock, F, h1, h2, h3⟩
    refine ⟨es, clock, F, h1, h2, fun key => ?_⟩
    have := h3 key
    cases hf : f key with
    | none => rw [hf] at this; exact this
    | some u =>
      rw [hf] at this
      obtain ⟨h4, v, h5, h6⟩ := this
      exact ⟨h4, v, h5, U.keep (fun _ _ => rfl) hS h6⟩
def strM (g : ByteArray → Option U) : Value → Option U
  | .string s => g s
  | _ => none
def intM (g : Int → Option U) : Value → Option U
  | .int .i64 n => g n
  | _ => none
def lookU : Bool → Option U → U → T
  | false, o, z => (o.getD z).t
  | true, o, z => .tup [o.getD z, .one (.d (bl o.isSome))]
def zeroU (l : Lay) : Option U := match l.kind.agg, l.zero with
  | true, zs => some (.ag (zeroC zs))
  | false, [z] => some (.one (.d (lit z.val z.one)))
  | _, _ => none
theorem zeroU_is {P : Program} [Lays P] {e : TypeId} {l : Lay} {u : U} (he : lay P e = some l) (h : zeroU l = some u) (w : World) {β : Env} {V : World} : ∃ z, (zeroValue e).run P w = .ok z w ∧ u.is β V z := by
  obtain ⟨d, i, z, hd, hi, _, _, hz, hzc, ha⟩ := lay_all he
  obtain ⟨z', h1, h2⟩ := lay_zero he w
  have : z' = z := by
    have hr : (zeroValue e).run P w = .ok z w := by
      simp [zeroValue, typeInfo, Sem.run_bind, hi, hz]
    rw [h1] at hr
    exact (Result.ok.inj hr).1
  subst this
  refine ⟨_, h1, ?_⟩
  unfold zeroU at h
  split at h
  · rename_i hag
    cases h
    obtain ⟨cs, rfl⟩ := ha.1 hag
    refine ⟨cs.toList, by simp, ?_⟩
    have h2 : cs.toList = l.zero.map ZK.val := h2
    rw [h2]
    exact zero_cells _
  · rename_i zk hag hz1
    cases h
    have hna : ¬ ∃ cs, z' = .agg cs := fun hc => by rw [ha.2 hc] at hag; cases hag
    have hc : z'.cells.toList = [z'] := by
      cases z' with
      | agg cs => exact absurd ⟨cs, rfl⟩ hna
      | _ => rfl
    rw [hc, hz1] at h2
    exact List.cons.inj h2 |>.1
  · cases h
theorem lay_map {P : Program} [Lays P] {t k e we : Nat} {fl : List (Nat × Nat)} {z : List ZK} (h : lay P t = some ⟨.map k e, we, fl, z⟩) : P.underlying t = some (.map k e) := by
  obtain ⟨d, i, z, hd, hi, _, hl, _⟩ := lay_all h
  rw [hd]
  cases d <;> simp [lkB] at hl
  rw [hl.1, hl.2]
/-- A key: a text, or a number. -/
structure KeyOk (P : Program) (k : TypeId) (v : Value) : Prop where
  K : Keyed P k
  at_ : ∃ kl, keyOf P k v = some kl
theorem keyS {P : Program} [Lays P] {k we : Nat} {fl : List (Nat × Nat)} {z : List ZK} {s : ByteArray} (h : s.size ≤ 9223372036854775807) (hk : lay P k = some ⟨.str, we, fl, z⟩ := by rfl) : KeyOk P k (.string s) :=
  ⟨string_keyed (lay_str hk), _, WideMaps.keyOf_string_mk (lay_str hk) (by unfold maxLen; exact h)⟩
theorem keyI {P : Program} [Lays P] {k we : Nat} {fl : List (Nat × Nat)} {z : List ZK} {n : Int} (h : (Lit.int .i64 n).wf = true) (hk : lay P k = some ⟨.int .i64, we, fl, z⟩ := by rfl) : KeyOk P k (.int .i64 n) :=
  ⟨int_keyed (lay_int hk), _, keyOf_int_mk (lay_int hk) h⟩
section
variable {P : Program} {ops : Array Oper} {n : Nat} {d : Option Tmp} {ty t : TypeId} {pos : String} {af : Array Edge} {x y z : Operand} {κ k e we : Nat} {fl : List (Nat × Nat)} {zs : List ZK} {le : Lay} {f f' : Value → Option U}
theorem OpT.makeMap (k : TypeId) : OpT P ops (mkO d (.makeMap t none) ty pos af) n [] [] [] (.one (.key n)) [(n, .map (mapM P k fun _ => none))] (n + 1) :=
  ⟨Nat.le_succ n, fun β S w a K htin hb hO hK => by
    rw [if_pos (by simp [Region.wanted])]
    unfold Oper.wp
    have h1 : (execOp a.eval (mkO d (.makeMap t none) ty pos af)).run P w = .ok (.value (.map (some w.heap.size))) (w.alloc (.map #[] 0)) := by
      simp [execOp, run_makeMap]
    rw [h1]
    obtain ⟨β', hβ'⟩ : ∃ β' : Env, β' = fun κ => if κ = n then .map (some w.heap.size) else β κ := ⟨_, rfl⟩
    have hn : β' n = .map (some w.heap.size) := by rw [hβ']; exact if_pos rfl
    have hlt : ∀ κ, κ < n → β' κ = β κ := fun κ hκ => by rw [hβ']; exact if_neg (by omega)
    have hkept : Kept [] w (w.alloc (.map #[] 0)) := ⟨rfl, rfl, rfl, by simp, fun k hk _ => Below.heap_alloc _ _ _ hk⟩
    have hbl : blks β' ([] ++ [(n, Own.map (mapM P k fun _ => none))]) = [w.heap.size] := by simp [blks, hn, blk]
    refine hK _ β' _ hkept hlt ?_ ⟨hn.symm, rfl⟩ ⟨fun f hf => ?_, fun f hf f' hf' hne => ?_, fun b hm => ?_, fun b hb => ?_⟩ fun b hm => ?_
    · intro κ hκ
      rw [List.mem_singleton.1 hκ]
      exact Nat.lt_succ_self n
    · cases List.mem_singleton.1 hf
      exact ⟨Nat.lt_succ_self n, nofun, w.heap.size, _, hn, heap_alloc_new w _, _, _, _, rfl, mapAt_new, fun _ => rfl⟩
    · cases List.mem_singleton.1 hf
      cases List.mem_singleton.1 hf'
      exact absurd rfl hne
    · rw [hbl, List.mem_singleton] at hm
      subst hm
      exact fun hS => Nat.lt_irrefl _ (hO.lt _ hS)
    · have := hO.lt b hb
      simp; omega
    · rw [show blks β' [(n, Own.map (mapM P k fun _ => none))] = [w.heap.size] from hbl, List.mem_singleton] at hm
      subst hm
      exact .inr (Nat.le_refl _)⟩
theorem U.keep0 {β β' : Env} {w w' : World} {t : U} (hk : t.keys = []) (hS : Sub w w') {v : Value} (h : t.is β w v) : t.is β' w' v := U.keep (fun κ hκ => by rw [hk] at hκ; cases hκ) hS h
theorem U.t_is {β : Env} {V : World} {u : U} {v : Value} : u.t.is β V v ↔ u.is β V v := by cases u <;> exact Iff.rfl
/-- What stands at a key. -/
theorem OpT.look [Lays P] {c : Bool} {key : Value} {h1 : key.oneCell' = true} {zu : U} {o : Option U} (ho : f key = o) (hkey : KeyOk P k key) (ht : lay P t = some ⟨.map k e, we, fl, zs⟩ := by rfl) (he : lay P e = some le := by rfl) (hz : zeroU le = some zu := by rfl) (hou : (lookU c o zu).keys = [] := by rfl) :
    OpT P ops (mkO d (.lookup t x y c) ty pos af) n [(x, .one (.key κ)), (y, dT (lit key h1))] [(κ, .map (mapM P k f))] [] (lookU c o zu) [] n := by
  refine ⟨Nat.le_refl n, fun β S w A K htin hb hO hK => ?_⟩
  rw [if_pos (by simp [Region.wanted])]
  obtain ⟨h2, h3, b, ob, h4, h5, es, clock, F, rfl, h6, h7⟩ := hO.is (κ, Own.map (mapM P k f)) (List.mem_cons_self ..)
  obtain ⟨hx, hy⟩ := in2 htin
  have e1 : A.eval x = .map (some b) := hx.1.trans h4
  have e2 : A.eval y = key := hy
  obtain ⟨z, hz1, hz2⟩ := zeroU_is he hz w (β := β) (V := View β ([(κ, .map (mapM P k f))] ++ []) S w)
  obtain ⟨kl, hkl⟩ := hkey.at_
  have hrun := h6.look c h5 hkey.K (lay_map ht) hz1 hkl
  unfold Oper.wp
  have h8 : (execOp A.eval (mkO d (.lookup t x y c) ty pos af)).run P w = .ok (.value (if c then .tuple #[(F key).getD z, .bool (F key).isSome] else (F key).getD z)) w := by
    simp [execOp, e1, e2, hrun]
  rw [h8]
  have h9 := h7 key
  rw [ho] at h9
  have hu : (o.getD zu).is β (View β ([(κ, .map (mapM P k f))] ++ []) S w) ((F key).getD z) ∧ (F key).isSome = o.isSome := by
    cases o with
    | none => rw [h9]; exact ⟨hz2, rfl⟩
    | some u =>
      obtain ⟨h10, v, h11, h12⟩ := h9
      rw [h11]
      exact ⟨U.keep0 h10 (Sub.refl _) h12, rfl⟩
  refine hK _ β w (Kept.refl _ _) (fun _ _ => rfl) (bel0 hou) ?_ hO.toOwns fun b hb => by cases hb
  cases c with
  | false => exact U.t_is.2 hu.1
  | true =>
    refine ⟨[_, _], rfl, hu.1, ?_, trivial⟩
    rw [hu.2]; rfl
theorem kept_setBlock {w : World} {b : Nat} {o : Obj} {es : Array MapEntry} {c : Nat} (hb : w.heap[b]? = some (.map es c)) : Kept [b] w (setBlock w b o) := ⟨rfl, rfl, rfl, by simp [setBlock], fun i _ hi => heap_setBlock_other hb _ (fun e => hi (by rw [e]; exact List.mem_singleton.2 rfl))⟩
/-- A map is turned. -/
theorem OpT.turn {o : Oper} {tin : TL} {out : T} (hg : o.guard = none) (hk : out.keys = [])
    (h : ∀ (β : Env) (V w : World) (A : Act) (b : Nat) (es : Array MapEntry) (clock : Nat) (F : Value → Option Value), β κ = .map (some b) → w.heap[b]? = some (.map es clock) → MapAt P k es clock F → (∀ key, OptU V (f key) (F key)) → (∀ e ∈ tin, e.2.is β V (A.eval e.1)) →
      ∃ r es' clock' F', (execOp A.eval o).run P w = .ok r (setBlock w b (.map es' clock')) ∧ (r = .skip ∧ out = .any ∨ ∃ v, r = .value v ∧ out.is (fun _ => undef) V v) ∧ MapAt P k es' clock' F' ∧ ∀ key, OptU V (f' key) (F' key)) :
    OpT P ops o n tin [] [(κ, .map (mapM P k f))] out [(κ, .map (mapM P k f'))] n := by
  refine ⟨Nat.le_refl n, fun β S w A K htin hb hO hK => ?_⟩
  rw [if_pos (by simp [Region.wanted, hg])]
  obtain ⟨h2, h3, b, ob, h4, h5, es, clock, F, rfl, h6, h7⟩ := hO.is (κ, Own.map (mapM P k f)) (List.mem_cons_self ..)
  obtain ⟨r, es', clock', F', h8, h9, h10, h11⟩ := h β _ w A b es clock F h4 h5 h6 h7 htin
  unfold Oper.wp
  rw [h8]
  have hbl : blks β ([] ++ [(κ, Own.map (mapM P k f))]) = [b] := by simp [blks, h4, blk]
  have hbl' : blks β ([] ++ [(κ, Own.map (mapM P k f'))]) = [b] := by simp [blks, h4, blk]
  have hbw : blks β [(κ, Own.map (mapM P k f))] = [b] := hbl
  have hkept : Kept [b] w (setBlock w b (.map es' clock')) := kept_setBlock h5
  have hV : Sub (View β ([] ++ [(κ, Own.map (mapM P k f))]) S w) (View β ([] ++ [(κ, Own.map (mapM P k f'))]) S (setBlock w b (.map es' clock'))) := by
    unfold View
    rw [hbl, hbl']
    exact hide_sub hkept fun k _ hn => ⟨fun hm => hn (List.mem_append_left _ hm), hn⟩
  have hfin : ∀ v, out.is (fun _ => undef) (View β ([] ++ [(κ, Own.map (mapM P k f))]) S w) v → K (A.put o.dst v) (setBlock w b (.map es' clock')) := fun v hv => by
    refine hK v β _ (hbw ▸ hkept) (fun _ _ => rfl) (bel0 hk) (T.keep (fun κ hκ => by rw [hk] at hκ; cases hκ) hV hv) ⟨fun e he => ?_, fun e he e' he' hne => ?_, fun q hm => ?_, fun q hq => ?_⟩ fun q hm => ?_
    · cases List.mem_singleton.1 he
      refine ⟨h2, nofun, b, _, h4, heap_setBlock_same h5 _, es', clock', F', rfl, h10, fun key => ?_⟩
      have := h11 key
      cases hf : f' key with
      | none => rw [hf] at this; exact this
      | some u =>
        rw [hf] at this
        obtain ⟨k1, v, k2, k3⟩ := this
        exact ⟨k1, v, k2, U.keep (fun _ _ => rfl) hV k3⟩
    · cases List.mem_singleton.1 he
      cases List.mem_singleton.1 he'
      exact absurd rfl hne
    · rw [hbl'] at hm
      exact hO.out q (by rw [hbl]; exact hm)
    · exact Nat.lt_of_lt_of_le (hO.lt q hq) hkept.size
    · rw [show blks β [(κ, Own.map (mapM P k f'))] = [b] from hbl'] at hm
      rw [hbw]
      exact .inl hm
  rcases h9 with ⟨rfl, rfl⟩ | ⟨v, rfl, hv⟩
  · exact hfin undef trivial
  · exact hfin v hv
theorem OpT.put [Lays P] {s : T} {u : U} {key : Value} {h1 : key.oneCell' = true} {L : List Value} (hL : ∀ x, f x ≠ none → x ∈ L) (hn : L.length < 9223372036854775807) (hkey : KeyOk P k key) (hs : s = u.t) (hu : u.keys = []) (hF1 : f' key = some u) (hF2 : ∀ x, x ≠ key → f' x = f x) (ht : lay P t = some ⟨.map k e, we, fl, zs⟩) :
    OpT P ops (mkO d (.mapUpdate t x y z) ty pos af) n [(x, .one (.key κ)), (y, dT (lit key h1)), (z, s)] [] [(κ, .map (mapM P k f))] .any [(κ, .map (mapM P k f'))] n :=
  .turn rfl rfl fun β V w A b es clock F h4 h5 h6 h7 htin => by
    obtain ⟨hx, hy, hz⟩ := in3 htin
    have e1 : A.eval x = .map (some b) := hx.1.trans h4
    have e2 : A.eval y = key := hy
    subst hs
    obtain ⟨kl, hkl⟩ := hkey.at_
    have hsz := h6.size hkey.K (L := L) fun key' hne => hL _ fun h0 => hne (by have := h7 key'; rw [h0] at this; exact this)
    obtain ⟨es', clock', hr, hm⟩ := h6.put (F' := fun y => open Classical in if y = key then some (A.eval z) else F y) h5 hkey.K (lay_map ht) (by unfold maxLen; omega) hkl (val := A.eval z) (if_pos rfl) (fun y hy => if_neg hy)
    refine ⟨.skip, es', clock', _, ?_, .inl ⟨rfl, rfl⟩, hm, fun q => ?_⟩
    · simp [execOp, e1, e2, hr]
    · by_cases hq : q = key
      · subst hq
        rw [hF1]
        exact ⟨hu, _, if_pos rfl, U.keep0 hu (Sub.refl _) (U.t_is.1 hz)⟩
      · rw [hF2 q hq]
        have := h7 q
        simp only [hq, if_false]
        exact this
theorem OpT.del [Lays P] {key : Value} {h1 : key.oneCell' = true} (hkey : KeyOk P k key) (hF1 : f' key = none) (hF2 : ∀ x, x ≠ key → f' x = f x) (ht : lay P t = some ⟨.map k e, we, fl, zs⟩) :
    OpT P ops (mkO d (.call ⟨.builtin .delete, #[x, y], #[t, k]⟩) ty pos af) n [(x, .one (.key κ)), (y, dT (lit key h1))] [] [(κ, .map (mapM P k f))] (.tup []) [(κ, .map (mapM P k f'))] n :=
  .turn rfl rfl fun β V w A b es clock F h4 h5 h6 h7 htin => by
    obtain ⟨hx, hy⟩ := in2 htin
    have e1 : A.eval x = .map (some b) := hx.1.trans h4
    have e2 : A.eval y = key := hy
    obtain ⟨kl, hkl⟩ := hkey.at_
    obtain ⟨es', hr, hm⟩ := h6.drop (F' := fun y => open Classical in if y = key then none else F y) h5 hkey.K (lay_map ht) hkl (if_pos rfl) (fun y hy => if_neg hy) ty
    refine ⟨.value (.tuple #[]), es', clock, _, ?_, .inr ⟨_, rfl, [], rfl, trivial⟩, hm, fun q => ?_⟩
    · simp [execOp, resolve, invoke, builtin, e1, e2, hr]
    · by_cases hq : q = key
      · subst hq
        rw [hF1]
        exact if_pos rfl
      · rw [hF2 q hq]
        have := h7 q
        simp only [hq, if_false]
        exact this
variable [Lays P] {F : FL} {H H2 : HL} {acc : List Acc} {l : List Oper} {Fin : Nat → FL → HL → List Acc → Prop} {dd : Tmp}
theorem Ch.look {c : Bool} {key : Value} {h1 : key.oneCell' = true} {zu : U} (o : Option U) (ho : f key = o) (hkey : KeyOk P k key) (hF : Tin F [(x, .one (.key κ)), (y, dT (lit key h1))] := by exact ⟨rfl, rfl, trivial⟩) (hH : Sv.look H κ = some (.map (mapM P k f)) := by rfl) (ht : lay P t = some ⟨.map k e, we, fl, zs⟩ := by rfl) (he : lay P e = some le := by rfl) (hz : zeroU le = some zu := by rfl) (hou : (lookU c o zu).keys = [] := by first | rfl | exact agD_keys)
    (r : Ch P ops Fin l n ((dd, lookU c o zu) :: F) H (acc ++ [Rec.acc ⟨[(x, .one (.key κ)), (y, dT (lit key h1))], [(κ, .map (mapM P k f))], [], lookU c o zu, [], n, n⟩ (some dd)])) : Ch P ops Fin (mkO (some dd) (.lookup t x y c) ty pos af :: l) n F H acc := .r (.look ho hkey ht he hz hou) hF hH r
theorem Ch.put {s : T} {u : U} {key : Value} {h1 : key.oneCell' = true} (f' : Value → Option U) (L : List Value) (hL : ∀ x, f x ≠ none → x ∈ L) (hn : L.length < 9223372036854775807) (hkey : KeyOk P k key) (hF1 : f' key = some u) (hF2 : ∀ x, x ≠ key → f' x = f x) (hF : Tin F [(x, .one (.key κ)), (y, dT (lit key h1)), (z, s)] := by exact ⟨rfl, rfl, rfl, trivial⟩) (hs : s = u.t := by rfl) (hu : u.keys = [] := by first | rfl | exact agD_keys) (hR : Rep κ (.map (mapM P k f)) (.map (mapM P k f')) H H2 := by (repeat (first | exact Rep.here (by rfl) | (apply Rep.there; rfl)))) (ht : lay P t = some ⟨.map k e, we, fl, zs⟩ := by rfl)
    (r : Ch P ops Fin l n F H2 (acc ++ [Rec.acc ⟨[(x, .one (.key κ)), (y, dT (lit key h1)), (z, s)], [], [(κ, .map (mapM P k f))], .any, [(κ, .map (mapM P k f'))], n, n⟩ none])) : Ch P ops Fin (mkO none (.mapUpdate t x y z) ty pos af :: l) n F H acc :=
  .step _ _ _ _ _ _ (.put hL hn hkey hs hu hF1 hF2 ht) hF.all (fun e he => by cases List.mem_singleton.1 he; exact hR.mem.1) H2 hR.mem.2 r
theorem Ch.del {key : Value} {h1 : key.oneCell' = true} (f' : Value → Option U) (hkey : KeyOk P k key) (hF1 : f' key = none) (hF2 : ∀ x, x ≠ key → f' x = f x) (hF : Tin F [(x, .one (.key κ)), (y, dT (lit key h1))] := by exact ⟨rfl, rfl, trivial⟩) (hR : Rep κ (.map (mapM P k f)) (.map (mapM P k f')) H H2 := by (repeat (first | exact Rep.here (by rfl) | (apply Rep.there; rfl)))) (ht : lay P t = some ⟨.map k e, we, fl, zs⟩ := by rfl)
    (r : Ch P ops Fin l n F H2 (acc ++ [Rec.acc ⟨[(x, .one (.key κ)), (y, dT (lit key h1))], [], [(κ, .map (mapM P k f))], .tup [], [(κ, .map (mapM P k f'))], n, n⟩ none])) : Ch P ops Fin (mkO none (.call ⟨.builtin .delete, #[x, y], #[t, k]⟩) ty pos af :: l) n F H acc :=
  .step _ _ _ _ _ _ (.del hkey hF1 hF2 ht) hF.all (fun e he => by cases List.mem_singleton.1 he; exact hR.mem.1) H2 hR.mem.2 r
end
end Go.Sv
namespace Go.Sv
open Go Go.RowKit

theorem row_sl {β : Env} {V V' w : World} {v : Value} {e k : Nat} {ls : List (List D)} (hV : Sub V V') (ho : Own.is β V w (.row e k ls) v) (hb : ∀ g, blk v = some g → V'.heap[g]? = w.heap[g]?) : (sl k ls).is V' v := by
  obtain ⟨hk, hrow⟩ := ho
  rcases hrow with ⟨h1, rfl⟩ | ⟨g, c, cur, us, h1, h2, h3, h4, h5, h6, h7⟩
  · rw [h1]
    exact ⟨none, 0, rfl, Nat.le_refl _, by unfold maxLen; decide, by simp⟩
  · have hvis : V'.heap[g]? = some (.cells cur e) := (hb g (by rw [h1]; rfl)).trans h2
    rw [h1]
    refine ⟨_, c, rfl, h3, h4, fun j l hj => ?_⟩
    have hlk := hk l (List.mem_of_getElem? hj)
    refine ⟨hlk, g, 0, (us.drop (j * k)).take k, rfl, fun i u hi => ?_, ?_⟩
    · rw [cell_of_row _ _ _ _ _ _ hvis]
      rw [List.getElem?_take] at hi
      split at hi
      · rw [List.getElem?_drop, ← h6, List.getElem?_take] at hi
        split at hi
        · simpa using hi
        · cases hi
      · cases hi
    · have h8 : Cells _ ((ls.flatten.drop (j * k)).take k) ((us.drop (j * k)).take k) := All2.take k (All2.drop (j * k) (Cells.mono hV h7))
      have h9 : (ls.flatten.drop (j * k)).take k = l := by
        obtain ⟨l1, l2, rfl, rfl⟩ := split_at hj
        rw [List.flatten_append, List.flatten_cons, List.drop_append, List.drop_of_length_le (by rw [flat_len fun l hl => hk l (List.mem_append_left _ hl)]; exact Nat.le_refl _), flat_len (fun l hl => hk l (List.mem_append_left _ hl)), Nat.sub_self, List.nil_append, List.drop_zero, ← hlk, List.take_left]
      rwa [h9] at h8
theorem Con.data {P : Program} {f : FuncId} {args : List T} {e k : Nat} {ls : List (List D)} (h : Con P f args [] 0 (.one (.key 0)) [(0, .row e k ls)] 1) : ∀ n, Con P f args [] n (dT (sl k ls)) [] n :=
  Con.up rfl ⟨h.1, Nat.le_refl _, fun β S w vs hv hO => (h.2.2 β S w vs hv hO).mono fun _ w' ⟨v, β', h1, h2, h3, h4, h5, h6, h7⟩ => by
    obtain ⟨_, _, h8⟩ := h6.is (0, _) (List.mem_cons_self ..)
    have hv : v = β' 0 := h5.1
    refine ⟨v, β, h1, h2, fun _ _ => rfl, bel0 rfl, ?_, ⟨nofun, nofun, nofun, h6.lt⟩, fun b hb => by cases hb⟩
    subst hv
    refine row_sl (V := View β' [(0, Own.row e k ls)] S w') (hide_sub (Kept.refl [] w') fun q _ hq => ⟨by simp, fun hm => hq (List.mem_append_right _ hm)⟩) h8 fun g hg => ?_
    have hn := h6.out g (mem_blks.2 ⟨_, List.mem_cons_self .., hg⟩)
    show (hide ([] ++ S) w').heap[g]? = _
    rw [hide_at, List.nil_append]
    cases w'.heap[g]? with
    | none => rfl
    | some x => simp [hn]⟩
section
variable {P : Program} [Lays P] {ops : Array Oper} {n : Nat} {d : Option Tmp} {dd : Tmp} {ty t : TypeId} {pos : String} {af : Array Edge} {x y : Operand} {κ e k we : Nat} {fl : List (Nat × Nat)} {z : List ZK} {ls ls2 : List (List D)} {le : Lay}
/-- append of whatever row of data. -/
theorem OpT.appendA (hb : ls.length + ls2.length ≤ 34359738368) (ht : lay P t = some ⟨.slice e, we, fl, z⟩) (he : lay P e = some le) (hk : le.size = k) (hz : le.zero.length = k) : OpT P ops (mkO d (.call ⟨.builtin .append, #[y, x], #[t, t]⟩) ty pos af) n [(y, .one (.key κ)), (x, dT (sl k ls2))] [] [(κ, .row e k ls)] (.one (.key n)) [(n, .row e k (ls ++ ls2))] (n + 1) := by
  by_cases hm : 0 < ls2.length
  · exact .append ht he hk hz (by simpa using hm) hb
  obtain rfl : ls2 = [] := List.eq_nil_of_length_eq_zero (by omega)
  rw [List.append_nil]
  refine ⟨Nat.le_succ n, fun β S w A K htin hbl hO hK => ?_⟩
  refine (OpT.appendE (P := P) (ops := ops) (n := n) (d := d) (ty := ty) (pos := pos) (af := af) (q := e) (k := k) (ls := ls) ht he).run β S w A K htin hbl hO fun v β' w' k1 k2 k3 k4 k5 k6 => ?_
  obtain ⟨β2, hβ⟩ : ∃ β2 : Env, β2 = fun i => if i = n then β' κ else β' i := ⟨_, rfl⟩
  have h1 : β2 n = β' κ := by rw [hβ]; exact if_pos rfl
  have h2 : ∀ i, i < n → β2 i = β' i := fun i hi => by rw [hβ]; exact if_neg (by omega)
  have h3 : blks β2 ([] ++ [(n, Own.row e k ls)]) = blks β' ([(κ, Own.row e k ls)] ++ []) := by show List.filterMap _ [_] = List.filterMap _ [_]; simp only [List.filterMap_cons, h1, List.filterMap_nil]
  obtain ⟨h4, h5, h6⟩ := k5.is (κ, _) (List.mem_cons_self ..)
  refine hK v β2 w' ⟨k1.os, k1.tape, k1.output, k1.size, fun q hq _ => k1.block q hq nofun⟩ (fun i hi => (h2 i hi).trans (k2 i hi)) (fun i hi => by rw [List.mem_singleton.1 hi]; exact Nat.lt_succ_self n) ⟨k4.1.trans h1.symm, k4.2⟩ ⟨fun f hf => ?_, fun f hf f' hf' hne => ?_, fun b hm => k5.out b (h3 ▸ hm), k5.lt⟩ fun b hm => ?_
  · cases List.mem_singleton.1 hf
    refine ⟨Nat.lt_succ_self n, nofun, ?_⟩
    show Own.is β2 (hide (blks β2 ([] ++ [(n, Own.row e k ls)]) ++ S) w') w' _ (β2 n)
    rw [h1, h3]
    exact h6
  · cases List.mem_singleton.1 hf
    cases List.mem_singleton.1 hf'
    exact absurd rfl hne
  · have hm' : b ∈ blks β' ([(κ, Own.row e k ls)] ++ []) := h3 ▸ hm
    refine .inl ?_
    obtain ⟨f, hf, hfb⟩ := mem_blks.1 hm'
    cases List.mem_singleton.1 hf
    exact mem_blks.2 ⟨_, List.mem_cons_self .., by rw [← k2 κ h4]; exact hfb⟩
variable {F : FL} {H H2 : HL} {acc : List Acc} {l : List Oper} {Fin : Nat → FL → HL → List Acc → Prop}
theorem Ch.apA (hF : Tin F [(y, .one (.key κ)), (x, dT (sl k ls2))] := by exact ⟨rfl, rfl, trivial⟩) (hO : Out κ (.row e k ls) H H2 := by (repeat (first | exact Out.here (by rfl) | (apply Out.there; rfl)))) (ht : lay P t = some ⟨.slice e, we, fl, z⟩ := by rfl) (he : lay P e = some le := by rfl) (hk : le.size = k := by rfl) (hz : le.zero.length = k := by rfl) (hb : ls.length + ls2.length ≤ 34359738368)
    (r : Ch P ops Fin l (n + 1) ((dd, .one (.key n)) :: F) ((n, .row e k (ls ++ ls2)) :: H2) (acc ++ [Rec.acc ⟨[(y, .one (.key κ)), (x, dT (sl k ls2))], [], [(κ, .row e k ls)], .one (.key n), [(n, .row e k (ls ++ ls2))], n, n + 1⟩ (some dd)])) : Ch P ops Fin (mkO (some dd) (.call ⟨.builtin .append, #[y, x], #[t, t]⟩) ty pos af :: l) n F H acc :=
  .step _ [] _ _ _ _ (.appendA hb ht he hk hz) hF.all (fun f hf => by rw [List.nil_append, List.mem_singleton] at hf; subst hf; exact hO.mem.1) _ (OutL.upd (l' := [(n, .row e k (ls ++ ls2))]) (.cons hO .nil)) r
end
end Go.Sv
