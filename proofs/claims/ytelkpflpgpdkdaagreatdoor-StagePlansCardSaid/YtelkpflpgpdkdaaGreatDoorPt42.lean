/- Part 42 of what StageOrder and StagePlans ask: for every input each returns true, and its input reads as it did. No condition. -/
import Derived.Test.YtelkpflpgpdkdaaGreatDoorPt24
import Derived.Test.YtelkpflpgpdkdaaGreatDoorPt25
import Derived.Test.YtelkpflpgpdkdaaGreatDoorPt27
import Derived.Test.YtelkpflpgpdkdaaGreatDoorPt28
import Derived.Test.YtelkpflpgpdkdaaGreatDoorPt30
import Derived.Test.YtelkpflpgpdkdaaGreatDoorPt31
import Derived.Test.YtelkpflpgpdkdaaGreatDoorPt32
import Derived.Test.YtelkpflpgpdkdaaGreatDoorPt33
import Derived.Test.YtelkpflpgpdkdaaGreatDoorPt34
import Derived.Test.YtelkpflpgpdkdaaGreatDoorPt35
import Derived.Test.YtelkpflpgpdkdaaGreatDoorPt38
import Derived.Test.YtelkpflpgpdkdaaGreatDoorPt39
import Derived.Test.YtelkpflpgpdkdaaGreatDoorPt40
import Derived.Test.YtelkpflpgpdkdaaGreatDoorPt41
import Derived.Laws.OwnMore
namespace Go.Proofs.YtelkpflpgpdkdaaGreatDoor
open Go.Sv
set_option maxRecDepth 10000
open Go.RowKit Go.Lib
def snapU (p : Snp × Int) : T := .tup [.ag ((snapF p.1).map C.d), .one (.d (i64 p.2))]
def zSnap : List D := [nilD, nilD, nilD]
theorem nil_snap (w : World) (us : List Value) (h : Cells w zSnap us) : Cells w (snapF zeroSnap) us := by
  match us, h with
  | [_, _, _], h => exact ⟨nil_sl 7 _ _ h.1, nil_sl 3 _ _ h.2.1, nil_sl 8 _ _ h.2.2.1, trivial⟩
theorem snapU_e {a b : Snp × Int} (h : a = b) : snapU a = snapU b := by rw [h]
theorem cmpB_lt {a b : Str} (h : sLe a b = false) : cmpB b a < 0 := by
  unfold sLe at h
  simp only [Bool.or_eq_false_iff] at h
  obtain ⟨h1, h2⟩ := h
  have h3 : sLt a b = false := h1
  rw [sLt_cmp] at h3
  have h3 : ¬ compareBytes a.toList b.toList < 0 := by simpa using h3
  have h4 : compareBytes a.toList b.toList ≠ 0 := fun e => by
    have := cmpB_zero _ _ e
    rw [this] at h2
    simp at h2
  have h5 := cmpB_neg a.toList b.toList
  unfold cmpB
  rw [← ByteArray.toList_eq, ← ByteArray.toList_eq]
  omega
theorem right_sort {s : Snp} (h : snapRight s = true) : FSort s.files := by
  unfold snapRight at h
  simp only [Bool.and_eq_true] at h
  have h := h.2
  unfold filesTo at h
  rw [List.all_eq_true] at h
  have adj : ∀ j, j + 1 < s.files.length → cmpB (s.files.getD j default).name (s.files.getD (j + 1) default).name < 0 := fun j hj => by
    have h1 := h (j + 1) (List.mem_range.2 hj)
    unfold fileStep at h1
    simp only [Bool.and_eq_true, Bool.not_eq_true', Nat.add_sub_cancel] at h1
    have h2 := h1.2.1
    rw [show decide (0 < j + 1) = true from decide_eq_true (by omega), Bool.true_and] at h2
    exact cmpB_lt h2
  have far : ∀ d j, j + d + 1 < s.files.length → cmpB (s.files.getD j default).name (s.files.getD (j + d + 1) default).name < 0 := by
    intro d
    induction d with
    | zero => exact fun j hj => adj j hj
    | succ d ih => exact fun j hj => cmpB_trans _ _ _ (ih j (by omega)) (adj (j + d + 1) (by omega))
  refine List.pairwise_iff_getElem.2 fun i j hi hj hij => ?_
  have := far (j - i - 1) i (by omega)
  rw [show i + (j - i - 1) + 1 = j by omega] at this
  simpa [List.getD_eq_getElem?_getD, hi, hj] using this
/-- As snap's written says. -/
noncomputable def writtenE (s : Snp) (a k : Int) (d : Doc) : State × Int :=
  if (fillS cvP s.reg k ⟨d, []⟩).2 ≠ 0 ∨ a < 0 then fillS cvP s.reg k ⟨d, []⟩ else
  if (goT s.reg (s.files.getD a.toNat default).schema k (s.files.getD a.toNat default).state).2 ≠ 0 then ((fillS cvP s.reg k ⟨d, []⟩).1, 0) else
  fillS cvP s.reg k ⟨d, keptL (goT s.reg (s.files.getD a.toNat default).schema k (s.files.getD a.toNat default).state).1.res (fillS cvP s.reg k ⟨d, []⟩).1.res⟩
theorem kept_st {d : Doc} {l m : List Res} (hd : d.fit) (hl : l.length ≤ 256) (hf : ∀ x ∈ l, x.fit) : StS ⟨d, keptL l m⟩ :=
  ⟨⟨hd, Nat.le_trans (List.length_filter_le _ _) (by omega), fun x hx => hf x ((List.mem_filter.1 hx).1)⟩, Nat.le_trans (List.length_filter_le _ _) hl⟩
set_option maxHeartbeats 2000000 in
theorem swrittenC (hR : RawH) (s : Snp) (a k : Int) (d : Doc) (hs : SnpG s) (hd : d.fit) (ha : a < 0 ∨ a < s.files.length) : ∀ n, Con Tryz.prog 48 [agD (snapF s), iT a, iT k, agD (docF d)] [] n (stU (writtenE s a k d)) [] n := by
  refine fnI Tryz.func48 Tryz.ntmps48 (h := fun S w0 β0 X => ?_)
  have hq := (rfl : writtenE s a k d = writtenE s a k d)
  conv at hq => rhs; rw [writtenE]
  have hst := tStartC s.reg k d hR hs.reg hd
  have hfit : StS (fillS cvP s.reg k ⟨d, []⟩).1 := fillS_fit ⟨⟨hd, Nat.zero_le _, nofun⟩, Nat.zero_le _⟩
  generalize fillS cvP s.reg k ⟨d, []⟩ = x at *
  refine GO ?_
  refine Ch.c (hst) (r := ?_)
  refine GO ?_
  refine W.cond rfl (fun h => ?_) (fun h => ?_)
  · rw [stU_e (hq.trans (if_pos (by grind)))]
    refine GO ?_
    exact fin2
  have h : x.2 = 0 ∧ 0 ≤ a := by grind
  rw [if_neg (by omega)] at hq
  obtain ⟨i, rfl⟩ := Int.eq_ofNat_of_zero_le h.2
  have hil : i < s.files.length := by omega
  have hf := List.getElem?_eq_getElem hil
  generalize s.files[i] = f at hf
  rw [Int.toNat_natCast, show s.files.getD i default = f by simp [hf]] at hq
  have hfs := hs.sts f (List.mem_of_getElem? hf)
  have hgo := tGoC s.reg f.schema k f.state hR hs.reg (way_ok _ _ _) hfs
  have hgf : StS (goT s.reg f.schema k f.state).1 := goT_fit hfs
  generalize goT s.reg f.schema k f.state = y at *
  refine GO ?_
  refine Ch.c (hgo) (r := ?_)
  refine GO ?_
  refine W.cond rfl (fun h1 => ?_) (fun h1 => ?_)
  · rw [stU_e (hq.trans (if_pos (by simpa using h1)))]
    refine GO ?_
    exact fin2
  rw [if_neg (by simpa using h1)] at hq
  refine GO ?_
  refine Ch.c (sKeptC y.1.res x.1.res (by have := hgf.2; omega) hgf.1.res) (r := ?_)
  refine GO ?_
  refine Ch.c (tFillC s.reg k ⟨d, keptL y.1.res x.1.res⟩ hR hs.reg (kept_st hd hgf.2 hgf.1.res)) (r := ?_)
  rw [stU_e hq]
  refine GO ?_
  exact fin2
end Go.Proofs.YtelkpflpgpdkdaaGreatDoor
namespace Go.Proofs.YtelkpflpgpdkdaaGreatDoor
open Go.Sv
set_option maxRecDepth 10000
open Go.RowKit Go.Lib
/-- As snap.Write says. -/
noncomputable def writeE (s : Snp) (u v : Str) (d : Doc) : Snp × Int :=
  if snapRight s = false ∨ nameOk u = false then (zeroSnap, 1) else if schemaFind s.reg v < 0 then (zeroSnap, 3) else if fileIdx s.files u < 0 ∧ 16 ≤ s.files.length then (zeroSnap, 2) else
  if (writtenE s (fileIdx s.files u) (schemaFind s.reg v) d).2 ≠ 0 then (zeroSnap, (writtenE s (fileIdx s.files u) (schemaFind s.reg v) d).2) else
  (⟨s.reg, putFs s.files ⟨u, schemaFind s.reg v, (writtenE s (fileIdx s.files u) (schemaFind s.reg v) d).1⟩⟩, 0)
theorem idx_lt {α : Type} (p : α → Bool) (l : List α) : idxOf p l < 0 ∨ idxOf p l < l.length := by
  unfold idxOf
  split
  · rename_i h
    obtain ⟨x, hx, hp⟩ := List.any_eq_true.1 h
    have := List.findIdx_lt_length_of_exists ⟨x, hx, hp⟩
    omega
  · omega
set_option maxHeartbeats 2000000 in
theorem swriteC (hR : RawH) (s : Snp) (u v : Str) (d : Doc) (hs : SnpG s) (hd : d.fit) : ∀ n, Con Tryz.prog 25 [agD (snapF s), sT u, sT v, agD (docF d)] [] n (snapU (writeE s u v d)) [] n := by
  refine fnI Tryz.func25 Tryz.ntmps25 (h := fun S w0 β0 X => ?_)
  have hq := (rfl : writeE s u v d = writeE s u v d)
  conv at hq => rhs; rw [writeE]
  have hf := gFindC hR s.reg v hs.reg
  have hn := nameC u
  have hfi := ffindC s u
  have hlen := hs.len
  have hwr := fun k => swrittenC hR s (fileIdx s.files u) k d hs hd (idx_lt _ _)
  have hsort := @right_sort s
  generalize schemaFind s.reg v = k at *
  replace hwr := hwr k
  have hput := fun x => sputfC s ⟨u, k, x⟩ hs
  generalize fileIdx s.files u = a at *
  generalize nameOk u = nk at *
  generalize writtenE s a k d = x at *
  refine GO ?_
  refine Ch.c (sRightC hR s hs) (r := ?_)
  generalize snapRight s = b at *
  refine GO ?_
  refine Ch.gc (hc := fun _ => hn) (r := ?_)
  refine GO ?_
  refine W.cond rfl (fun h => ?_) (fun h => ?_)
  · rw [if_pos (by grind)] at hq
    refine GO ?_
    refine W.boxL 2 zSnap (snapF zeroSnap) nil_snap (h := ?_)
    rw [snapU_e hq]
    exact fin2
  have h : b = true ∧ nk = true := by grind
  rw [if_neg (by grind)] at hq
  have hsort := hsort h.1
  refine GO ?_
  refine Ch.c (hfi) (r := ?_)
  refine GO ?_
  refine Ch.c (hf) (r := ?_)
  refine GO ?_
  refine W.cond rfl (fun h1 => ?_) (fun h1 => ?_)
  · rw [if_pos (by simpa using h1)] at hq
    refine GO ?_
    refine W.boxL 2 zSnap (snapF zeroSnap) nil_snap (h := ?_)
    rw [snapU_e hq]
    exact fin2
  rw [if_neg (by simpa using h1)] at hq
  refine GO ?_
  refine W.cond rfl (fun h2 => ?_) (fun h2 => ?_)
  · rw [if_pos (by grind)] at hq
    refine GO ?_
    refine W.boxL 2 zSnap (snapF zeroSnap) nil_snap (h := ?_)
    rw [snapU_e hq]
    exact fin2
  rw [if_neg (by grind)] at hq
  refine GO ?_
  refine Ch.c (hwr) (r := ?_)
  refine GO ?_
  refine W.cond rfl (fun h3 => ?_) (fun h3 => ?_)
  · rw [if_pos (by simpa using h3)] at hq
    refine GO ?_
    refine W.boxL 2 zSnap (snapF zeroSnap) nil_snap (h := ?_)
    rw [snapU_e hq]
    exact fin2
  rw [if_neg (by simpa using h3)] at hq
  have hput := hput x.1 hsort
  rw [snapU_e hq]
  refine GO ?_
  refine Ch.c (hput) (r := ?_)
  refine GO ?_
  exact fin2
/-- As snap.Read says. -/
noncomputable def readE (s : Snp) (u v : Str) : Doc × Int :=
  if (bothE s u v).2.2 ≠ 0 then (zeroDoc, (bothE s u v).2.2) else ((goT s.reg (s.files.getD (bothE s u v).1.toNat default).schema (bothE s u v).2.1 (s.files.getD (bothE s u v).1.toNat default).state).1.doc, (goT s.reg (s.files.getD (bothE s u v).1.toNat default).schema (bothE s u v).2.1 (s.files.getD (bothE s u v).1.toNat default).state).2)
def docU (p : Doc × Int) : T := .tup [.ag ((docF p.1).map C.d), .one (.d (i64 p.2))]
theorem docU_e {a b : Doc × Int} (h : a = b) : docU a = docU b := by rw [h]
def zDoc : List D := [i64 0, i64 0, str ⟨#[]⟩, nilD, nilD]
theorem nil_doc (w : World) (us : List Value) (h : Cells w zDoc us) : Cells w (docF zeroDoc) us := by
  match us, h with
  | [_, _, _, _, _], h => exact ⟨h.1, h.2.1, h.2.2.1, nil_sl 1 _ _ h.2.2.2.1, nil_sl 5 _ _ h.2.2.2.2.1, trivial⟩
theorem both_lt {s : Snp} {u v : Str} (h : (bothE s u v).2.2 = 0) : 0 ≤ (bothE s u v).1 ∧ (bothE s u v).1 < s.files.length := by
  unfold bothE at h ⊢
  split at h
  · cases h
  rename_i h0
  split at h
  · cases h
  rename_i h1
  rw [if_neg h0, if_neg h1]
  have := idx_lt (fun f : FileP => f.name.toList == u.toList) s.files
  unfold fileIdx at h1 ⊢
  simp only
  omega
set_option maxHeartbeats 2000000 in
theorem sreadC (hR : RawH) (s : Snp) (u v : Str) (hs : SnpG s) : ∀ n, Con Tryz.prog 56 [agD (snapF s), sT u, sT v] [] n (docU (readE s u v)) [] n := by
  refine fnI Tryz.func56 Tryz.ntmps56 (h := fun S w0 β0 X => ?_)
  have hq := (rfl : readE s u v = readE s u v)
  conv at hq => rhs; rw [readE]
  have hb := sbothC hR s u v hs
  have hlt := @both_lt s u v
  generalize bothE s u v = p at *
  obtain ⟨a, k, e⟩ := p
  simp only at hq hlt
  refine GO ?_
  refine Ch.c (hb) (r := ?_)
  refine GO ?_
  refine W.cond rfl (fun h => ?_) (fun h => ?_)
  · rw [if_pos (by simpa using h)] at hq
    refine GO ?_
    refine W.boxL 1 zDoc (docF zeroDoc) nil_doc (h := ?_)
    rw [docU_e hq]
    exact fin2
  have h : e = 0 := by simpa using h
  rw [if_neg (by simpa using h)] at hq
  obtain ⟨h1, h2⟩ := hlt h
  obtain ⟨i, rfl⟩ := Int.eq_ofNat_of_zero_le h1
  have hil : i < s.files.length := by omega
  have hf := List.getElem?_eq_getElem hil
  generalize s.files[i] = f at hf
  rw [Int.toNat_natCast, show s.files.getD i default = f by simp [hf]] at hq
  have hse := tSeenC s.reg f.schema k f.state hR hs.reg (way_ok _ _ _) (hs.sts f (List.mem_of_getElem? hf))
  generalize goT s.reg f.schema k f.state = y at *
  rw [docU_e hq]
  refine GO ?_
  refine Ch.c (hse) (r := ?_)
  refine GO ?_
  exact fin2
end Go.Proofs.YtelkpflpgpdkdaaGreatDoor
namespace Go.Proofs.YtelkpflpgpdkdaaGreatDoor
open Go.Sv
set_option maxRecDepth 10000
open Go.RowKit
structure AgentP where
  stage : Int
  file : Str
  schema : Str
  epoch : Int
  seq : Int
  commit : Int
  has : Bool
  doc : Doc
structure MsgP where
  to : Int
  epoch : Int
  seq : Int
  commit : Int
structure ComP where
  parents : List Int
  snap : Snp
def agentF (a : AgentP) : List D := i64 a.stage :: str a.file :: str a.schema :: i64 a.epoch :: i64 a.seq :: i64 a.commit :: bl a.has :: docF a.doc
def msgF (m : MsgP) : List D := [i64 m.to, i64 m.epoch, i64 m.seq, i64 m.commit]
def comF (c : ComP) : List D := intsD c.parents :: snapF c.snap
theorem sthereC (p : PlanP) (k : Int) (hl : p.stages.length ≤ 1000000) : ∀ n, Con Tryz.prog 41 [agD (planF p), iT k] [] n (bT (betwE k ((p.stages.length : Int) - 1))) [] n := by
  refine fnI Tryz.func41 Tryz.ntmps41 (h := fun S w0 β0 X => ?_)
  refine GO ?_
  refine Ch.c (swithinC k ((p.stages.length : Int) - 1)) (r := ?_)
  refine GO ?_
  exact fin1
def zMsg : MsgP := ⟨0, 0, 0, 0⟩
def pollE (p : PlanP) (to : Int) (a : AgentP) : MsgP × Int := if planRight p = false ∨ betwE a.stage ((p.stages.length : Int) - 1) = false then (zMsg, 1) else if p.stages.getD a.stage.toNat 0 < 0 then (zMsg, 3) else (⟨to, p.epoch, p.seq, p.stages.getD a.stage.toNat 0⟩, 0)
def msgU (q : MsgP × Int) : T := .tup [.ag ((msgF q.1).map C.d), .one (.d (i64 q.2))]
set_option maxHeartbeats 1000000 in
theorem spollC (p : PlanP) (to : Int) (a : AgentP) (hl : p.stages.length ≤ 1000000) : ∀ n, Con Tryz.prog 17 [agD (planF p), iT to, agD (agentF a)] [] n (msgU (pollE p to a)) [] n := by
  refine fnI Tryz.func17 Tryz.ntmps17 (h := fun S w0 β0 X => ?_)
  have hq := (rfl : pollE p to a = pollE p to a)
  conv at hq => rhs; rw [pollE]
  have hrp := @planR_parts p
  have hth := sthereC p a.stage hl
  have hbe := (rfl : betwE a.stage ((p.stages.length : Int) - 1) = betwE a.stage ((p.stages.length : Int) - 1))
  conv at hbe => rhs; rw [betwE]
  generalize betwE a.stage ((p.stages.length : Int) - 1) = wi at *
  refine GO ?_
  refine Ch.c (sRightPC p hl) (r := ?_)
  generalize planRight p = b at *
  refine GO ?_
  refine Ch.gc (hc := fun _ => hth) (r := ?_)
  refine GO ?_
  refine W.cond rfl (fun h => ?_) (fun h => ?_)
  · rw [if_pos (by grind)] at hq
    rw [hq]
    refine GO ?_
    exact fin2
  rw [if_neg (by grind)] at hq
  have hw2 : 0 ≤ a.stage ∧ a.stage ≤ (p.stages.length : Int) - 1 := by grind
  obtain ⟨kn, hk⟩ := Int.eq_ofNat_of_zero_le hw2.1
  have hkl : kn < p.stages.length := by omega
  have hv := List.getElem?_eq_getElem hkl
  generalize p.stages[kn] = v at hv
  rw [hk, Int.toNat_natCast, show p.stages.getD kn 0 = v by simp [hv]] at hq
  refine GO ?_
  refine Ch.p (OpT.indexR (j := kn) (v := v) (hij := hk) (hj := hv)) ⟨rfl, rfl, trivial⟩ ?_
  refine GO ?_
  refine W.cond rfl (fun h1 => ?_) (fun h1 => ?_)
  · rw [if_pos (by simpa using h1)] at hq
    rw [hq]
    refine GO ?_
    exact fin2
  rw [if_neg (by simpa using h1)] at hq
  rw [hq]
  refine GO ?_
  refine Ch.p (OpT.indexR (j := kn) (v := v) (hij := hk) (hj := hv)) ⟨rfl, rfl, trivial⟩ ?_
  refine GO ?_
  exact fin2
def ackE (p : PlanP) (k : Int) (a : AgentP) : Bool := betwE k ((p.stages.length : Int) - 1) && (decide (a.stage = k) && (a.has && (decide (a.epoch = p.epoch) && decide (a.commit = p.stages.getD k.toNat 0))))
def acksE (p : PlanP) (l : List AgentP) (k : Int) : Nat := (l.filter (ackE p k)).length
set_option maxHeartbeats 2000000 in
theorem sacksC (p : PlanP) (l : List AgentP) (k : Int) (hl : p.stages.length ≤ 1000000) (hll : l.length ≤ 1000000) : ∀ n, Con Tryz.prog 20 [agD (planF p), dT (sl 12 (l.map agentF)), iT k] [] n (iT ((acksE p l k : Nat) : Int)) [] n := by
  refine fnI Tryz.func20 Tryz.ntmps20 (h := fun S w0 β0 X => ?_)
  have hth := sthereC p k hl
  have hbe := (rfl : betwE k ((p.stages.length : Int) - 1) = betwE k ((p.stages.length : Int) - 1))
  conv at hbe => rhs; rw [betwE]
  have hak := fun a => (rfl : ackE p k a = ackE p k a)
  conv at hak => intro a; rhs; rw [ackE]
  generalize betwE k ((p.stages.length : Int) - 1) = wi at *
  refine GO ?_
  refine W.lpG (fun a : Nat × Nat => a.1 ≤ l.length ∧ a.2 = ((l.take a.1).filter (ackE p k)).length) (fun a => [(7, iT (a.2 : Int)), (12, iT (a.1 : Int))]) [(2, _), (3, _), (6, _), (10, _), (11, _)] (fun _ => []) [(0, _)] (fun a => l.length - a.1) (0, 0) (⟨Nat.zero_le _, rfl⟩) (round := fun a hI => ?_)
  obtain ⟨j, cnt⟩ := a
  obtain ⟨hj, hc⟩ := hI
  simp only at hj hc ⊢
  have hcl : ((l.take j).filter (ackE p k)).length ≤ j := Nat.le_trans (List.length_filter_le _ _) (by rw [List.length_take]; omega)
  by_cases hlt : j < l.length
  · have hx := List.getElem?_eq_getElem hlt
    generalize l[j] = a at hx
    have hn := filter_take (q := ackE p k) hx
    have hka := hak a
    refine GO ?_
    refine Ch.c (hth) (r := ?_)
    refine GO ?_
    refine Ch.g (h := fun hg => OpT.indexR (j := k.toNat) (v := p.stages.getD k.toNat 0) (hij := by grind) (hj := getD_at (by grind))) (r := ?_)
    refine GO ?_
    refine W.cond rfl (fun h => ?_) (fun h => ?_)
    · have h2 : ackE p k a = true := by rw [hka]; grind
      rw [if_pos h2] at hn
      refine GO ?_
      exact W.ag (j + 1, cnt + 1) ⟨hlt, by simp only; rw [hn, List.length_append, ← hc]; rfl⟩ (by simp only; omega)
    · have h2 : ackE p k a = false := by rw [hka]; grind
      rw [if_neg (by rw [h2]; simp), List.append_nil] at hn
      refine GO ?_
      exact W.ag (j + 1, cnt) ⟨hlt, by simp only; rw [hn, ← hc]⟩ (by simp only; omega)
  · obtain rfl : j = l.length := by omega
    refine GO ?_
    exact finI (he := by rw [acksE, hc, List.take_length])
theorem sagentC (a : AgentP) (hd : a.doc.fit) : ∀ n, Con Tryz.prog 55 [agD (agentF a)] [] n (agD (agentF a)) [] n := by
  refine fnI Tryz.func55 Tryz.ntmps55 (h := fun S w0 β0 X => ?_)
  refine GO ?_
  refine Ch.c (docCopyC a.doc hd) (r := ?_)
  refine GO ?_
  exact fin1
/-- As stage.Accept says. -/
noncomputable def acceptE (a : AgentP) (m : MsgP) (l : List ComP) : AgentP × Int :=
  if firstNZ [cmpI m.epoch a.epoch, cmpI m.seq a.seq] ≤ 0 then (a, 14) else if m.commit < 0 ∨ (l.length : Int) ≤ m.commit then (a, 3) else
  match l[m.commit.toNat]? with
  | none => (a, 3)
  | some c => if (readE c.snap a.file a.schema).2 ≠ 0 then (a, (readE c.snap a.file a.schema).2) else (⟨a.stage, a.file, a.schema, m.epoch, m.seq, m.commit, true, (readE c.snap a.file a.schema).1⟩, 0)
def agentU (q : AgentP × Int) : T := .tup [.ag ((agentF q.1).map C.d), .one (.d (i64 q.2))]
set_option maxHeartbeats 2000000 in
theorem sacceptC (hR : RawH) (a : AgentP) (m : MsgP) (l : List ComP) (hd : a.doc.fit) (hl : ∀ c ∈ l, SnpG c.snap) : ∀ n, Con Tryz.prog 27 [agD (agentF a), agD (msgF m), dT (sl 4 (l.map comF))] [] n (agentU (acceptE a m l)) [] n := by
  refine fnI Tryz.func27 Tryz.ntmps27 (h := fun S w0 β0 X => ?_)
  have hq := (rfl : acceptE a m l = acceptE a m l)
  conv at hq => rhs; rw [acceptE]
  have hor := orC [cmpI m.epoch a.epoch, cmpI m.seq a.seq]
  generalize hnz : firstNZ [cmpI m.epoch a.epoch, cmpI m.seq a.seq] = z at *
  refine GO ?_
  refine Ch.c (cmpIntC m.epoch a.epoch) (r := ?_)
  refine GO ?_
  refine Ch.c (cmpIntC m.seq a.seq) (r := ?_)
  refine GO ?_
  refine Ch.p (OpT.sliceN (k := 1) (xs := [_, _]) (ss := [_, _]) (lls := [cmpI m.epoch a.epoch, cmpI m.seq a.seq].map fun n => [i64 n]) ⟨.one _, .one _, trivial⟩ rfl (by simp)) ⟨rfl, rfl, trivial⟩ ?_
  refine Ch.c (hor) (r := ?_)
  refine GO ?_
  refine W.cond rfl (fun h => ?_) (fun h => ?_)
  · rw [if_pos (by simpa using h)] at hq
    rw [hq]
    refine GO ?_
    refine Ch.c (sagentC a hd) (r := ?_)
    refine GO ?_
    exact fin2
  rw [if_neg (by simpa using h)] at hq
  refine GO ?_
  refine W.cond rfl (fun h1 => ?_) (fun h1 => ?_)
  · rw [if_pos (by grind)] at hq
    rw [hq]
    refine GO ?_
    refine Ch.c (sagentC a hd) (r := ?_)
    refine GO ?_
    exact fin2
  have hr : 0 ≤ m.commit ∧ m.commit < l.length := by grind
  rw [if_neg (by omega)] at hq
  obtain ⟨i, hi⟩ := Int.eq_ofNat_of_zero_le hr.1
  have hil : i < l.length := by omega
  have hc := List.getElem?_eq_getElem hil
  generalize l[i] = c at hc
  rw [hi, Int.toNat_natCast, hc] at hq
  simp only at hq
  have hrd := sreadC hR c.snap a.file a.schema (hl c (List.mem_of_getElem? hc))
  generalize readE c.snap a.file a.schema = y at *
  refine GO ?_
  refine Ch.p (OpT.indexR (j := i) (v := c) (hij := hi) (hj := hc)) ⟨rfl, rfl, trivial⟩ ?_
  refine GO ?_
  refine Ch.c (hrd) (r := ?_)
  refine GO ?_
  refine W.cond rfl (fun h2 => ?_) (fun h2 => ?_)
  · rw [if_pos (by simpa using h2)] at hq
    rw [hq]
    refine GO ?_
    refine Ch.c (sagentC a hd) (r := ?_)
    refine GO ?_
    exact fin2
  rw [if_neg (by simpa using h2), ← hi] at hq
  rw [hq]
  refine GO ?_
  exact fin2
end Go.Proofs.YtelkpflpgpdkdaaGreatDoor
namespace Go.Proofs.YtelkpflpgpdkdaaGreatDoor
open Go.Sv
set_option maxRecDepth 10000
/-- As snap.Declare says. -/
noncomputable def declE (s : Snp) (u : Str) (t : Typ) : Snp × Int := if snapRight s = false then (zeroSnap, 1) else if (addR s.reg (addSE s.reg u t)).2 ≠ 0 then (zeroSnap, (addR s.reg (addSE s.reg u t)).2) else (⟨(addR s.reg (addSE s.reg u t)).1, s.files⟩, 0)
set_option maxHeartbeats 1000000 in
theorem sdeclC (hR : RawH) (s : Snp) (u : Str) (t : Typ) (hs : SnpG s) (ht : t.fit) : ∀ n, Con Tryz.prog 24 [agD (snapF s), sT u, agD (typF t)] [] n (snapU (declE s u t)) [] n := by
  refine fnI Tryz.func24 Tryz.ntmps24 (h := fun S w0 β0 X => ?_)
  have hq := (rfl : declE s u t = declE s u t)
  conv at hq => rhs; rw [declE]
  have ha := gAddSC hR s.reg u t hs.reg.ok.typs hs.reg.ok.lens (by have := hs.reg.ok.len; omega) (by have := hs.reg.ok.len; omega) ht
  have hcp := sCopyOC s hs
  generalize addR s.reg (addSE s.reg u t) = x at *
  refine GO ?_
  refine Ch.c (sRightC hR s hs) (r := ?_)
  generalize snapRight s = b at *
  refine GO ?_
  refine W.cond rfl (fun h => ?_) (fun h => ?_)
  · rw [if_pos (by simpa using h)] at hq
    refine GO ?_
    refine W.boxL 2 zSnap (snapF zeroSnap) nil_snap (h := ?_)
    rw [snapU_e hq]
    exact fin2
  rw [if_neg (by simpa using h)] at hq
  refine GO ?_
  refine Ch.c (ha) (r := ?_)
  refine GO ?_
  refine W.cond rfl (fun h1 => ?_) (fun h1 => ?_)
  · rw [if_pos (by simpa using h1)] at hq
    refine GO ?_
    refine W.boxL 2 zSnap (snapF zeroSnap) nil_snap (h := ?_)
    rw [snapU_e hq]
    exact fin2
  rw [if_neg (by simpa using h1)] at hq
  rw [snapU_e hq]
  refine GO ?_
  refine Ch.ch [] hcp (r := ?_)
  refine GO ?_
  refine W.frz 4 (h := ?_)
  exact fin2
end Go.Proofs.YtelkpflpgpdkdaaGreatDoor







namespace Go.Proofs.YtelkpflpgpdkdaaGreatDoor
open Go.Sv
theorem Lens.fit.one {l : List Lens} {s : Lens} (h : Lens.fit l) (hs : s ∈ l) : Lens.fit [s] := by
  have hz := Lens.size_mem hs
  obtain ⟨q1, q2, q3, q4⟩ := h.sub hs
  have h1 := h.1
  cases s
  refine ⟨?_, ⟨q1, q2, q3, q4.2⟩, trivial⟩
  simp only [Lens.size, Lens.size1, Lens.subs] at hz h1 ⊢
  omega
end Go.Proofs.YtelkpflpgpdkdaaGreatDoor






namespace Go.Proofs.YtelkpflpgpdkdaaGreatDoor
open Go.Sv
theorem nil_typ (k : Int) (w : World) (us : List Value) (h : Cells w [i64 k, i64 0, i64 0, nilD, nilD, nilD] us) : Cells w (typF (.mk k 0 0 [] [] [])) us := by
  match us, h with
  | [_, _, _, _, _, _], h => exact ⟨h.1, h.2.1, h.2.2.1, nil_sl 1 _ _ h.2.2.2.1, nil_sl 8 _ _ h.2.2.2.2.1, nil_sl 6 _ _ h.2.2.2.2.2.1, trivial⟩
end Go.Proofs.YtelkpflpgpdkdaaGreatDoor
namespace Go.Proofs.YtelkpflpgpdkdaaGreatDoor
open Go.Sv
set_option maxRecDepth 10000
open Go.RowKit
def sF : Str := ⟨#[102]⟩
def sS : Str := ⟨#[115]⟩
def snpS : Snp := ⟨regS, []⟩
def snpF : Snp := ⟨regS, [⟨sF, 0, ⟨docE, []⟩⟩]⟩
theorem right_z : snapRight zeroSnap = true := by kernel_rfl
theorem decl_s : declE zeroSnap sS tyS = (snpS, 0) := by
  unfold declE
  rw [right_z, if_neg (by simp)]
  rw [show zeroSnap.reg = zeroR from rfl, show sS = (⟨#[115]⟩ : Str) from rfl, add_1]
  rfl
theorem fillN_s : fillN cvP regS 13 0 (-1) ⟨docE, []⟩ = (⟨docE, []⟩, 0) := by kernel_rfl
theorem may_s : mayE regS 0 = 0 := by kernel_rfl
theorem fill_s : fillS cvP regS 0 ⟨docE, []⟩ = (⟨docE, []⟩, 0) := by
  unfold fillS
  rw [may_s, fillN_s]; rfl
theorem right_s : snapRight snpS = true := by kernel_rfl
theorem find_s : schemaFind regS sS = 0 := by kernel_rfl
theorem write_f : writeE snpS sF sS docE = (snpF, 0) := by
  have hw : writtenE snpS (fileIdx snpS.files sF) (schemaFind snpS.reg sS) docE = (⟨docE, []⟩, 0) := by
    unfold writtenE
    rw [show schemaFind snpS.reg sS = 0 from find_s, show snpS.reg = regS from rfl, fill_s, if_pos (.inr (by decide))]
  unfold writeE
  rw [right_s, hw, show schemaFind snpS.reg sS = 0 from find_s]
  rw [if_neg (by rintro (h | h) <;> cases h), if_neg (by decide), if_neg (by decide), if_neg (by decide)]
  rfl
theorem whole_f1 : wholeS cvP regS 0 ⟨docE, []⟩ = true := by
  unfold wholeS
  rw [may_s, fillN_s]; kernel_rfl
theorem right_f : snapRight snpF = true := by
  have h : fileStep regS snpF.files 0 = true := by
    unfold fileStep
    rw [show (snpF.files.getD 0 default).schema = 0 from rfl, show (snpF.files.getD 0 default).state = ⟨docE, []⟩ from rfl, whole_f1]
    kernel_rfl
  unfold snapRight filesTo
  rw [show List.range snpF.files.length = [0] from rfl, show snpF.reg = regS from rfl, List.all_cons, h]
  rfl
theorem goT_s : goT regS 0 0 ⟨docE, []⟩ = (⟨docE, []⟩, 0) := by kernel_rfl
theorem read_f : readE snpF sF sS = (docE, 0) := by
  have hb : bothE snpF sF sS = (0, 0, 0) := by
    unfold bothE
    rw [right_f, show schemaFind snpF.reg sS = 0 from find_s, show fileIdx snpF.files sF = 0 by kernel_rfl]
    rfl
  unfold readE
  rw [hb]
  show (if (0 : Int) ≠ 0 then _ else _) = _
  rw [if_neg (by simp)]
  show ((goT regS 0 0 ⟨docE, []⟩).1.doc, (goT regS 0 0 ⟨docE, []⟩).2) = _
  rw [goT_s]
def ag0 : AgentP := ⟨0, sF, sS, 0, 0, 0, false, zeroDoc⟩
def ag1 : AgentP := ⟨0, sF, sS, 0, 1, 0, true, docE⟩
def msg1 : MsgP := ⟨0, 0, 1, 0⟩
def com1 : ComP := ⟨[], snpF⟩
theorem acc_0 : acceptE ag0 msg1 [com1] = (ag1, 0) := by
  unfold acceptE
  rw [show firstNZ [cmpI msg1.epoch ag0.epoch, cmpI msg1.seq ag0.seq] = 1 by kernel_rfl, if_neg (by decide), if_neg (by decide)]
  show (if (readE snpF sF sS).2 ≠ 0 then _ else _) = _
  rw [show readE com1.snap ag0.file ag0.schema = readE snpF sF sS from rfl, read_f]
  rfl
theorem acc_1 : acceptE ag1 msg1 [com1] = (ag1, 14) := by
  unfold acceptE
  rw [show firstNZ [cmpI msg1.epoch ag1.epoch, cmpI msg1.seq ag1.seq] = 0 by kernel_rfl, if_pos (by decide)]
def pl1 : PlanP := ⟨0, 1, [5, -1], [⟨0, 0, 5⟩]⟩
def ql1 : PlanP := ⟨0, 2, [5, 5], [⟨0, 0, 5⟩, ⟨0, 1, 5⟩]⟩
def ql2 : PlanP := ⟨0, 3, [6, 5], [⟨0, 0, 5⟩, ⟨0, 1, 5⟩, ⟨0, 0, 6⟩]⟩
def xl : PlanP := ⟨1, 4, [5, 5], [⟨0, 0, 5⟩, ⟨0, 1, 5⟩, ⟨0, 0, 6⟩, ⟨1, 0, 5⟩, ⟨1, 1, 5⟩]⟩
theorem pl_1 : relE (newE 2) 5 = (pl1, 0) := by kernel_rfl
theorem pl_2 : proE pl1 0 1 1 = (ql1, 0) := by kernel_rfl
theorem pl_3 : proE pl1 0 0 1 = (pl1, 9) := by kernel_rfl
theorem pl_4 : relE ql1 6 = (ql2, 0) := by kernel_rfl
theorem pl_5 : rollE ql2 5 = (xl, 0) := by kernel_rfl
theorem pl_6 : rollE ql2 9 = (ql2, 3) := by kernel_rfl
theorem pl_7 : planRight xl = true := by kernel_rfl
theorem pl_8 : wasE xl 0 1 5 = true := by kernel_rfl
def agP : AgentP := ⟨1, ⟨#[]⟩, ⟨#[]⟩, 0, 0, 0, false, zeroDoc⟩
def msgP : MsgP := ⟨3, 1, 4, 5⟩
theorem pl_9 : pollE xl 3 agP = (msgP, 0) := by kernel_rfl
theorem regG_S : RegG regS := few_regG (by kernel_rfl) nofun
theorem snpG_z : SnpG zeroSnap := ⟨few_regG (by kernel_rfl) nofun, Nat.zero_le _, nofun⟩
theorem snpG_s : SnpG snpS := ⟨regG_S, Nat.zero_le _, nofun⟩
theorem docE_fitS : docE.fit := ⟨by decide, by simp [docE, Doc.slim, Doc.slims]⟩
theorem snpG_f : SnpG snpF := ⟨regG_S, by decide, fun f hf => by
  rw [List.mem_singleton.1 hf]
  exact ⟨⟨docE_fitS, Nat.zero_le _, nofun⟩, Nat.zero_le _⟩⟩
end Go.Proofs.YtelkpflpgpdkdaaGreatDoor
