/- What Exec lets go of, as plain data. No condition. -/
import Derived.Test.YtdnbfhcbcdodmaaGreatDoorGTabB
import Derived.Test.YtdnbfhcbcdodmaaGreatDoorRegionIn
import Derived.Shelf.Abstract
import Derived.OwnWalkIn
import Derived.TacticsInMore
import Derived.LoopNIn
import Derived.LoopIn
import Derived.Test.YtdnbfhcbcdodmaaGreatDoorFilesT
import Derived.Test.YtdnbfhcbcdodmaaGreatDoorStrs
import Derived.Test.YtdnbfhcbcdodmaaGreatDoorFilesJ
import Derived.Maps.Own
import Derived.Maps.OwnOps
import Derived.Maps.OwnSet
import Derived.Maps.Views
import Derived.Sort.KeysCollected
import Derived.Test.YtdnbfhcbcdodmaaGreatDoorProg
import Derived.Deep.QuietTactic
import Derived.BigQuiet
import Derived.StillTailTactics
namespace Go.Proofs.YtdnbfhcbcdodmaaGreatDoor
open Go.RowKit

theorem Tryz.info74 : (Tryz.prog.info? 74).map (fun i => (i.zero, i.size, i.bytes)) = some (some (.pointer none), 1, 8) := by kernel_rfl
/-- What goes at number i. -/
def exAt (st : TSt) (i : Nat) : Option Nat := match st i with | some (x, true) => some x | _ => none
def exL (st : TSt) (k : Nat) : List Nat := (List.range k).filterMap (exAt st)
def exO (o : Option (Nat × Bool)) : Option (Nat × Bool) := match o with | some (_, true) => none | o => o
def exSt (st : TSt) (k : Nat) : TSt := fun i => if i < k then exO (st i) else st i
theorem set_eq (st : TSt) (k i : Nat) (o : Option (Nat × Bool)) : st.set k o i = if i = k then o else st i := rfl
def ptrs (l : List Nat) : List Value := l.map fun x => .pointer (some ⟨x, 0, none⟩)
end Go.Proofs.YtdnbfhcbcdodmaaGreatDoor

/- The iterator of table.Table[*shyard/gate.desc].All. Conditions: each contract's own premises. -/
namespace Go.Proofs.YtdnbfhcbcdodmaaGreatDoor
open Go.RowKit Go.Shelf

attribute [local go_sem] Oper.semAt_some

/-- A table, or none. -/
def TabV (W : World) (tv : Value) (st : TSt) : Prop := (tv = .pointer none ∧ ∀ i, st i = none) ∨ ∃ t S, tv = .pointer (some ⟨t, 0, none⟩) ∧ TabAt W t st S
def AtPost (W : World) (st : TSt) (fd : Nat) (e : Ending) (W' : World) : Prop :=
  W = W' ∧ ∃ b, e = .returned (tptrOf (st fd) b) ∧ ∀ x m, st fd = some (x, m) → W.cell? ⟨b, 0, none⟩ = some (.pointer (some ⟨x, 0, none⟩))
theorem at_gen {W : World} {tv : Value} {st : TSt} (h : TabV W tv st) (fd : Nat) (hfd : fd < 32) : Calls Tryz.prog 66 #[tv, .int .i64 fd] W (AtPost W st fd) := by
  rcases h with ⟨rfl, hn⟩ | ⟨t, S, rfl, p, cs, ht⟩
  · refine (at_nil W fd).mono ?_
    rintro e w' ⟨rfl, rfl⟩
    exact ⟨rfl, 0, by rw [hn]; rfl, fun x m e => by rw [hn] at e; cases e⟩
  · refine (at_in W t p st S cs ht fd hfd).mono ?_
    rintro e w' ⟨rfl, rfl⟩
    exact ⟨rfl, p fd, rfl, fun x m e => by rw [blk_cell (ht.hs fd x m hfd e)]; rfl⟩
theorem all_any (tv : Option Addr) (w : World) : Calls Tryz.prog 32 #[.pointer tv] w fun e w' =>
    e = .returned (.func (.func 65) #[] #[.pointer (some ⟨w.heap.size, 0, none⟩)]) ∧ w' = w.alloc (.cells #[.pointer tv] 72 (0, 0)) := by
  go_enter Tryz.func32, Tryz.ntmps32
  go_wp2
  go_ret
  exact ⟨rfl, rfl⟩
/-- What a step of the iterator is: the next number that has something. -/
def TStep {σ : Type} (pos : σ → Nat) (sst : σ → TSt) (next : σ → Nat → σ) (s : σ) (x : Nat × Nat) (s' : σ) (_ : World) : Prop :=
  pos s ≤ x.1 ∧ x.1 < 32 ∧ (∀ j, pos s ≤ j → j < x.1 → sst s j = none) ∧ (∃ m, sst s x.1 = some (x.2, m)) ∧ s' = next s x.1
def TFin {σ : Type} (pos : σ → Nat) (sst : σ → TSt) (s : σ) : Prop := ∀ j, pos s ≤ j → j < 32 → sst s j = none
def tenc (x : Nat × Nat) : Array Value := #[.int .i64 x.1, .pointer (some ⟨x.2, 0, none⟩)]
def ItRel {σ : Type} (pos : σ → Nat) (sst : σ → TSt) (J : σ → World → Prop) (i : Value) (wr : World) : Prop :=
  ∃ (k : Nat) (s : σ), i = .int .i64 k ∧ k ≤ 32 ∧ pos s ≤ k ∧ (∀ j, pos s ≤ j → j < k → sst s j = none) ∧ J s wr

set_option maxHeartbeats 1000000 in
theorem all1_iter {σ : Type} (n : Nat) (hn : 2 ≤ n) (box : Nat) (tv : Option Addr) (pos : σ → Nat) (sst : σ → TSt) (next : σ → Nat → σ) (hpos : ∀ s fd, pos (next s fd) = fd + 1) (I : σ → World → Prop)
    (hI : ∀ s W, I s W → TabV W (.pointer tv) (sst s) ∧ W.cell? ⟨box, 0, none⟩ = some (.pointer tv)) (s0 : σ) (hs0 : pos s0 = 0)
    (l : Nat) (J : σ → World → Prop) (Jx : World → Prop) (W : World) (hJI : ∀ s W, J s W → I s W) 
    (hY : ∀ s x s' W, TStep pos sst next s x s' W → J s W → YieldAt FW (n - 1) Tryz.prog l (tenc x) W fun e W' => (e = .returned (.bool true) ∧ J s' W') ∨ (e = .returned (.bool false) ∧ Jx W'))
    (h0 : J s0 W) :
    CallsIn FW n Tryz.prog 65 (#[.func (.yield l) #[] #[]] ++ #[.pointer (some ⟨box, 0, none⟩)]) W fun e W' => (∃ v, e = .returned v) ∧ ((∃ s, TFin pos sst s ∧ J s W') ∨ Jx W') := by
  simp only [List.append_toArray, List.cons_append, List.nil_append]
  refine callsIn_of_wp Tryz.func65 rfl trivial ?_ rfl
  simp only [Tryz.ntmps65, List.size_toArray, List.length_cons, List.length_nil, Nat.reduceAdd, Nat.reduceSub, Array.replicate_succ, Array.replicate_zero, List.push_toArray, List.append_toArray, List.nil_append, List.cons_append]
  gi_wp2
  gi_loopw [5] (fun i wr => ItRel pos sst J i wr) (fun i _ => 32 - (intOf i).toNat)
  case atStart => exact ⟨0, s0, rfl, by omega, by omega, fun j _ h2 => by omega, h0⟩
  case round =>
    obtain ⟨k, s, rfl, hk, hps, hall, hJ⟩ := hrel
    by_cases h1 : k < 32
    · obtain ⟨hT, hbox⟩ := hI s wr (hJI s wr hJ)
      have hall := hide hall
      have hat := at_gen hT k h1
      have hn1 : 1 ≤ n := by omega
      gi_wp2_with (refine ⟨trivial, ?_⟩; gi_at_call 66; refine (callsIn_wide.2 hat).mono ?_)
      rintro e w' ⟨rfl, b, rfl, hx⟩
      rcases hst : sst s k with _ | ⟨x, m⟩
      · simp only [tptrOf]
        gi_wp2
        refine ⟨fun _ h => (by cases h), ?_⟩
        gi_wp2
        go_roundw
        case rel =>
          refine ⟨k + 1, s, by go_num, by omega, by omega, fun j h2 h3 => ?_, hJ⟩
          by_cases e : j = k
          · rw [e]; exact hst
          · exact hall.out j h2 (by omega)
        case measure => simp [intOf]; omega
      · have hc := hx x m hst
        have hstep : TStep pos sst next s (k, x) (next s k) wr := ⟨hps, h1, hall.out, ⟨m, hst⟩, rfl⟩
        obtain ⟨fn, tmps, assign, body, hy, hR⟩ := hY s (k, x) (next s k) wr hstep hJ
        simp only [tenc] at hy hR
        simp only [tptrOf]
        gi_wp2
        refine hR.mono ?_
        rintro e W3 (⟨rfl, hJ3⟩ | ⟨rfl, hJx3⟩)
        · gi_wp2
          go_roundw
          case rel => exact ⟨k + 1, next s k, by go_num, by omega, by rw [hpos]; omega, fun j h2 h3 => by rw [hpos] at h2; omega, hJ3⟩
          case measure => simp [intOf]; omega
        · gi_wp2
          refine bodyPost_ret (results_none rfl _ _ _) rfl ?_
          exact ⟨⟨_, rfl⟩, .inr hJx3⟩
    · have e : k = 32 := by omega
      subst e
      have hfin : ∃ s, TFin pos sst s ∧ J s wr := ⟨s, hall, hJ⟩
      clear hall
      gi_wp2
      go_end0
      exact ⟨⟨_, rfl⟩, .inl hfin⟩
end Go.Proofs.YtdnbfhcbcdodmaaGreatDoor

/- Contract of table.Table[*shyard/gate.desc].Free. Conditions: the contract's own premises. -/
namespace Go.Proofs.YtdnbfhcbcdodmaaGreatDoor
open Go.RowKit Go.Shelf

attribute [local go_sem] Oper.semAt_some

/-- How many numbers below k have something. -/
def used (st : TSt) (k : Nat) : Nat := ((List.range k).filter (fun i => (st i).isSome)).length
theorem used_succ (st : TSt) (k : Nat) : used st (k + 1) = used st k + if (st k).isSome = true then 1 else 0 := by
  unfold used
  rw [List.range_succ, List.filter_append, List.length_append]
  congr 1
  by_cases e : (st k).isSome = true <;> simp [e]
theorem used_skip {st : TSt} {a : Nat} : ∀ (n : Nat), (∀ j, a ≤ j → j < a + n → st j = none) → used st (a + n) = used st a
  | 0, _ => rfl
  | n + 1, h => by
    rw [show a + (n + 1) = (a + n) + 1 by omega, used_succ, used_skip n (fun j h1 h2 => h j h1 (by omega)), h (a + n) (by omega) (by omega)]
    simp
theorem used_step {st : TSt} {a b : Nat} (hab : a ≤ b) (h : ∀ j, a ≤ j → j < b → st j = none) (hb : (st b).isSome = true) : used st (b + 1) = used st a + 1 := by
  have := used_skip (st := st) (a := a) (b - a) (fun j h1 h2 => h j h1 (by omega))
  rw [show a + (b - a) = b by omega] at this
  rw [used_succ, this, if_pos hb]
theorem used_end {st : TSt} {a b : Nat} (hab : a ≤ b) (h : ∀ j, a ≤ j → j < b → st j = none) : used st b = used st a := by
  have := used_skip (st := st) (a := a) (b - a) (fun j h1 h2 => h j h1 (by omega))
  rwa [show a + (b - a) = b by omega] at this
theorem used_le (st : TSt) (k : Nat) : used st k ≤ k := by
  unfold used
  exact Nat.le_trans (List.length_filter_le _ _) (by simp)

def FreePost (w : World) (st : TSt) (e : Ending) (w' : World) : Prop := e = .returned (.int .i64 ((32 - used st 32 : Nat) : Int)) ∧ Fr (fun _ => False) w w'
structure FreeI (w : World) (t : Nat) (st : TSt) (s : Nat × Nat) (W : World) : Prop where
  le : s.1 ≤ 32
  c : s.2 = used st s.1
  n : W.heap[w.heap.size]? = some (.cells #[.int .i64 ((32 : Int) - (s.2 : Int))] 3 (0, 0))
  b : W.heap[w.heap.size + 1]? = some (.cells #[.pointer (some ⟨t, 0, none⟩)] 72 (0, 0))
  fr : Fr (fun _ => False) w W
theorem FreeI.frame {w W W' : World} {t : Nat} {st : TSt} {s : Nat × Nat} {S : Nat → Prop} (h : FreeI w t st s W) (hf : Fr S W W') (hS : ∀ k, S k → w.heap.size + 2 ≤ k) : FreeI w t st s W' :=
  ⟨h.le, h.c, hf.get h.n (fun e => by have := hS _ e; omega), hf.get h.b (fun e => by have := hS _ e; omega), h.fr.trans' hf (fun i hi e => by have := hS _ e; omega)⟩

set_option maxHeartbeats 1000000 in
theorem free_any (w : World) (t : Nat) (st : TSt) (S : Nat → Prop) (ht : TabAt w t st S) :
    Calls Tryz.prog 82 #[.pointer (some ⟨t, 0, none⟩)] w (FreePost w st) := by
  refine (callsIn_wide (n := 5)).1 ?_
  refine callsIn_of_wp_marks Tryz.func82 rfl trivial ?_ rfl
  simp only [Tryz.ntmps82, List.size_toArray, List.length_cons, List.length_nil, Nat.reduceAdd, Nat.reduceSub, Array.replicate_succ, Array.replicate_zero, List.push_toArray, List.append_toArray, List.nil_append, List.cons_append]
  gi_wp2_with (refine ⟨trivial, ?_⟩; gi_at_call 32; refine (callsIn_wide.2 (all_any _ _)).mono ?_; rintro e w' ⟨rfl, rfl⟩)
  have h0 : FreeI w t st (0, 0) ((w.alloc (.cells #[.int .i64 32] 3 (0, 0))).alloc (.cells #[.pointer (some ⟨t, 0, none⟩)] 72 (0, 0))) :=
    ⟨by simp, rfl, blk_alloc (blk_new _ _) _, blk_new' _ _ _ (by simp), ((Fr.refl _ _).alloc _).alloc _⟩
  refine rf_law (α := Nat × Nat) (σ := Nat × Nat) 65 #[.pointer (some ⟨w.heap.size + 1, 0, none⟩)] rfl (enters_of Tryz.func65 (by kernel_rfl) rfl) tenc (fun _ => rfl)
    (TStep Prod.fst (fun _ => st) (fun s fd => (fd + 1, s.2 + 1))) (TFin Prod.fst (fun _ => st)) (0, 0) (FreeI w t st) (fun _ _ => False)
    (fun s A B h hg => h.frame hg (fun k e => by simp at e; omega)) (fun _ _ _ h _ => h) (fun _ _ _ _ _ h _ _ => h) h0
    (fun l J Jx W hJI _ _ hY h0 => all1_iter _ (by omega) _ (some ⟨t, 0, none⟩) Prod.fst (fun _ => st) (fun s fd => (fd + 1, s.2 + 1)) (fun _ _ => rfl) (FreeI w t st)
      (fun s W h => ⟨.inr ⟨t, S, rfl, ht.frame h.fr (fun _ _ _ e => e)⟩, by rw [blk_cell h.b]; rfl⟩) (0, 0) rfl l J Jx W hJI hY h0)
    (fun x => { tmps := #[.pointer (some ⟨t, 0, none⟩), undef, .int .i64 0, .pointer (some ⟨w.heap.size, 0, none⟩), .pointer (some ⟨t, 0, none⟩), .bool false, .pointer (some ⟨t, 0, none⟩),
      .func (.func 65) #[] #[.pointer (some ⟨w.heap.size + 1, 0, none⟩)], .int .i64 x.1, .pointer (some ⟨x.2, 0, none⟩), undef, undef, undef], defers := [] }) ?assign ?body ?done ?stop
  case assign =>
    intro l x W K hK
    gi_wp2
    simpa [tenc] using hK
  case body =>
    rintro l s x s' W ⟨hp1, hp2, hp3, ⟨m, hp4⟩, rfl⟩ hi _
    have hi' : FreeI w t st (x.1 + 1, s.2 + 1) (W.setCell ⟨w.heap.size, 0, none⟩ (.int .i64 ((32 : Int) - (s.2 : Int) - 1))) := by
      refine ⟨by simp; omega, ?_, ?_, ?_, ?_⟩
      · simp only [hi.c]
        rw [used_step hp1 hp3 (by rw [hp4]; rfl)]
      · rw [blk_set hi.n]; simp; omega
      · exact blk_set_other hi.b _ _ (by simp)
      · exact hi.fr.setCell (.inr (Nat.le_refl _)) _
    have hc : W.cell? ⟨w.heap.size, 0, none⟩ = some (.int .i64 ((32 : Int) - (s.2 : Int))) := by rw [blk_cell hi.n]; rfl
    have hf := blk_frozen hi.n
    have hle : s.2 ≤ 32 := by rw [hi.c]; exact Nat.le_trans (used_le _ _) hi.le
    gi_wp2
    exact ⟨⟨Below.heap_setCell _ _ _ _ (by simp; omega), Below.heap_setCell _ _ _ _ (by simp; omega)⟩, hi'⟩
  case done =>
    rintro s W hfin hi hK
    have hc : W.cell? ⟨w.heap.size, 0, none⟩ = some (.int .i64 ((32 : Int) - (s.2 : Int))) := by rw [blk_cell hi.n]; rfl
    gi_wp2
    refine ⟨by simp, .inl ⟨_, _, rfl, run_takeDeferred hK, ?_⟩⟩
    refine ⟨_, results_tmp rfl _ _ _, ?_, hi.fr.trans' (fr_putObj (S := fun k => w.heap.size ≤ k) _ (by simp; omega)) (fun i h1 h2 => by omega)⟩
    have : used st 32 = used st s.1 := used_end hi.le hfin
    have h2 := hi.c
    have h3 := used_le st 32
    exact ret_int (by omega)
  case stop =>
    rintro c W h _
    exact h.elim
end Go.Proofs.YtdnbfhcbcdodmaaGreatDoor

/- The kernel as plain data: pipes, descriptions, processes, a console, a tree of files; what its calls do. No program in sight; no condition. -/
namespace Go.Proofs.YtdnbfhcbcdodmaaGreatDoor
open Go.RowKit

structure PipeQ where
  data : List UInt8
  r : Nat
  x : Nat
  inn : Bool
structure DescQ where
  kind : Nat
  n : Nat
  pos : Nat
  refs : Int
  flags : Nat
  text : ByteArray
  inn : Bool
structure ProcQ where
  parent : Nat
  ended : Bool
  status : Int
  dir : Nat
  mask : Nat
  fds : TSt
  inn : Bool
/-- A kernel: what a number has counts from 1 to the count. -/
structure KQ where
  σ : FSt
  pn : Nat
  pipe : Nat → PipeQ
  dn : Nat
  desc : Nat → DescQ
  qn : Nat
  proc : Nat → ProcQ
  typed : ByteArray
  closed : Bool
  out : Nat → ByteArray
/-- An answer. -/
structure ResQ where
  n : Int
  m : Int
  s : ByteArray
  list : List ByteArray
  st : StQ
  err : Int
def noBy : ByteArray := ⟨#[]⟩
def noRes : ResQ := ⟨0, 0, noBy, [], noSt, 0⟩
def errR (e : Int) : ResQ := { noRes with err := e }
def KQ.setP (K : KQ) (i : Nat) (x : PipeQ) : KQ := { K with pipe := fun j => if j = i then x else K.pipe j }
def KQ.setD (K : KQ) (i : Nat) (x : DescQ) : KQ := { K with desc := fun j => if j = i then x else K.desc j }
def KQ.setQ (K : KQ) (i : Nat) (x : ProcQ) : KQ := { K with proc := fun j => if j = i then x else K.proc j }
def KQ.fds (K : KQ) (i : Nat) (t : TSt) : KQ := K.setQ i { K.proc i with fds := t }
def DescQ.reads (d : DescQ) : Bool := decide (d.kind = 3) || decide (d.kind = 5) || (decide (d.kind = 1) && decide (d.n = 0)) || (decide (d.kind = 2) && decide (d.flags % 2 = 1))
def DescQ.writes (d : DescQ) : Bool := decide (d.kind = 4) || (decide (d.kind = 1) && !decide (d.n = 0)) || (decide (d.kind = 2) && decide (d.flags / 2 % 2 = 1))
def KQ.addD (K : KQ) (d : DescQ) : KQ := { K with dn := K.dn + 1, desc := fun j => if j = K.dn + 1 then d else K.desc j }
/-- A new description, with a descriptor of a process. -/
def openQ (K : KQ) (i : Nat) (d : DescQ) : Nat × KQ :=
  match firstFree (K.proc i).fds 0 with
  | none => (0, K.addD { d with refs := 1, inn := true })
  | some fd => (fd, (K.addD { d with refs := 1, inn := true }).fds i ((K.proc i).fds.set fd (some (K.dn + 1, false))))
def closeP (p : PipeQ) (w : Bool) : PipeQ := if w = true then { p with x := p.x - 1 } else { p with r := p.r - 1 }
/-- A descriptor less. -/
def dropQ (K : KQ) (j : Nat) : KQ :=
  if 0 < (K.desc j).refs - 1 then K.setD j { K.desc j with refs := (K.desc j).refs - 1 }
  else if (K.desc j).kind = 2 then { K.setD j { K.desc j with refs := (K.desc j).refs - 1, inn := false } with σ := (dropR K.σ (K.desc j).n).2 }
  else if (K.desc j).kind = 3 ∨ (K.desc j).kind = 4 then
    (K.setD j { K.desc j with refs := (K.desc j).refs - 1, inn := false }).setP (K.desc j).n
      (let p := closeP (K.pipe (K.desc j).n) (decide ((K.desc j).kind = 4)); { p with inn := p.inn && !decide (p.r + p.x = 0) })
  else K.setD j { K.desc j with refs := (K.desc j).refs - 1, inn := false }
def cutQ (i : Nat) (K : KQ) (fd : Nat) : KQ :=
  match (K.proc i).fds fd with
  | none => K
  | some (j, _) => dropQ (K.fds i ((K.proc i).fds.set fd none)) j
/-- Those of a process that has ended go to the first. -/
def orphanQ (K : KQ) (i : Nat) : KQ := { K with proc := fun j => if (K.proc j).inn = true ∧ (K.proc j).parent = i ∧ j ≠ 1 then { K.proc j with parent := 1 } else K.proc j }
def cutsQ (i : Nat) (K : KQ) : Nat → KQ
  | 0 => K
  | fd + 1 => cutQ i (cutsQ i K fd) fd
def endedQ (K : KQ) (i : Nat) (st : Int) : KQ := ({ K with σ := (dropR K.σ (K.proc i).dir).2 }).setQ i { K.proc i with ended := true, status := st }
/-- A process ends. -/
def endQ (K : KQ) (i : Nat) (st : Int) : KQ := orphanQ (endedQ (cutsQ i K 32) i st) i
end Go.Proofs.YtdnbfhcbcdodmaaGreatDoor

/- A map with int keys, by a sorted list of what it holds: look-up, store, delete, length. Conditions: keys are numbers of 64 bits. -/
namespace Go.Proofs.YtdnbfhcbcdodmaaGreatDoor
open Go.RowKit Go.Maps

abbrev IA (α : Type) := List (Int × α)
abbrev IL := IA Value
section
variable {α : Type}
def iOf (L : IL) : DataW Value := .map (L.map fun p => (.int .i64 p.1, .held p.2))
def iins (x : Int × α) : IA α → IA α
  | [] => [x]
  | y :: r => if x.1 < y.1 then x :: y :: r else y :: iins x r
def idel (s : Int) (L : IA α) : IA α := L.filter fun p => !(p.1 == s)
def iput (s : Int) (v : α) (L : IA α) : IA α := iins (s, v) (idel s L)
def iget (s : Int) (L : IA α) : Option α := (L.find? fun p => p.1 == s).map (·.2)

theorem idinsert_cons (x y : Lit × DataW Value) (r : List (Lit × DataW Value)) : DataW.insert x (y :: r) = if x.1.before y.1 = true then x :: y :: r else y :: DataW.insert x r := rfl
theorem iins_cons (x y : Int × α) (r : IA α) : iins x (y :: r) = if x.1 < y.1 then x :: y :: r else y :: iins x r := rfl
end
theorem iOf_insert (x : Int × Value) : ∀ L : IL, DataW.insert (.int .i64 x.1, .held x.2) (L.map fun p => (Lit.int .i64 p.1, DataW.held p.2)) = (iins x L).map fun p => (Lit.int .i64 p.1, DataW.held p.2)
  | [] => rfl
  | y :: r => by
    rw [List.map_cons, idinsert_cons, iins_cons]
    by_cases h : x.1 < y.1
    · rw [if_pos h, if_pos (show (Lit.int .i64 x.1).before (Lit.int .i64 y.1) = true from decide_eq_true h)]; rfl
    · rw [if_neg h, if_neg (show ¬ (Lit.int .i64 x.1).before (Lit.int .i64 y.1) = true from fun e => h (of_decide_eq_true e)), iOf_insert x r]; rfl
theorem same_int (a b : Int) : (Lit.int .i64 a).sameKey (.int .i64 b) = (a == b) := by
  show decide (IntKind.i64 = IntKind.i64 ∧ a = b) = _
  by_cases h : a = b <;> simp [h]
theorem iOf_filter (s : Int) : ∀ L : IL, ((L.map fun p => (Lit.int .i64 p.1, (DataW.held p.2 : DataW Value))).filter fun p => !p.1.sameKey (.int .i64 s)) = (idel s L).map fun p => (Lit.int .i64 p.1, DataW.held p.2)
  | [] => rfl
  | y :: r => by
    have ih := iOf_filter s r
    have e1 : (Lit.int .i64 y.1).sameKey (.int .i64 s) = (y.1 == s) := same_int _ _
    simp only [idel, List.map_cons, List.filter_cons, e1] at ih ⊢
    by_cases h : (!(y.1 == s)) = true
    · rw [if_pos h, if_pos h, ih]; rfl
    · rw [if_neg h, if_neg h, ih]
theorem iOf_put (s : Int) (v : Value) (L : IL) : (iOf L).put (.int .i64 s) (.held v) = iOf (iput s v L) := by
  show DataW.map (DataW.insert _ _) = _
  rw [iOf_filter, iOf_insert (s, v)]; rfl
theorem iOf_del (s : Int) (L : IL) : (iOf L).del (.int .i64 s) = iOf (idel s L) := by
  show DataW.map _ = _
  rw [iOf_filter]; rfl
theorem iOf_find (s : Int) : ∀ L : IL, (L.map fun p => (Lit.int .i64 p.1, (DataW.held p.2 : DataW Value))).find? (fun p => p.1.sameKey (.int .i64 s)) = (L.find? fun p => p.1 == s).map fun p => (Lit.int .i64 p.1, DataW.held p.2)
  | [] => rfl
  | y :: r => by
    have ih := iOf_find s r
    rw [List.map_cons, List.find?_cons, List.find?_cons]
    simp only [same_int]
    cases h : y.1 == s
    · exact ih
    · rfl
theorem iOf_at (s : Int) (L : IL) (z : DataW Value) : (iOf L).atKey (.int .i64 s) z = match iget s L with | some v => .held v | none => z := by
  unfold iOf DataW.atKey
  simp only [iOf_find]
  unfold iget
  cases L.find? (fun p => p.1 == s) <;> rfl
theorem iOf_size (L : IL) : Maps.size (iOf L) = L.length := by simp [iOf, Maps.size]

/-- The keys stand in order, each once. -/
def ISorted {α : Type} (L : IA α) : Prop := L.Pairwise fun a b => a.1 < b.1
/-- Block b is a map that holds just what L says. -/
structure IMapAt (P : Program) (k : TypeId) (w : World) (b : Nat) (L : IL) : Prop where
  own : w.ownsMap P k rV b L.length (iOf L)
  sorted : ISorted L
theorem iownsMap_tight {P : Program} {k : TypeId} {w : World} {b n : Nat} {L : IL} (h : w.ownsMap P k rV b n (iOf L)) : w.ownsMap P k rV b L.length (iOf L) := by
  obtain ⟨es, clock, hb, F, hs, hD⟩ := h
  refine ⟨es, clock, hb, F, ?_, hD⟩
  have e1 : Maps.size (iOf L) = es.size := by rw [hD]; simp [Maps.size, length_sorted]
  rw [iOf_size] at e1
  omega
theorem IMapAt.frame {P : Program} {k : TypeId} {w w' : World} {b : Nat} {L : IL} {S : Nat → Prop} (h : IMapAt P k w b L) (hf : Fr S w w') (hn : ¬ S b) : IMapAt P k w' b L := by
  obtain ⟨⟨es, clock, hb, F, hs, hD⟩, h2⟩ := h
  exact ⟨⟨es, clock, hf.get hb hn, F, hs, hD⟩, h2⟩
theorem IMapAt.lt {P : Program} {k : TypeId} {w : World} {b : Nat} {L : IL} (h : IMapAt P k w b L) : b < w.heap.size := h.own.lt
theorem IMapAt.made {P : Program} {k : TypeId} (w : World) : IMapAt P k (w.alloc (.map #[] 0)) w.heap.size [] := ⟨World.ownsMap_made w P k rV, List.Pairwise.nil⟩

section
variable {α β : Type}
theorem wf_i64 {s : Int} (h : -9223372036854775808 ≤ s ∧ s ≤ 9223372036854775807) : (Lit.int .i64 s).wf = true := by
  unfold Lit.wf
  simp
  exact h
theorem iget_cons (s : Int) (y : Int × α) (r : IA α) : iget s (y :: r) = if (y.1 == s) = true then some y.2 else iget s r := by
  unfold iget
  rw [List.find?_cons]
  cases h : y.1 == s
  · rw [if_neg (by simp)]
  · rw [if_pos rfl]; rfl
theorem iget_mem {s : Int} {v : α} : ∀ {L : IA α}, iget s L = some v → (s, v) ∈ L
  | y :: r, h => by
    rw [iget_cons] at h
    by_cases e : (y.1 == s) = true
    · rw [if_pos e] at h
      have e1 := beq_iff_eq.1 e
      cases h
      rw [← e1]; exact List.mem_cons_self
    · rw [if_neg e] at h
      exact List.mem_cons_of_mem _ (iget_mem h)
theorem iget_none {s : Int} : ∀ {L : IA α}, iget s L = none → ∀ p ∈ L, p.1 ≠ s
  | y :: r, h, p, hp => by
    rw [iget_cons] at h
    by_cases e : (y.1 == s) = true
    · rw [if_pos e] at h; cases h
    · rw [if_neg e] at h
      rcases List.mem_cons.1 hp with rfl | hp
      · intro e1; exact e (beq_iff_eq.2 e1)
      · exact iget_none h p hp
theorem iins_mem {x p : Int × α} : ∀ {L : IA α}, p ∈ iins x L ↔ p = x ∨ p ∈ L
  | [] => by simp [iins]
  | y :: r => by
    rw [iins_cons]
    by_cases e : x.1 < y.1
    · rw [if_pos e]; simp
    · rw [if_neg e]
      simp only [List.mem_cons, iins_mem (L := r)]
      constructor <;> rintro (h | h | h) <;> simp [h]
theorem ISorted.idel {L : IA α} (h : ISorted L) (s : Int) : ISorted (idel s L) := List.Pairwise.filter _ h
theorem ISorted.iins {x : Int × α} : ∀ {L : IA α}, ISorted L → (∀ p ∈ L, p.1 ≠ x.1) → ISorted (iins x L)
  | [], _, _ => List.pairwise_singleton _ _
  | y :: r, h, hn => by
    obtain ⟨h1, h2⟩ := List.pairwise_cons.1 h
    rw [iins_cons]
    by_cases e : x.1 < y.1
    · rw [if_pos e]
      refine List.pairwise_cons.2 ⟨fun p hp => ?_, h⟩
      rcases List.mem_cons.1 hp with rfl | hp
      · exact e
      · exact Int.lt_trans e (h1 p hp)
    · rw [if_neg e]
      refine List.pairwise_cons.2 ⟨fun p hp => ?_, ISorted.iins h2 (fun p hp => hn p (List.mem_cons_of_mem _ hp))⟩
      rcases iins_mem.1 hp with rfl | hp
      · have := hn y List.mem_cons_self
        show y.1 < p.1
        omega
      · exact h1 p hp
theorem ISorted.iput {L : IA α} (h : ISorted L) (s : Int) (v : α) : ISorted (iput s v L) :=
  (h.idel s).iins fun p hp => by have := (List.mem_filter.1 hp).2; simpa using this
theorem idel_same {s : Int} {L : IA α} (h : iget s L = none) : idel s L = L := by
  unfold idel
  rw [List.filter_eq_self]
  intro p hp
  have := iget_none h p hp
  simpa using this
end
section
variable {P : Program} {k t e : TypeId} {w : World} {b : Nat} {L : IL}
theorem IMapAt.look (h : IMapAt P k w b L) (c : Bool) (hk : P.underlying k = some (.int .i64)) (ht : P.underlying t = some (.map k e)) {z : Value} (hz : (zeroValue e).run P w = .ok z w) (s : Int) (hs : -9223372036854775808 ≤ s ∧ s ≤ 9223372036854775807) :
    (Instr.lookup t (.map (some b)) (.int .i64 s) c).run P w = .ok (if c then .tuple #[(iget s L).getD z, .bool (iget s L).isSome] else (iget s L).getD z) w := by
  obtain ⟨es, clock, hb, F, _, hD⟩ := h.own
  rcases Maps.fit_look c (int_keyed hk) ht hz hb F (Maps.keyOf_int_mk hk (wf_i64 hs)) with ⟨hrun, _, hat⟩ | ⟨e0, y, _, _, hrun, hR, hat, _⟩
  · rw [← hD] at hat
    have hn : iget s L = none := by
      cases hg : iget s L with
      | none => rfl
      | some v => have := hat .nil; rw [iOf_at, hg] at this; cases this
    rw [hrun, hn]; rfl
  · rw [← hD] at hat
    cases hR
    have hn : iget s L = some e0.val := by
      have := hat .nil
      rw [iOf_at] at this
      cases hg : iget s L with
      | none => rw [hg] at this; cases this
      | some v => rw [hg] at this; cases this; rfl
    rw [hrun, hn]; rfl
theorem IMapAt.len (h : IMapAt P k w b L) (ht : P.underlying t = some (.map k e)) (ty : TypeId) : (Builtin.len_ #[t] ty #[.map (some b)]).run P w = .ok (.int .i64 L.length) w := by
  rw [h.own.len ht, iOf_size]
theorem IMapAt.update (h : IMapAt P k w b L) (hk : P.underlying k = some (.int .i64)) (ht : P.underlying t = some (.map k e)) (hn : L.length < maxLen) (s : Int) (hs : -9223372036854775808 ≤ s ∧ s ≤ 9223372036854775807) (v : Value) :
    ∃ w', (Instr.mapUpdate t (.map (some b)) (.int .i64 s) v).run P w = .ok () w' ∧ IMapAt P k w' b (iput s v L) ∧ Fr (fun q => q = b) w w' := by
  obtain ⟨w', h1, h2, h3⟩ := h.own.update (int_keyed hk) ht hn (Maps.keyOf_int_mk hk (wf_i64 hs)) (show rV v = some (.held v, []) from rfl)
  rw [iOf_put] at h2
  exact ⟨w', h1, ⟨iownsMap_tight h2, h.sorted.iput _ _⟩, (Fr.of_grown h3).mono (fun _ _ e => by cases e; rfl)⟩
theorem IMapAt.delete (h : IMapAt P k w b L) (hk : P.underlying k = some (.int .i64)) (ht : P.underlying t = some (.map k e)) (s : Int) (hs : -9223372036854775808 ≤ s ∧ s ≤ 9223372036854775807) (ty : TypeId) :
    ∃ w', (Builtin.delete_ #[t, k] ty #[.map (some b), .int .i64 s]).run P w = .ok (.tuple #[]) w' ∧ IMapAt P k w' b (idel s L) ∧ Fr (fun q => q = b) w w' := by
  obtain ⟨w', h1, h2, h3⟩ := h.own.drop (int_keyed hk) ht (Maps.keyOf_int_mk hk (wf_i64 hs)) ty
  rw [iOf_del] at h2
  obtain ⟨es, clock, es', clock', hb, rfl⟩ := h3
  exact ⟨_, h1, ⟨iownsMap_tight h2, h.sorted.idel _⟩, ⟨rfl, rfl, rfl, by simp [ChangeMaps.setBlock], fun i _ hi => ChangeMaps.heap_setBlock_other hb _ (fun e => hi e)⟩⟩
end
end Go.Proofs.YtdnbfhcbcdodmaaGreatDoor

/- A register: things by numbers that only rise, as the list that a map holds. No program in sight; no condition. -/
namespace Go.Proofs.YtdnbfhcbcdodmaaGreatDoor
open Go.RowKit

section
variable {α : Type}
def regL (inn : Nat → Bool) (v : Nat → α) : Nat → IA α
  | 0 => []
  | n + 1 => regL inn v n ++ (if inn (n + 1) = true then [(((n + 1 : Nat) : Int), v (n + 1))] else [])
theorem regL_mem {inn : Nat → Bool} {v : Nat → α} {p : Int × α} : ∀ {n : Nat}, p ∈ regL inn v n ↔ ∃ i : Nat, 1 ≤ i ∧ i ≤ n ∧ inn i = true ∧ p = ((i : Int), v i)
  | 0 => ⟨fun h => (by cases h), fun ⟨i, h1, h2, _⟩ => (by omega)⟩
  | n + 1 => by
    rw [regL, List.mem_append, regL_mem (n := n)]
    constructor
    · rintro (⟨i, h1, h2, h3, h4⟩ | h)
      · exact ⟨i, h1, by omega, h3, h4⟩
      · by_cases e : inn (n + 1) = true
        · rw [if_pos e] at h
          exact ⟨n + 1, by omega, by omega, e, List.mem_singleton.1 h⟩
        · rw [if_neg e] at h; cases h
    · rintro ⟨i, h1, h2, h3, h4⟩
      by_cases e : i = n + 1
      · subst e
        exact .inr (by rw [if_pos h3]; exact List.mem_singleton.2 h4)
      · exact .inl ⟨i, h1, by omega, h3, h4⟩
theorem regL_lt {inn : Nat → Bool} {v : Nat → α} {n : Nat} {p : Int × α} (h : p ∈ regL inn v n) : 1 ≤ p.1 ∧ p.1 ≤ n := by
  obtain ⟨i, h1, h2, _, rfl⟩ := regL_mem.1 h
  exact ⟨by show (1 : Int) ≤ (i : Int); omega, by show (i : Int) ≤ (n : Int); omega⟩
theorem regL_congr {inn inn' : Nat → Bool} {v v' : Nat → α} : ∀ {n : Nat}, (∀ i, 1 ≤ i → i ≤ n → inn i = inn' i ∧ (inn i = true → v i = v' i)) → regL inn v n = regL inn' v' n
  | 0, _ => rfl
  | n + 1, h => by
    rw [regL, regL, regL_congr (n := n) fun i h1 h2 => h i h1 (by omega)]
    obtain ⟨h1, h2⟩ := h (n + 1) (by omega) (Nat.le_refl _)
    rw [← h1]
    by_cases e : inn (n + 1) = true
    · rw [if_pos e, if_pos e, h2 e]
    · rw [if_neg e, if_neg e]
theorem regL_get {inn : Nat → Bool} {v : Nat → α} {n : Nat} (s : Int) : iget s (regL inn v n) = if 1 ≤ s ∧ s ≤ n ∧ inn s.toNat = true then some (v s.toNat) else none := by
  cases h : iget s (regL inn v n) with
  | none =>
    rw [if_neg]
    rintro ⟨h1, h2, h3⟩
    exact iget_none h (s, v s.toNat) (regL_mem.2 ⟨s.toNat, by omega, by omega, h3, by rw [Int.toNat_of_nonneg (by omega)]⟩) rfl
  | some x =>
    obtain ⟨i, h1, h2, h3, h4⟩ := regL_mem.1 (iget_mem h)
    cases h4
    rw [if_pos ⟨by omega, by omega, by simpa using h3⟩]
    simp
theorem iins_last {x : Int × α} : ∀ {L : IA α}, (∀ p ∈ L, p.1 < x.1) → iins x L = L ++ [x]
  | [], _ => rfl
  | y :: r, h => by
    have := h y List.mem_cons_self
    rw [iins_cons, if_neg (by omega), iins_last fun p hp => h p (List.mem_cons_of_mem _ hp)]
    rfl
theorem regL_add {inn : Nat → Bool} {v : Nat → α} {n : Nat} (x : α) : iput ((n + 1 : Nat) : Int) x (regL inn v n) = regL (fun j => if j = n + 1 then true else inn j) (fun j => if j = n + 1 then x else v j) (n + 1) := by
  have hn : iget ((n + 1 : Nat) : Int) (regL inn v n) = none := by rw [regL_get, if_neg (by omega)]
  unfold iput
  rw [idel_same hn, iins_last fun p hp => by have := (regL_lt hp).2; show p.1 < ((n + 1 : Nat) : Int); omega, regL, if_pos (if_pos rfl), if_pos rfl]
  congr 1
  exact regL_congr fun i h1 h2 => ⟨by rw [if_neg (by omega)], fun _ => by rw [if_neg (by omega)]⟩
theorem regL_len (inn : Nat → Bool) (v : Nat → α) : ∀ n : Nat, (regL inn v n).length ≤ n
  | 0 => Nat.le_refl _
  | n + 1 => by
    have := regL_len inn v n
    rw [regL, List.length_append]
    split <;> simp <;> omega
end
end Go.Proofs.YtdnbfhcbcdodmaaGreatDoor

/- Contracts of the methods of pipe.Pipe. Conditions: each contract's own premises. -/
namespace Go.Proofs.YtdnbfhcbcdodmaaGreatDoor
open Go.RowKit

/-- A pipe lies in block b, its bytes in block lb; fm: where the first byte is. -/
structure PipeF (w : World) (b lb size fm : Nat) (d : List UInt8) (r x : Nat) (cs : Array Value) : Prop where
  hb : w.heap[b]? = some (.cells #[.slice (some ⟨lb, 0, none⟩) size size, .int .i64 fm, .int .i64 d.length, .int .i64 r, .int .i64 x] 157 (0, 0))
  hl : w.heap[lb]? = some (.cells cs 5 (0, 0))
  hne : b ≠ lb
  hcs : cs.size = size
  h0 : 0 < size
  hs : size ≤ 65536
  hfm : fm < size
  hd : d.length ≤ size
  hc : ∀ i, i < d.length → cs[(fm + i) % size]? = some (.int .u8 ((d.getD i 0).toNat : Nat))

theorem pend_w (b : Nat) (w : World) : Calls Tryz.prog 124 #[.pointer (some ⟨b, 0, none⟩), .bool true] w fun e w' => e = .returned (.pointer (some ⟨b, 4, none⟩)) ∧ w = w' := by
  go_enter Tryz.func124, Tryz.ntmps124
  go_wp2
  go_ret
  exact ⟨rfl, rfl⟩
theorem pend_r (b : Nat) (w : World) : Calls Tryz.prog 124 #[.pointer (some ⟨b, 0, none⟩), .bool false] w fun e w' => e = .returned (.pointer (some ⟨b, 3, none⟩)) ∧ w = w' := by
  go_enter Tryz.func124, Tryz.ntmps124
  go_wp2
  go_ret
  exact ⟨rfl, rfl⟩


theorem mod_ne {size fm i j : Nat} (hj : j < i) (hi : i < size) : (fm + j) % size ≠ (fm + i) % size := by
  intro h
  have h1 := Nat.div_add_mod (fm + j) size
  have h2 := Nat.div_add_mod (fm + i) size
  rw [h] at h1
  have h3 : size * ((fm + i) / size) + j = size * ((fm + j) / size) + i := by omega
  have hsz : 0 < size := by omega
  have h4 : (size * ((fm + i) / size) + j) % size = j := by rw [Nat.mul_add_mod, Nat.mod_eq_of_lt (by omega)]
  have h5 : (size * ((fm + j) / size) + i) % size = i := by rw [Nat.mul_add_mod, Nat.mod_eq_of_lt (by omega)]
  rw [h3, h5] at h4
  omega
/-- One byte more. -/
theorem PipeF.push {w : World} {b lb size fm : Nat} {d : List UInt8} {r x : Nat} {cs : Array Value} (h : PipeF w b lb size fm d r x cs) (n : Nat) (hroom : d.length < size) (c : UInt8) (v : Int) (hv : v = ((d.length + 1 : Nat) : Int)) :
    PipeF (((w.drewN n).setCell ⟨lb, (fm + d.length) % size, none⟩ (.int .u8 (c.toNat : Nat))).setCell ⟨b, 2, none⟩ (.int .i64 v)) b lb size fm (d ++ [c]) r x
      (cs.setIfInBounds ((fm + d.length) % size) (.int .u8 (c.toNat : Nat))) where
  hb := by
    rw [blk_set (blk_set_other (blk_drewN h.hb n) ⟨lb, _, none⟩ _ h.hne)]
    subst hv
    simp
  hl := by
    exact blk_set_other (blk_set (blk_drewN h.hl n) _ _) _ _ h.hne.symm
  hne := h.hne
  hcs := by simp [h.hcs]
  h0 := h.h0
  hs := h.hs
  hfm := h.hfm
  hd := by simp; omega
  hc := by
    intro i hi
    simp at hi
    have hm : (fm + d.length) % size < cs.size := by rw [h.hcs]; exact Nat.mod_lt _ h.h0
    by_cases e : i = d.length
    · subst e
      simp [hm]
    · have hlt : i < d.length := by omega
      rw [Array.getElem?_setIfInBounds_ne (mod_ne hlt hroom).symm, h.hc i hlt]
      simp [List.getElem?_append_left hlt]

/-- What 'put' does. -/
def PutPost (w : World) (b lb size fm : Nat) (d l : List UInt8) (r x : Nat) (e : Ending) (w' : World) : Prop :=
  e = .returned (.int .i64 (min l.length (size - d.length) : Nat)) ∧ (∃ cs', PipeF w' b lb size fm (d ++ l.take (size - d.length)) r x cs') ∧ Fr (fun k => k = b ∨ k = lb) w w'

def PipePutRel (w : World) (b lb size fm : Nat) (d l : List UInt8) (r x : Nat) (i : Value) (wr : World) : Prop :=
  ∃ k : Nat, k ≤ l.length ∧ d.length + k ≤ size ∧ i = .int .i64 k ∧ (∃ cs', PipeF wr b lb size fm (d ++ l.take k) r x cs') ∧ Fr (fun k => k = b ∨ k = lb) w wr

set_option maxHeartbeats 400000 in
theorem put_any (b lb size fm : Nat) (d l : List UInt8) (r x : Nat) (w : World) (cs : Array Value) (h : PipeF w b lb size fm d r x cs)
    (sb cap : Nat) (sc : Array Value) (f : Nat × Nat) (hs : w.heap[sb]? = some (.cells sc 5 f)) (hsc : ∀ i, i < l.length → sc[i]? = some (.int .u8 ((l.getD i 0).toNat : Nat))) (hll : l.length ≤ 9223372036854775807)
    (hsb : sb ≠ b) (hsl : sb ≠ lb) :
    Calls Tryz.prog 122 #[.pointer (some ⟨b, 0, none⟩), .slice (some ⟨sb, 0, none⟩) l.length cap] w (PutPost w b lb size fm d l r x) := by
  go_enter Tryz.func122, Tryz.ntmps122
  go_wp2
  go_loopw [5] (fun i wr => PipePutRel w b lb size fm d l r x i wr) (fun i _ => l.length - (intOf i).toNat)
  case atStart => exact ⟨0, Nat.zero_le _, h.hd, rfl, ⟨cs, by simpa using h⟩, Fr.refl _ _⟩
  case round =>
    obtain ⟨k, hk1, hk2, rfl, ⟨cs', hp⟩, hfr⟩ := hrel
    have hb0 : wr.cell? ⟨b, 0, none⟩ = some (.slice (some ⟨lb, 0, none⟩) size size) := by rw [blk_cell hp.hb]; rfl
    have hb1 : wr.cell? ⟨b, 1, none⟩ = some (.int .i64 fm) := by rw [blk_cell hp.hb]; rfl
    have hb2 : wr.cell? ⟨b, 2, none⟩ = some (.int .i64 ((d.length : Int) + (k : Int))) := by
      rw [blk_cell hp.hb]; simp; omega
    have hbf := blk_frozen hp.hb
    have hlf := blk_frozen hp.hl
    have hfm := hp.hfm
    have hsz := hp.hs
    have hpos := hp.h0
    have hn1 := hp.hne
    have hn2 := hp.hne.symm
    by_cases h1 : k < l.length
    · by_cases h2 : d.length + k < size
      · have hlk : wr.cell? ⟨sb, k, none⟩ = some (.int .u8 ((l.getD k 0).toNat : Nat)) := by
          rw [blk_cell (hfr.get hs (by simp [hsb, hsl]))]; exact hsc k h1
        obtain ⟨old, hold⟩ : ∃ v, wr.cell? ⟨lb, (fm + (d.length + k)) % size, none⟩ = some v := by
          have : (fm + (d.length + k)) % size < cs'.size := by rw [hp.hcs]; exact Nat.mod_lt _ hpos
          exact ⟨_, by rw [blk_cell hp.hl]; exact Array.getElem?_eq_getElem this⟩
        have hm0 : (0 : Int) ≤ ((fm : Int) + ((d.length : Int) + (k : Int))) % (size : Int) := Int.emod_nonneg _ (by omega)
        have hm1 : ((fm : Int) + ((d.length : Int) + (k : Int))) % (size : Int) < (size : Int) := Int.emod_lt_of_pos _ (by omega)
        have hmn := emod3 fm d.length k size
        go_wp2
        go_quiet (fail)
        go_wp2
        refine region_tail 24 (by kernel_rfl) (by kernel_rfl) ?_
        simp only [List.take_succ_cons, List.take_zero, List.drop_succ_cons, List.drop_zero]
        repeat go_big_quiet_step (fail)
        refine wpQuiet_nil ?_
        go_wp2
        go_roundw
        case rel =>
          have hst := hp.push (nq + 1) (by simp; omega) l[k] ((d.length : Int) + (k : Int) + 1) (by simp; omega)
          have e1 : fm + (d ++ l.take k).length = fm + (d.length + k) := by simp; omega
          rw [e1] at hst
          exact ⟨k + 1, by omega, by omega, by go_num, ⟨_, by rw [List.take_succ_eq_append_getElem h1, ← List.append_assoc]; exact hst⟩, ((hfr.drewN _).setCell (.inl (.inr rfl)) _).setCell (.inl (.inl rfl)) _⟩
        case measure => simp [intOf]; omega
      · go_wp2
        go_quiet (fail)
        go_wp2
        go_ret
        have e1 : k = size - d.length := by omega
        exact ⟨ret_int (by omega), ⟨_, by subst e1; exact ⟨hp.hb, hp.hl, hp.hne, hp.hcs, hp.h0, hp.hs, hp.hfm, hp.hd, hp.hc⟩⟩, hfr.drewN _⟩
    · go_wp2
      go_quiet (fail)
      go_wp2
      go_ret
      have e1 : l.take (size - d.length) = l.take k := by rw [List.take_of_length_le (by omega), List.take_of_length_le (by omega)]
      exact ⟨ret_int (by omega), ⟨_, by rw [e1]; exact ⟨hp.hb, hp.hl, hp.hne, hp.hcs, hp.h0, hp.hs, hp.hfm, hp.hd, hp.hc⟩⟩, hfr.drewN _⟩

theorem mod_step (fm k size : Nat) : ((fm + k) % size + 1) % size = (fm + (k + 1)) % size := by rw [Nat.mod_add_mod, Nat.add_assoc]
theorem PipeF.first {w : World} {b lb size fm : Nat} {c : UInt8} {d : List UInt8} {r x : Nat} {cs : Array Value} (h : PipeF w b lb size fm (c :: d) r x cs) : w.cell? ⟨lb, fm, none⟩ = some (.int .u8 (c.toNat : Nat)) := by
  have := h.hc 0 (by simp)
  rw [Nat.add_zero, Nat.mod_eq_of_lt h.hfm] at this
  rw [blk_cell h.hl]; simpa using this
/-- One byte less. -/
theorem PipeF.pop {w : World} {b lb size fm : Nat} {c : UInt8} {d : List UInt8} {r x : Nat} {cs : Array Value} (h : PipeF w b lb size fm (c :: d) r x cs) (v1 v2 : Int) (h1 : v1 = (((fm + 1) % size : Nat) : Int)) (h2 : v2 = (d.length : Int)) :
    PipeF ((w.setCell ⟨b, 1, none⟩ (.int .i64 v1)).setCell ⟨b, 2, none⟩ (.int .i64 v2)) b lb size ((fm + 1) % size) d r x cs where
  hb := by rw [blk_set (blk_set h.hb _ _)]; subst h1 h2; simp
  hl := blk_set_other (blk_set_other h.hl _ _ h.hne.symm) _ _ h.hne.symm
  hne := h.hne
  hcs := h.hcs
  h0 := h.h0
  hs := h.hs
  hfm := Nat.mod_lt _ h.h0
  hd := by have := h.hd; simp at this; omega
  hc := by
    intro i hi
    have := h.hc (i + 1) (by simp; omega)
    rw [Nat.mod_add_mod, Nat.add_assoc, Nat.add_comm 1 i, this]; simp
theorem PipeF.frame {w w' : World} {b lb size fm : Nat} {d : List UInt8} {r x : Nat} {cs : Array Value} {S : Nat → Prop} (h : PipeF w b lb size fm d r x cs) (hf : Fr S w w') (h1 : ¬ S b) (h2 : ¬ S lb) : PipeF w' b lb size fm d r x cs :=
  ⟨hf.get h.hb h1, hf.get h.hl h2, h.hne, h.hcs, h.h0, h.hs, h.hfm, h.hd, h.hc⟩

def bytesV (l : List UInt8) : List Value := l.map fun c => .int .u8 (c.toNat : Nat)
theorem bytesV_snoc (l : List UInt8) (c : UInt8) : bytesV (l ++ [c]) = bytesV l ++ [.int .u8 (c.toNat : Nat)] := by simp [bytesV]

theorem Tryz.info5 : (Tryz.prog.info? 5).map (fun i => (i.zero, i.size, i.bytes)) = some (some (.int .u8 0), 1, 1) := by kernel_rfl
end Go.Proofs.YtdnbfhcbcdodmaaGreatDoor

/- The kernel in memory: which block is whose; what each change of a part makes of the whole. Conditions: each law's own premises. -/
namespace Go.Proofs.YtdnbfhcbcdodmaaGreatDoor
open Go.RowKit

def ptrAt (b : Nat) : Value := .pointer (some ⟨b, 0, none⟩)
/-- Where all of it lies; which block is whose. -/
structure KLay where
  f : Nat
  pm : Option Nat
  dm : Option Nat
  qm : Option Nat
  pb : Nat → Nat
  lb : Nat → Nat
  db : Nat → Nat
  qb : Nat → Nat
  tb : Nat → Nat
  o : Nat → Option (Nat × Nat)
abbrev tFil : Nat × Nat := (0, 0)
abbrev tKer : Nat × Nat := (1, 0)
abbrev tMap (k : Nat) : Nat × Nat := (2, k)
abbrev tDsc (i : Nat) : Nat × Nat := (3, i)
abbrev tPrc (i : Nat) : Nat × Nat := (4, i)
abbrev tTab (i : Nat) : Nat × Nat := (5, i)
abbrev tPip (i : Nat) : Nat × Nat := (6, i)
def KLay.S (L : KLay) (t : Nat × Nat) (w : World) : Nat → Prop := fun b => L.o b = some t ∨ w.heap.size ≤ b
def pipeV (L : KLay) (d : DescQ) : Value := if d.kind = 3 ∨ d.kind = 4 then ptrAt (L.pb d.n) else .pointer none
def descC (L : KLay) (i : Nat) (d : DescQ) : Array Value := #[.int .i64 d.kind, .int .i64 d.n, .int .i64 d.pos, .int .i64 d.refs, .int .i64 d.flags, pipeV L d, .string d.text, .int .i64 i]
def procC (L : KLay) (i : Nat) (q : ProcQ) : Array Value := #[.int .i64 i, .int .i64 q.parent, .bool q.ended, .int .i64 q.status, .int .i64 q.dir, .int .i64 q.mask, ptrAt (L.tb i)]
def kerC (L : KLay) (K : KQ) : Array Value := #[ptrAt L.f, .int .i64 K.pn, .map L.pm, .int .i64 K.dn, .map L.dm, .int .i64 K.qn, .map L.qm, .string K.typed, .bool K.closed, .string (K.out 0), .string (K.out 1), .string (K.out 2)]
def tabS (L : KLay) (t : TSt) : TSt := fun fd => (t fd).map fun x => (L.db x.1, x.2)
/-- What a register's map holds. -/
def RegV (w : World) (m : Option Nat) (inn : Nat → Bool) (b : Nat → Nat) (n : Nat) : Prop := match m with
  | none => n = 0
  | some g => IMapAt Tryz.prog 3 w g (regL inn (fun i => ptrAt (b i)) n)
structure KF (w : World) (k : Nat) (K : KQ) (L : KLay) : Prop where
  hk : w.heap[k]? = some (.cells (kerC L K) 70 (0, 0))
  files : ∃ p, FilesAt w L.f K.σ (L.S tFil w) p
  pr : RegV w L.pm (fun i => (K.pipe i).inn) L.pb K.pn
  dr : RegV w L.dm (fun i => (K.desc i).inn) L.db K.dn
  qr : RegV w L.qm (fun i => (K.proc i).inn) L.qb K.qn
  hd : ∀ i, 1 ≤ i → i ≤ K.dn → w.heap[L.db i]? = some (.cells (descC L i (K.desc i)) 84 (0, 0))
  hq : ∀ i, 1 ≤ i → i ≤ K.qn → w.heap[L.qb i]? = some (.cells (procC L i (K.proc i)) 76 (0, 0))
  ht : ∀ i, 1 ≤ i → i ≤ K.qn → TabAt w (L.tb i) (tabS L (K.proc i).fds) (L.S (tTab i) w)
  hp : ∀ i, 1 ≤ i → i ≤ K.pn → ∃ fm cs, PipeF w (L.pb i) (L.lb i) 64 fm (K.pipe i).data (K.pipe i).r (K.pipe i).x cs
  ok : L.o k = some tKer
  opm : ∀ g, L.pm = some g → L.o g = some (tMap 0)
  odm : ∀ g, L.dm = some g → L.o g = some (tMap 1)
  oqm : ∀ g, L.qm = some g → L.o g = some (tMap 2)
  od : ∀ i, 1 ≤ i → i ≤ K.dn → L.o (L.db i) = some (tDsc i)
  oq : ∀ i, 1 ≤ i → i ≤ K.qn → L.o (L.qb i) = some (tPrc i)
  op : ∀ i, 1 ≤ i → i ≤ K.pn → L.o (L.pb i) = some (tPip i) ∧ L.o (L.lb i) = some (tPip i)
  new : ∀ b, w.heap.size ≤ b → L.o b = none

theorem RegV.frame {w w' : World} {m : Option Nat} {inn : Nat → Bool} {b : Nat → Nat} {n : Nat} {T : Nat → Prop} (h : RegV w m inn b n) (hf : Fr T w w') (hT : ∀ g, m = some g → ¬ T g) : RegV w' m inn b n := by
  cases m with
  | none => exact h
  | some g => exact IMapAt.frame (show IMapAt Tryz.prog 3 w g _ from h) hf (hT g rfl)
theorem RegV.congr {w : World} {m : Option Nat} {inn inn' : Nat → Bool} {b b' : Nat → Nat} {n : Nat} (h : RegV w m inn b n) (he : ∀ i, 1 ≤ i → i ≤ n → inn i = inn' i ∧ b i = b' i) : RegV w m inn' b' n := by
  cases m with
  | none => exact h
  | some g =>
    show IMapAt Tryz.prog 3 w g _
    rw [← regL_congr (inn := inn) (v := fun i => ptrAt (b i)) fun i h1 h2 => ⟨(he i h1 h2).1, fun _ => congrArg ptrAt (he i h1 h2).2⟩]
    exact h
theorem RegV.lt {w : World} {g : Nat} {inn : Nat → Bool} {b : Nat → Nat} {n : Nat} (h : RegV w (some g) inn b n) : g < w.heap.size := IMapAt.lt (show IMapAt Tryz.prog 3 w g _ from h)
theorem PipeF.frame' {w w' : World} {b lb size fm r x : Nat} {d : List UInt8} {cs : Array Value} {T : Nat → Prop} (h : PipeF w b lb size fm d r x cs) (hf : Fr T w w') (h1 : ¬ T b) (h2 : ¬ T lb) : PipeF w' b lb size fm d r x cs :=
  ⟨hf.get h.hb h1, hf.get h.hl h2, h.hne, h.hcs, h.h0, h.hs, h.hfm, h.hd, h.hc⟩
theorem TabAt.mono {w : World} {t : Nat} {st : TSt} {S S' : Nat → Prop} (h : TabAt w t st S) (hs : ∀ k, S k → S' k) : TabAt w t st S' := by
  obtain ⟨p, cs, h⟩ := h
  exact ⟨p, cs, ⟨h.hb, h.hcs, h.hc, h.hs, h.inj, h.hne, hs _ h.own, fun i hi e => hs _ (h.owns i hi e), fun k hk => hs _ (h.up k hk)⟩⟩
theorem TabAt.aparts {w w' : World} {t : Nat} {st : TSt} {S T : Nat → Prop} (h : TabAt w t st S) (hf : Fr T w w') (hd : ∀ k, k < w.heap.size → S k → ¬ T k) : TabAt w' t st (fun k => S k ∧ ¬ (w.heap.size ≤ k ∧ k < w'.heap.size)) := by
  obtain ⟨p, cs, h⟩ := h
  have h' := h.frame hf hd
  refine ⟨p, cs, ⟨h'.hb, h'.hcs, h'.hc, h'.hs, h'.inj, h'.hne, ⟨h.own, by have := blk_lt h.hb; omega⟩, fun i hi e => ⟨h.owns i hi e, ?_⟩, fun k hk => ⟨h.up k (Nat.le_trans hf.size hk), by omega⟩⟩⟩
  obtain ⟨⟨x, m⟩, hx⟩ := Option.isSome_iff_exists.1 e
  have := blk_lt (h.hs i x m hi hx)
  omega
theorem FilesF.apartsK {w w' : World} {f : Nat} {σ : FSt} {S T : Nat → Prop} {p : Nat → Nat} {dv ev pv : Nat → Value} {lv : Value} (h : FilesF w f σ S p dv ev pv lv) (hf : Fr T w w') (hd : ∀ k, k < w.heap.size → S k → ¬ T k) : FilesF w' f σ (fun k => S k ∧ ¬ (w.heap.size ≤ k ∧ k < w'.heap.size)) p dv ev pv lv := by
  have h' := h.frame hf hd
  have nl : ∀ i, (σ.nd i).isSome = true → ∃ n, NodeF w p (p i) i n (dv i) (ev i) (pv i) := fun i hi => by
    obtain ⟨n, hn⟩ := Option.isSome_iff_exists.1 hi
    exact ⟨n, h.nd i n hn⟩
  exact ⟨h'.hb, h'.hl, h'.nd, h.inj, h.injd, h.inje, ⟨h.own, by have := blk_lt h.hb; omega⟩, fun g e => ⟨h.ownl g e, by have := (h.hl.lt g e).2; omega⟩,
    fun i hi => ⟨h.ownn i hi, by obtain ⟨n, hn⟩ := nl i hi; have := blk_lt hn.hb; omega⟩, fun i g hi e => ⟨h.ownd i g hi e, by obtain ⟨n, hn⟩ := nl i hi; have := hn.data.lt e; omega⟩,
    fun i m hi e => ⟨h.owne i m hi e, by obtain ⟨n, hn⟩ := nl i hi; have := hn.map_lt e; omega⟩, fun k hk => ⟨h.up k (Nat.le_trans hf.size hk), by omega⟩, h.live⟩
theorem FilesAt.apartsK {w w' : World} {f : Nat} {σ : FSt} {S T : Nat → Prop} {p : Nat → Nat} (h : FilesAt w f σ S p) (hf : Fr T w w') (hd : ∀ k, k < w.heap.size → S k → ¬ T k) : FilesAt w' f σ (fun k => S k ∧ ¬ (w.heap.size ≤ k ∧ k < w'.heap.size)) p := by
  obtain ⟨_, _, _, _, h⟩ := h
  exact ⟨_, _, _, _, h.apartsK hf hd⟩
/-- Whose blocks are whose, behind a change: what belonged to somebody belongs to him. -/
structure Own2 (L : KLay) (o' : Nat → Option (Nat × Nat)) (w' : World) : Prop where
  old : ∀ b t, L.o b = some t → o' b = some t
  new : ∀ b, w'.heap.size ≤ b → o' b = none
theorem KLay.S_keep {L L' : KLay} {w w' : World} {t : Nat × Nat} (ho : Own2 L L'.o w') {b : Nat} (h : L.S t w b ∧ ¬ (w.heap.size ≤ b ∧ b < w'.heap.size)) : L'.S t w' b := by
  rcases h.1 with e | e
  · exact .inl (ho.old b t e)
  · exact .inr (by have := h.2; omega)
section
variable {w w' : World} {k : Nat} {K : KQ} {L L' : KLay} {T : Nat → Prop}
theorem KF.lt (h : KF w k K L) {b : Nat} {t : Nat × Nat} (e : L.o b = some t) : b < w.heap.size := by
  by_cases hb : b < w.heap.size
  · exact hb
  · have := h.new b (by omega)
    rw [this] at e
    cases e
theorem KF.files_keep (h : KF w k K L) (hf : Fr T w w') (ho : Own2 L L'.o w') (hT : ∀ b, b < w.heap.size → L.o b = some tFil → ¬ T b) : ∃ p, FilesAt w' L.f K.σ (L'.S tFil w') p := by
  obtain ⟨p, hp⟩ := h.files
  exact ⟨p, (hp.apartsK hf (fun b hb e => hT b hb (e.resolve_right (by omega)))).mono fun b e => KLay.S_keep ho e⟩
theorem KF.tab_keep (h : KF w k K L) (hf : Fr T w w') (ho : Own2 L L'.o w') {i : Nat} (h1 : 1 ≤ i) (h2 : i ≤ K.qn) (hT : ∀ b, b < w.heap.size → L.o b = some (tTab i) → ¬ T b) : TabAt w' (L.tb i) (tabS L (K.proc i).fds) (L'.S (tTab i) w') :=
  ((h.ht i h1 h2).aparts hf (fun b hb e => hT b hb (e.resolve_right (by omega)))).mono fun b e => KLay.S_keep ho e
theorem KF.pipe_keep (h : KF w k K L) (hf : Fr T w w') {i : Nat} (h1 : 1 ≤ i) (h2 : i ≤ K.pn) (hT : ∀ b, L.o b = some (tPip i) → ¬ T b) : ∃ fm cs, PipeF w' (L.pb i) (L.lb i) 64 fm (K.pipe i).data (K.pipe i).r (K.pipe i).x cs := by
  obtain ⟨fm, cs, hp⟩ := h.hp i h1 h2
  exact ⟨fm, cs, hp.frame' hf (hT _ (h.op i h1 h2).1) (hT _ (h.op i h1 h2).2)⟩
theorem Own2.refl (h : KF w k K L) (hf : Fr T w w') : Own2 L L.o w' := ⟨fun _ _ e => e, fun b hb => h.new b (Nat.le_trans hf.size hb)⟩
/-- The whole, where nothing that is its own has turned. -/
theorem KF.still (h : KF w k K L) (hf : Fr T w w') (hT : ∀ b t, L.o b = some t → ¬ T b) : KF w' k K L where
  hk := hf.get h.hk (hT _ _ h.ok)
  files := h.files_keep hf (.refl h hf) fun b _ e => hT b _ e
  pr := h.pr.frame hf fun g e => hT g _ (h.opm g e)
  dr := h.dr.frame hf fun g e => hT g _ (h.odm g e)
  qr := h.qr.frame hf fun g e => hT g _ (h.oqm g e)
  hd i h1 h2 := hf.get (h.hd i h1 h2) (hT _ _ (h.od i h1 h2))
  hq i h1 h2 := hf.get (h.hq i h1 h2) (hT _ _ (h.oq i h1 h2))
  ht i h1 h2 := h.tab_keep hf (.refl h hf) h1 h2 fun b _ e => hT b _ e
  hp i h1 h2 := h.pipe_keep hf h1 h2 fun b e => hT b _ e
  ok := h.ok
  opm := h.opm
  odm := h.odm
  oqm := h.oqm
  od := h.od
  oq := h.oq
  op := h.op
  new b hb := h.new b (Nat.le_trans hf.size hb)
theorem KF.quiet (h : KF w k K L) (hf : Fr (fun _ => False) w w') : KF w' k K L := h.still hf fun _ _ _ e => e
end
end Go.Proofs.YtdnbfhcbcdodmaaGreatDoor
