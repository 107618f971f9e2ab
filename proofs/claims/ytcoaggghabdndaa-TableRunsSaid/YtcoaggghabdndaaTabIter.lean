/- The iterator of table.Table[int].All. Conditions: each contract's own premises. -/
import Derived.Test.YtcoaggghabdndaaTabB
import Derived.Test.YtcoaggghabdndaaRangeFunc
import Derived.Shelf.Abstract
import Derived.OwnWalkIn
import Derived.TacticsInMore
import Derived.LoopNIn
import Derived.LoopIn
namespace Go.Proofs.Ytcoaggghabdndaa
open Go.RowKit Go.Shelf

attribute [local go_sem] Oper.semAt_some

/-- A table, or none. -/
def TabV (W : World) (tv : Value) (st : TSt) : Prop := (tv = .pointer none ∧ ∀ i, st i = none) ∨ ∃ t S, tv = .pointer (some ⟨t, 0, none⟩) ∧ TabAt W t st S
def AtPost (W : World) (st : TSt) (fd : Nat) (e : Ending) (W' : World) : Prop :=
  W = W' ∧ ∃ b, e = .returned (ptrOf (st fd) b) ∧ ∀ x m, st fd = some (x, m) → W.cell? ⟨b, 0, none⟩ = some (.int .i64 x)
theorem at_gen {W : World} {tv : Value} {st : TSt} (h : TabV W tv st) (fd : Nat) (hfd : fd < 32) : Calls Try.prog 48 #[tv, .int .i64 fd] W (AtPost W st fd) := by
  rcases h with ⟨rfl, hn⟩ | ⟨t, S, rfl, p, cs, ht⟩
  · refine (at_nil W fd).mono ?_
    rintro e w' ⟨rfl, rfl⟩
    exact ⟨rfl, 0, by rw [hn]; rfl, fun x m e => by rw [hn] at e; cases e⟩
  · refine (at_in W t p st S cs ht fd hfd).mono ?_
    rintro e w' ⟨rfl, rfl⟩
    exact ⟨rfl, p fd, rfl, fun x m e => by rw [blk_cell (ht.hs fd x m hfd e)]; rfl⟩
theorem all_any (tv : Option Addr) (w : World) : Calls Try.prog 40 #[.pointer tv] w fun e w' =>
    e = .returned (.func (.func 51) #[] #[.pointer (some ⟨w.heap.size, 0, none⟩)]) ∧ w' = w.alloc (.cells #[.pointer tv] 24 (0, 0)) := by
  go_enter Try.func40, Try.ntmps40
  go_wp2
  go_ret
  exact ⟨rfl, rfl⟩
/-- What a step of the iterator is: the next number that has something. -/
def TStep {σ : Type} (pos : σ → Nat) (sst : σ → TSt) (next : σ → Nat → σ) (s : σ) (x : Nat × Int) (s' : σ) (_ : World) : Prop :=
  pos s ≤ x.1 ∧ x.1 < 32 ∧ (∀ j, pos s ≤ j → j < x.1 → sst s j = none) ∧ (∃ m, sst s x.1 = some (x.2, m)) ∧ s' = next s x.1
def TFin {σ : Type} (pos : σ → Nat) (sst : σ → TSt) (s : σ) : Prop := ∀ j, pos s ≤ j → j < 32 → sst s j = none
def tenc (x : Nat × Int) : Array Value := #[.int .i64 x.1, .int .i64 x.2]
def ItRel {σ : Type} (pos : σ → Nat) (sst : σ → TSt) (J : σ → World → Prop) (i : Value) (wr : World) : Prop :=
  ∃ (k : Nat) (s : σ), i = .int .i64 k ∧ k ≤ 32 ∧ pos s ≤ k ∧ (∀ j, pos s ≤ j → j < k → sst s j = none) ∧ J s wr

set_option maxHeartbeats 1000000 in
theorem all1_iter {σ : Type} (n : Nat) (hn : 2 ≤ n) (box : Nat) (tv : Option Addr) (pos : σ → Nat) (sst : σ → TSt) (next : σ → Nat → σ) (hpos : ∀ s fd, pos (next s fd) = fd + 1) (I : σ → World → Prop)
    (hI : ∀ s W, I s W → TabV W (.pointer tv) (sst s) ∧ W.cell? ⟨box, 0, none⟩ = some (.pointer tv)) (s0 : σ) (hs0 : pos s0 = 0)
    (l : Nat) (J : σ → World → Prop) (Jx : World → Prop) (W : World) (hJI : ∀ s W, J s W → I s W) 
    (hY : ∀ s x s' W, TStep pos sst next s x s' W → J s W → YieldAt FW (n - 1) Try.prog l (tenc x) W fun e W' => (e = .returned (.bool true) ∧ J s' W') ∨ (e = .returned (.bool false) ∧ Jx W'))
    (h0 : J s0 W) :
    CallsIn FW n Try.prog 51 (#[.func (.yield l) #[] #[]] ++ #[.pointer (some ⟨box, 0, none⟩)]) W fun e W' => (∃ v, e = .returned v) ∧ ((∃ s, TFin pos sst s ∧ J s W') ∨ Jx W') := by
  simp only [List.append_toArray, List.cons_append, List.nil_append]
  refine callsIn_of_wp Try.func51 rfl trivial ?_ rfl
  simp only [Try.ntmps51, List.size_toArray, List.length_cons, List.length_nil, Nat.reduceAdd, Nat.reduceSub, Array.replicate_succ, Array.replicate_zero, List.push_toArray, List.append_toArray, List.nil_append, List.cons_append]
  gi_wp2
  gi_loopw [5] (fun i wr => ItRel pos sst J i wr) (fun i _ => 32 - (intOf i).toNat)
  case atStart => exact ⟨0, s0, rfl, by omega, by omega, fun j _ h2 => by omega, h0⟩
  case round =>
    obtain ⟨k, s, rfl, hk, hps, hall, hJ⟩ := hrel
    by_cases h1 : k < 32
    · obtain ⟨hT, hbox⟩ := hI s wr (hJI s wr hJ)
      have hall := hide hall
      have hat := at_gen hT k h1
      have hn1 : 1 ≤ n := by omega
      gi_wp2_with (refine ⟨trivial, ?_⟩; gi_at_call 48; refine (callsIn_wide.2 hat).mono ?_)
      rintro e w' ⟨rfl, b, rfl, hx⟩
      rcases hst : sst s k with _ | ⟨x, m⟩
      · simp only [ptrOf]
        gi_wp2
        refine ⟨fun _ h => (by cases h), ?_⟩
        gi_wp2
        go_roundw
        case rel =>
          refine ⟨k + 1, s, by go_num, by omega, by omega, fun j h2 h3 => ?_, hJ⟩
          by_cases e : j = k
          · rw [e]; exact hst
          · exact hall.out j h2 (by omega)
        case measure => simp [intOf]; omega
      · have hc := hx x m hst
        have hstep : TStep pos sst next s (k, x) (next s k) wr := ⟨hps, h1, hall.out, ⟨m, hst⟩, rfl⟩
        obtain ⟨fn, tmps, assign, body, hy, hR⟩ := hY s (k, x) (next s k) wr hstep hJ
        simp only [tenc] at hy hR
        simp only [ptrOf]
        gi_wp2
        refine hR.mono ?_
        rintro e W3 (⟨rfl, hJ3⟩ | ⟨rfl, hJx3⟩)
        · gi_wp2
          go_roundw
          case rel => exact ⟨k + 1, next s k, by go_num, by omega, by rw [hpos]; omega, fun j h2 h3 => by rw [hpos] at h2; omega, hJ3⟩
          case measure => simp [intOf]; omega
        · gi_wp2
          refine bodyPost_ret (results_none rfl _ _ _) rfl ?_
          exact ⟨⟨_, rfl⟩, .inr hJx3⟩
    · have e : k = 32 := by omega
      subst e
      have hfin : ∃ s, TFin pos sst s ∧ J s wr := ⟨s, hall, hJ⟩
      clear hall
      gi_wp2
      go_end0
      exact ⟨⟨_, rfl⟩, .inl hfin⟩
end Go.Proofs.Ytcoaggghabdndaa
