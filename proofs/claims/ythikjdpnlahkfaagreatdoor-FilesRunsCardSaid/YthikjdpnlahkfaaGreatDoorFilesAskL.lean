/- shyardlaw08.ask at a tree of files. Conditions: the contract's own premises. -/
import Derived.Test.YthikjdpnlahkfaaGreatDoorFilesAskE
import Derived.Test.YthikjdpnlahkfaaGreatDoorFilesY
import Derived.Test.YthikjdpnlahkfaaGreatDoorFilesT
import Derived.Test.YthikjdpnlahkfaaGreatDoorFilesRenS
import Derived.Test.YthikjdpnlahkfaaGreatDoorFilesRen
import Derived.Test.YthikjdpnlahkfaaGreatDoorFilesPath
namespace Go.Proofs.YthikjdpnlahkfaaGreatDoor
open Go.RowKit

abbrev CallQ.p (c : CallQ) : List UInt8 := c.path.data.toList
abbrev CallQ.o (c : CallQ) : List UInt8 := c.other.data.toList
/-- What a call leaves. -/
noncomputable def askS (σ : FSt) (c : CallQ) : FSt :=
  if c.what = 1 then (createR σ c.n c.p c.m).2.2 else if c.what = 2 then (makeR σ c.n c.p true c.m).2 else if c.what = 3 then (unlinkR σ c.n c.p).2 else if c.what = 4 then (rmdirR σ c.n c.p).2
  else if c.what = 5 then (linkR σ c.n c.p c.o).2 else if c.what = 6 then (renR σ c.n c.p c.o).2 else if c.what = 8 then (writeR σ c.n c.m c.o).2.2 else if c.what = 9 then (truncR σ c.n c.m).2
  else if c.what = 10 then (chmodR σ c.n c.m).2 else if c.what = 13 then (holdR σ c.n).2 else if c.what = 14 then (dropR σ c.n).2 else σ
/-- What it answers. -/
noncomputable def askA (σ : FSt) (c : CallQ) : AnsQ :=
  if c.what = 0 then { errA (walkE σ c.n c.p).1 with n := if (walkE σ c.n c.p).1 = 0 then ((walkE σ c.n c.p).2 : Int) else 0 }
  else if c.what = 1 then { errA (createR σ c.n c.p c.m).2.1 with n := (createR σ c.n c.p c.m).1 }
  else if c.what = 2 then errA (makeR σ c.n c.p true c.m).1
  else if c.what = 3 then errA (unlinkR σ c.n c.p).1
  else if c.what = 4 then errA (rmdirR σ c.n c.p).1
  else if c.what = 5 then errA (linkR σ c.n c.p c.o).1
  else if c.what = 6 then errA (renR σ c.n c.p c.o).1
  else if c.what = 7 then { errA (readE σ c.n c.m c.k) with s := ⟨(readB σ c.n c.m c.k).toArray⟩ }
  else if c.what = 8 then { errA (writeR σ c.n c.m c.o).2.1 with n := (writeR σ c.n c.m c.o).1 }
  else if c.what = 9 then errA (truncR σ c.n c.m).1
  else if c.what = 10 then errA (chmodR σ c.n c.m).1
  else if c.what = 11 then { errA (statE σ c.n) with st := statT σ c.n }
  else if c.what = 12 then { errA (listE σ c.n) with list := ⟨(joinL (listL σ c.n)).toArray⟩ }
  else if c.what = 13 then errA (holdR σ c.n).1
  else if c.what = 14 then errA (dropR σ c.n).1
  else if c.what = 15 then { errA (pathE σ c.n) with s := ⟨(pathR σ c.n).toArray⟩ }
  else errA 0
theorem Good.ask {σ : FSt} {k : Nat} (h : Good σ k) (c : CallQ) : Kept (askS σ c) (k + 2) := by
  have up : ∀ {τ : FSt}, Kept τ (k + 1) → Kept τ (k + 2) := fun h => h.mono (Nat.le_succ _)
  unfold askS
  split
  · exact up (h.make c.n c.p false c.m)
  split
  · exact up (h.make c.n c.p true c.m)
  split
  · exact up (h.unlink c.n c.p)
  split
  · exact up (h.rmdir c.n c.p)
  split
  · exact h.link c.n c.p c.o
  split
  · exact up (h.ren c.n c.p c.o)
  split
  · exact up (h.write c.n c.m c.o)
  split
  · exact up (h.trunc c.n c.m)
  split
  · exact up (h.chmod c.n c.m)
  split
  · exact up (h.hold c.n)
  split
  · exact up (h.drop c.n)
  · exact up h.kept
def AskL (σ : FSt) (c : CallQ) (f : Nat) (S : Nat → Prop) (w : World) (a : AnsQ) (w' : World) : Prop := a = askA σ c ∧ (∃ p', FilesAt w' f (askS σ c) S p') ∧ Fr S w w'
theorem askW_at {w : World} {f : Nat} {σ : FSt} {S : Nat → Prop} {p : Nat → Nat} (h : FilesAt w f σ S p) (c : CallQ) : FilesAt (askW w c) f σ (fun k => S k ∧ ¬ Mine w k) p := by
  unfold askW
  refine (((h.aside _).aside _).aside _).mono fun k => ?_
  simp only [World.alloc, Array.size_push]
  rintro ⟨⟨⟨h1, h2⟩, h3⟩, h4⟩
  exact ⟨h1, fun ⟨a, b⟩ => by omega⟩
theorem askL_ok {w w1 : World} {f : Nat} {σ : FSt} {S : Nat → Prop} {c : CallQ} {a : AnsQ} (ha : a = askA σ c) (h1 : ∃ p', FilesAt w1 f (askS σ c) (fun k => S k ∧ ¬ Mine w k) p') (hf : Fr (fun k => S k ∧ ¬ Mine w k) (askW w c) w1) : AskR w (askW w c) (AskL σ c f S w) a w1 := by
  refine ⟨hf.mono (fun _ _ e => e.2), fun w2 h2 => ⟨ha, ?_, ?_⟩⟩
  · obtain ⟨p', h1⟩ := h1
    exact ⟨p', (h1.frame h2 (fun _ _ e => e.2)).mono fun _ e => e.1⟩
  · exact (((askW_fr w c).mono (S' := S) (fun _ _ e => e.elim)).trans (hf.mono fun _ _ e => e.1)).trans' h2 (fun i hi e => by have := e.1; omega)
theorem list_sizes {σ : FSt} (hL : Live σ) {k : Nat} (hc : Caps σ k) (i : Int) : (listL σ i).length ≤ k ∧ ∀ x ∈ listL σ i, x.size ≤ 32 := by
  unfold listL
  cases hn : σ.ndI i with
  | none => exact ⟨Nat.zero_le _, fun x hx => by cases hx⟩
  | some n =>
    obtain ⟨j, rfl, hj⟩ := ndI_some hn
    simp only
    split
    · unfold namesB
      refine ⟨by rw [List.length_map]; exact (hc j n hj).2.2, fun x hx => ?_⟩
      obtain ⟨q, hq, rfl⟩ := List.mem_map.1 hx
      exact hL.names j n hj q hq
    · exact ⟨Nat.zero_le _, fun x hx => by cases hx⟩
theorem askOf_live (w : World) (f : Nat) (σ : FSt) (S : Nat → Prop) (p : Nat → Nat) (h : FilesAt w f σ S p) (hml : Ml w) {k : Nat} (hG : Good σ k) (hk : k ≤ 1000000) (c : CallQ) (hc : CallOk c) : AskOf (.pointer (some ⟨f, 0, none⟩)) c (askW w c) (AskR w (askW w c) (AskL σ c f S w)) := by
  have hA := askW_at h c
  have hm : Ml (askW w c) := hml.frame (askW_fr w c) (fun e => e)
  have hcap : CapB σ := hG.b hk
  have hI := hG.inv
  have hn := hc.n
  have hp : c.path.size ≤ 9223372036854775807 := Nat.le_trans hc.path (by decide)
  have ho : c.other.size ≤ 9223372036854775807 := Nat.le_trans hc.other (by decide)
  have still : ∀ w1 a, askS σ c = σ → a = askA σ c → Fr (fun _ => False) (askW w c) w1 → AskR w (askW w c) (AskL σ c f S w) a w1 := fun w1 a h1 h2 h3 =>
    askL_ok h2 (by rw [h1]; exact ⟨p, hA.frame h3 (fun _ _ _ e => e)⟩) (h3.mono (fun _ _ e => e.elim))
  have mutx : ∀ {v e w1 τ} (a), MutX f τ (fun k => S k ∧ ¬ Mine w k) v (askW w c) e w1 → τ = askS σ c → a = askA σ c → e = .returned v ∧ AskR w (askW w c) (AskL σ c f S w) a w1 := fun a h1 h2 h3 => by
    subst h2
    exact ⟨h1.1, askL_ok h3 h1.2.1 h1.2.2⟩
  refine ⟨fun e0 => (Walk_any _ _ _ _ _ hA hm _ hn _ hp).mono ?_, fun e0 => (Create_any _ _ _ _ _ hA hm hcap _ hn _ hp _ hc.m).mono ?_, fun e0 => (Mkdir_any _ _ _ _ _ hA hm hcap _ hn _ hp _ hc.m).mono ?_, fun e0 => (Unlink_any _ _ _ _ _ hA hm hI hcap _ hn _ hp).mono ?_, fun e0 => (Rmdir_any _ _ _ _ _ hA hm hI hcap _ hn _ hp).mono ?_,
    fun e0 => (Link_any _ _ _ _ _ hA hm hcap _ hn _ _ hp ho).mono ?_, fun e0 => (Rename_any _ _ _ _ _ hA hm hI hcap _ hn _ _ hp ho).mono ?_, fun e0 => (Read_any _ _ _ _ _ hA _ _ _ hn hc.m hc.k).mono ?_, fun e0 => (Write_any _ _ _ _ _ hA _ _ _ hn hc.m ho).mono ?_, fun e0 => (Truncate_any _ _ _ _ _ hA _ _ hn hc.m).mono ?_,
    fun e0 => (Chmod_any _ _ _ _ _ hA _ _ hn hc.m).mono ?_, fun e0 => (Stat_any _ _ _ _ _ hA hcap _ hn).mono ?_, fun e0 => (List_any _ _ _ _ _ hA hcap _ hn).mono ?_, fun e0 => (Hold_any _ _ _ _ _ hA hcap _ hn).mono ?_, fun e0 => (Drop_any _ _ _ _ _ hA hcap _ hn ?_).mono ?_, fun e0 => (Path_any _ _ _ _ _ hA hI _ hn).mono ?_, fun e0 => ?_⟩
  · rintro e w' ⟨rfl, hf⟩
    exact ⟨_, _, rfl, still _ _ (by simp [askS, e0]) (by simp [askA, e0]) hf⟩
  · intro e w' hx
    obtain ⟨rfl, h2⟩ := mutx { errA (createR σ c.n c.p c.m).2.1 with n := (createR σ c.n c.p c.m).1 } hx (by simp [askS, e0]) (by simp [askA, e0])
    exact ⟨_, _, rfl, h2⟩
  · intro e w' hx
    obtain ⟨rfl, h2⟩ := mutx (errA (makeR σ c.n c.p true c.m).1) hx (by simp [askS, e0]) (by simp [askA, e0])
    exact ⟨_, rfl, h2⟩
  · intro e w' hx
    obtain ⟨rfl, h2⟩ := mutx (errA (unlinkR σ c.n c.p).1) hx.x (by simp [askS, e0]) (by simp [askA, e0])
    exact ⟨_, rfl, h2⟩
  · intro e w' hx
    obtain ⟨rfl, h2⟩ := mutx (errA (rmdirR σ c.n c.p).1) hx.x (by simp [askS, e0]) (by simp [askA, e0])
    exact ⟨_, rfl, h2⟩
  · intro e w' hx
    obtain ⟨rfl, h2⟩ := mutx (errA (linkR σ c.n c.p c.o).1) hx.x (by simp [askS, e0]) (by simp [askA, e0])
    exact ⟨_, rfl, h2⟩
  · intro e w' hx
    obtain ⟨rfl, h2⟩ := mutx (errA (renR σ c.n c.p c.o).1) hx.x (by simp [askS, e0]) (by simp [askA, e0])
    exact ⟨_, rfl, h2⟩
  · rintro e w' ⟨rfl, hf⟩
    exact ⟨_, _, rfl, still _ _ (by simp [askS, e0]) (by simp [askA, e0]) hf⟩
  · intro e w' hx
    obtain ⟨rfl, h2⟩ := mutx { errA (writeR σ c.n c.m c.o).2.1 with n := (writeR σ c.n c.m c.o).1 } hx.x (by simp [askS, e0]) (by simp [askA, e0])
    exact ⟨_, _, rfl, h2⟩
  · intro e w' hx
    obtain ⟨rfl, h2⟩ := mutx (errA (truncR σ c.n c.m).1) hx.x (by simp [askS, e0]) (by simp [askA, e0])
    exact ⟨_, rfl, h2⟩
  · intro e w' hx
    obtain ⟨rfl, h2⟩ := mutx (errA (chmodR σ c.n c.m).1) hx.x (by simp [askS, e0]) (by simp [askA, e0])
    exact ⟨_, rfl, h2⟩
  · rintro e w' ⟨rfl, hf⟩
    exact ⟨_, _, rfl, still _ _ (by simp [askS, e0]) (by simp [askA, e0]) hf⟩
  · rintro e w' ⟨v, rfl, hv, hf⟩
    obtain ⟨l1, l2⟩ := list_sizes hG.live hG.caps c.n
    exact ⟨v, _, _, _, rfl, hv, by omega, fun x hx => by have := l2 x hx; omega, still _ _ (by simp [askS, e0]) (by simp [askA, e0]) hf⟩
  · intro e w' hx
    obtain ⟨rfl, h2⟩ := mutx (errA (holdR σ c.n).1) hx.x (by simp [askS, e0]) (by simp [askA, e0])
    exact ⟨_, rfl, h2⟩
  · intro j n _ hj _ hl _
    have e : ∀ x : Option Nd, (σ.put j x).put j none = σ.put j none := fun x => by unfold FSt.put; rw [List.set_set]
    rw [e]
    exact (hI.free hG.live hj hl).2
  · intro e w' hx
    obtain ⟨rfl, h2⟩ := mutx (errA (dropR σ c.n).1) hx.x (by simp [askS, e0]) (by simp [askA, e0])
    exact ⟨_, rfl, h2⟩
  · rintro e w' ⟨rfl, hf⟩
    exact ⟨_, _, rfl, still _ _ (by simp [askS, e0]) (by simp [askA, e0]) hf⟩
  · refine still _ _ ?_ ?_ (Fr.refl _ _)
    · unfold askS; repeat rw [if_neg (by omega)]
    · unfold askA; repeat rw [if_neg (by omega)]
theorem askL_any (w : World) (f : Nat) (σ : FSt) (S : Nat → Prop) (p : Nat → Nat) (h : FilesAt w f σ S p) (hml : Ml w) {k : Nat} (hG : Good σ k) (hk : k ≤ 1000000) (c : CallQ) (hc : CallOk c) : Calls Tryz.prog 7 #[.pointer (some ⟨f, 0, none⟩), callV c] w (AskPost (AskL σ c f S w)) :=
  ask_any _ _ _ _ (askOf_live w f σ S p h hml hG hk c hc)
theorem AskL.good {σ : FSt} {c : CallQ} {f : Nat} {S : Nat → Prop} {w : World} {a : AnsQ} {w' : World} (h : AskL σ c f S w a w') {k : Nat} (hG : Good σ k) : Good (askS σ c) (k + 2) := by
  obtain ⟨_, ⟨p', hp⟩, _⟩ := h
  exact (hG.ask c).good hp.live
end Go.Proofs.YthikjdpnlahkfaaGreatDoor
