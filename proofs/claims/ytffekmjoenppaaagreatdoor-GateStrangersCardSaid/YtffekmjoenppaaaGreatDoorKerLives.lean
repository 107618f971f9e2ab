/- gate.Kernel.lives. Conditions: the contract's own premises. -/
import Derived.Test.YtffekmjoenppaaaGreatDoorKerWrite
namespace Go.Proofs.YtffekmjoenppaaaGreatDoor
open Go.RowKit

attribute [local go_sem] Oper.semAt_some

/-- Is there a process of this number that hasn't ended? -/
def livesB (K : KQ) (pid : Int) : Bool := decide (1 ≤ pid ∧ pid ≤ K.qn ∧ (K.proc pid.toNat).inn = true) && !(K.proc pid.toNat).ended
def livesV (L : KLay) (K : KQ) (pid : Int) : Value := if livesB K pid = true then ptrAt (L.qb pid.toNat) else .pointer none
set_option maxRecDepth 100000 in
set_option maxHeartbeats 1000000 in
theorem lives_any (w : World) (k : Nat) (K : KQ) (L : KLay) (h : KF w k K L) (hq : 1 ≤ K.qn) (pid : Int) (hp : -9223372036854775808 ≤ pid ∧ pid ≤ 9223372036854775807) :
    Calls Tryz.prog 14 #[ptrAt k, .int .i64 pid] w fun e w' => e = .returned (livesV L K pid) ∧ w' = w := by
  obtain ⟨g, hg⟩ : ∃ g, L.qm = some g := by
    cases e : L.qm with
    | none =>
      have := h.qr
      rw [e] at this
      have : K.qn = 0 := this
      omega
    | some g => exact ⟨g, rfl⟩
  have hM : IMapAt Tryz.prog 3 w g (regL (fun i => (K.proc i).inn) (fun i => ptrAt (L.qb i)) K.qn) := by
    have := h.qr
    rw [hg] at this
    exact this
  have hlk := hM.look false (t := 51) (e := 57) Tryz.underlying3 Tryz.underlying51 (z := .pointer none) (by kernel_rfl) pid hp
  rw [regL_get] at hlk
  have c6 : w.cell? ⟨k, 6, none⟩ = some (.map (some g)) := by
    rw [blk_cell h.hk]
    show some (Value.map L.qm) = _
    rw [hg]
  by_cases hin : 1 ≤ pid ∧ pid ≤ K.qn ∧ (K.proc pid.toNat).inn = true
  · rw [if_pos hin] at hlk
    simp only [Bool.false_eq_true, if_false, Option.getD_some] at hlk
    have hpr := h.hq pid.toNat (by omega) (by omega)
    have c2 : w.cell? ⟨L.qb pid.toNat, 2, none⟩ = some (.bool (K.proc pid.toNat).ended) := by rw [blk_cell hpr]; rfl
    have hV : livesV L K pid = if (K.proc pid.toNat).ended = true then .pointer none else ptrAt (L.qb pid.toNat) := by
      unfold livesV livesB
      rw [decide_eq_true hin]
      cases (K.proc pid.toNat).ended <;> rfl
    rw [hV]
    generalize L.qb pid.toNat = qb at *
    cases he : (K.proc pid.toNat).ended with
    | true =>
      rw [he] at c2
      clear h hM hpr hV hin
      unfold ptrAt at *
      go_enter Tryz.func14, Tryz.ntmps14
      go_wp2_with fail
      go_ret
      exact ⟨rfl, rfl⟩
    | false =>
      rw [he] at c2
      clear h hM hpr hV hin
      unfold ptrAt at *
      go_enter Tryz.func14, Tryz.ntmps14
      go_wp2_with fail
      go_ret
      exact ⟨rfl, rfl⟩
  · rw [if_neg hin] at hlk
    simp only [Bool.false_eq_true, if_false, Option.getD_none] at hlk
    have hV : livesV L K pid = .pointer none := by
      unfold livesV livesB
      rw [decide_eq_false hin]
      rfl
    rw [hV]
    clear h hM hV hin
    unfold ptrAt at *
    go_enter Tryz.func14, Tryz.ntmps14
    go_wp2_with fail
    go_ret
    exact ⟨rfl, rfl⟩
end Go.Proofs.YtffekmjoenppaaaGreatDoor
