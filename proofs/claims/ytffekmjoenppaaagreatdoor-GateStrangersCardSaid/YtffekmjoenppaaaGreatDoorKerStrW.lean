/- What GateStrangers asks of a kernel: as plain data, and its calls. Conditions: each law's own premises. -/
import Derived.Test.YtffekmjoenppaaaGreatDoorKerCallsB
import Derived.Test.YtffekmjoenppaaaGreatDoorGateSteps
import Derived.Test.YtffekmjoenppaaaGreatDoorKerTable
import Derived.Test.YtffekmjoenppaaaGreatDoorKerAwake
import Derived.Deep.CutBlock
import Derived.Deep.DeepCutAuto
namespace Go.Proofs.YtffekmjoenppaaaGreatDoor
open Go.RowKit

def dB : ByteArray := ⟨#[100]⟩
def ks1 : KQ := (fileQ newK (makeR newK.σ (newK.proc 1).dir dB.data.toList true (bits .andNot .i64 (bits .and .i64 511 511) (newK.proc 1).mask))).2
def ks2 : KQ := (pipeQ ks1 1).2
def ks3 : KQ := (forkQ ks2 1).2
set_option maxRecDepth 100000 in
theorem kst_l2 : livesB ks1 1 = true := by kernel_rfl
set_option maxRecDepth 100000 in
theorem kst_l3 : livesB ks2 1 = true := by kernel_rfl
set_option maxRecDepth 100000 in
theorem kst_l4 : livesB ks3 1 = true ∧ livesB ks3 2 = true := ⟨by kernel_rfl, by kernel_rfl⟩
set_option maxRecDepth 100000 in
theorem kst_p2 : (ks3.proc 2).dir = 1 ∧ (ks3.proc 2).mask = 18 ∧ ks3.qn = 2 := ⟨by kernel_rfl, by kernel_rfl, by kernel_rfl⟩
/-- The calls that change one's own alone. -/
def ownNo (n : Int) : Bool := n == 4 || n == 5 || n == 6 || n == 7 || n == 9 || n == 12 || n == 13 || n == 24 || n == 28
theorem ownNo_cases {n : Int} (h : ownNo n = true) : n = 4 ∨ n = 5 ∨ n = 6 ∨ n = 7 ∨ n = 9 ∨ n = 12 ∨ n = 13 ∨ n = 24 ∨ n = 28 := by
  unfold ownNo at h
  simp only [Bool.or_eq_true, beq_iff_eq] at h
  omega
def OwnPost (A : Nat → Prop) (w : World) (k : Nat) (K : KQ) (M : Nat) (e : Ending) (w' : World) : Prop :=
  ∃ v K', e = .returned v ∧ KAt A w' k K' M ∧ Keeps 1 K K' ∧ Fr (fun b => ¬ A b) w w'
theorem own_call {A : Nat → Prop} {w : World} {k : Nat} {K : KQ} {N : Nat} (h : KAt A w k K N) (hN : N + 40 ≤ 1000000) (hl : livesB K 1 = true) (c : SysQ) (hc : SysOk c) (hno : ownNo c.no = true) :
    Calls Tryz.prog 7 #[ptrAt k, .int .i64 1, sysV c] w (OwnPost A w k K (N + 33)) := by
  have fin : ∀ {R : ResQ × KQ} {M : Nat}, M ≤ N + 33 → Keeps 1 K R.2 → Calls Tryz.prog 7 #[ptrAt k, .int .i64 1, sysV c] w (CallPost A w k (false, R) M) → Calls Tryz.prog 7 #[ptrAt k, .int .i64 1, sysV c] w (OwnPost A w k K (N + 33)) := fun hM hk hcall =>
    hcall.mono fun e w' hp => ⟨_, _, hp.1, hp.2.1.mono hM, hk, hp.2.2⟩
  have hp1 : -9223372036854775808 ≤ (1 : Int) ∧ (1 : Int) ≤ 9223372036854775807 := by decide
  rcases ownNo_cases hno with e | e | e | e | e | e | e | e | e
  · exact fin (by omega) (keeps_close _) (close_at h (by omega) 1 hp1 c hc.one e hl)
  · exact fin (by omega) (keeps_dup _ _ _) (dup_at h (by omega) 1 hp1 c hc.one e hl)
  · exact fin (by omega) (keeps_dup _ _ _) (dup2_at h (by omega) 1 hp1 c hc.one e hl)
  · exact fin (by omega) keeps_pipe (pipe_at h (by omega) 1 hp1 c hc.one e hl)
  · exact fin (by omega) keeps_exec (exec_at h (by omega) 1 hp1 c hc.one e hl)
  · exact fin (by omega) (keeps_chdir _) (chdir_at h (by omega) 1 hp1 c hc.one e hl hc.s)
  · exact fin (by omega) (keeps_mask _) (umask_at h (by omega) 1 hp1 c hc.one e hl)
  · exact fin (by omega) (keeps_mark _ _) (mark_at h (by omega) 1 hp1 c hc.one e hl)
  · exact fin (by omega) (keeps_text _) (text_at h (by omega) 1 hp1 c hc.one e hl hc.s)
theorem ktable_at {A : Nat → Prop} {w : World} {k : Nat} {K : KQ} {N : Nat} (h : KAt A w k K N) (pid : Int) (hp : -9223372036854775808 ≤ pid ∧ pid ≤ 9223372036854775807) (hl : livesB K pid = true) :
    Calls Tryz.prog 8 #[ptrAt k, .int .i64 pid] w (TablePost w (K.proc pid.toNat).fds) := by
  obtain ⟨p1, p2, p3⟩ := lives_pid hl
  obtain ⟨L, h1, h2, _⟩ := h
  exact ktable_any w k K L h1 h2.fds pid hp hl pid.toNat p3.symm p1 p2
/-- The root's path. -/
theorem pathR_root {σ : FSt} {N : Nat} (h : Good σ N) : pathE σ 1 = 0 ∧ pathR σ 1 = [47] := by
  obtain ⟨n, hn, hd, _⟩ := h.live.root
  have he : pathE σ 1 = 0 := by
    unfold pathE
    rw [show σ.ndI 1 = some n from hn]
    simp [hd]
  refine ⟨he, ?_⟩
  unfold pathR
  rw [if_pos he]
  have hu : Up σ 1 [] := .root
  unfold wayT
  rw [show ((1 : Int)).toNat = 1 from rfl, dif_pos ⟨_, hu⟩]
  have := Classical.choose_spec (p := fun s => Up σ 1 s) ⟨_, hu⟩
  rw [Up.det h.inv this hu]
  rfl
end Go.Proofs.YtffekmjoenppaaaGreatDoor

/- The walk of GateStrangers: it returns true and leaves old memory as it was. Conditions: the row of steps reads as a row of steps. -/
namespace Go.Proofs.YtffekmjoenppaaaGreatDoor
open Go.RowKit

attribute [local go_sem] Oper.semAt_some

/-- Two rows of a table's numbers. -/
def TabRow (w : World) (b : Nat) : Prop := w.heap[b]? = some (.cells (tabI (ks3.proc 2).fds 32) 3 (0, 0))
/-- The kernel that the calls so far have left. -/
def SI (W0 : World) (k tb : Nat) (w : World) : Prop := ∃ K N, KAt (AL W0.heap.size [tb]) w k K N ∧ N ≤ 3000 ∧ Keeps 1 ks3 K ∧ TabRow w tb ∧ Fr (fun _ => False) W0 w
def SRel (W0 : World) (k tb len gk : Nat) (i : Value) (w : World) : Prop :=
  ∃ j K N, gk + j = len ∧ i = .int .i64 (j : Nat) ∧ j ≤ 80 ∧ KAt (AL W0.heap.size [tb]) w k K N ∧ N ≤ 100 + 33 * j ∧ Keeps 1 ks3 K ∧ TabRow w tb ∧ Fr (fun _ => False) W0 w
theorem SRel.si {W0 w : World} {k tb len gk : Nat} {i : Value} (h : SRel W0 k tb len gk i w) : SI W0 k tb w := by
  obtain ⟨j, K, N, _, _, hj, h1, h2, h3, h4, h5⟩ := h
  exact ⟨K, N, h1, by omega, h3, h4, h5⟩
theorem SI.frame {W0 w w' : World} {k tb : Nat} (h : SI W0 k tb w) (hf : Fr (fun _ => False) w w') : SI W0 k tb w' := by
  obtain ⟨K, N, h1, h2, h3, h4, h5⟩ := h
  exact ⟨K, N, h1.quiet hf, h2, h3, hf.get h4 (fun e => e), h5.trans hf⟩
set_option maxRecDepth 100000 in
set_option maxHeartbeats 8000000 in
theorem gstr_walk (a : Option Addr) (len cap : Nat) (W : World) (hml : Ml W) (hr : StepRow W a len) :
    Calls Tryz.prog 4 #[.slice a len cap] W (LawPost W) := by
  have hl1 := hr.1
  have hawake := hide (awake12_any W hml)
  go_enter Tryz.func4, Tryz.ntmps4
  go_wp2_with fail
  refine hawake.out.mono ?_
  rintro e W0 ⟨rfl, hf0⟩
  have hml0 := hml.frame hf0 (fun e => e)
  have Hml := hide hml0
  have HfW := hide hf0
  clear hml0 hf0 hawake
  have hnew := hide (knew_at W0 Hml.out)
  go_wp2_with fail
  refine hnew.out.mono ?_
  rintro e W1 ⟨k, rfl, hk1, hF1⟩
  have hgl : glB < W0.heap.size := by obtain ⟨m, hm⟩ := Hml.out; exact World.block_lt_of_cell? _ _ hm
  have hk1 : KAt (AL W0.heap.size []) W1 k newK 5 := hk1.more (Fr.refl _ _) (fun b e => e.elim .inl (fun e => by cases e)) (.inl hgl)
  have Hgl := hide hgl
  have hc1 := mkdir_at hk1 (by decide) 1 (by decide) (sq 17 511 0 dB) rfl rfl kawk_l1 (by decide) (by decide)
  have Hc1 := hide hc1
  unfold sysV sq ptrAt noBy dB at Hc1
  have HF1 := hide hF1
  clear hnew hgl hc1 hk1 hF1
  go_wp2_with fail
  refine Hc1.out.mono ?_
  rintro e W2 ⟨rfl, hk2, hf2⟩
  have hk2 : KAt (AL W0.heap.size []) W2 k ks1 6 := hk2
  have hF2 := al_fr HF1.out hf2
  have hc2 := pipe_at hk2 (by decide) 1 (by decide) (sq 7 0 0 noBy) rfl rfl kst_l2
  have Hc2 := hide hc2
  unfold sysV sq ptrAt noBy at Hc2
  have HF2 := hide hF2
  clear Hc1 hf2 hc2 hk2 hF2 HF1
  go_wp2_with fail
  refine Hc2.out.mono ?_
  rintro e W3 ⟨rfl, hk3, hf3⟩
  have hk3 : KAt (AL W0.heap.size []) W3 k ks2 9 := hk3
  have hF3 := al_fr HF2.out hf3
  have hc3 := fork_at hk3 (by decide) 1 (by decide) (sq 8 0 0 noBy) rfl rfl kst_l3
  have Hc3 := hide hc3
  unfold sysV sq ptrAt noBy at Hc3
  have HF3 := hide hF3
  clear Hc2 hf3 hc3 hk3 hF3 HF2
  go_wp2_with fail
  refine Hc3.out.mono ?_
  rintro e W4 ⟨rfl, hk4, hf4⟩
  have hk4 : KAt (AL W0.heap.size []) W4 k ks3 42 := hk4
  have hF4 := al_fr HF3.out hf4
  have ht4 := ktable_at hk4 2 (by decide) kst_l4.2
  have Ht4 := hide ht4
  unfold ptrAt at Ht4
  have HF4 := hide hF4
  have Hk4 := hide hk4
  clear Hc3 hf4 ht4 hk4 hF4 HF3
  go_wp2_with fail
  refine Ht4.out.mono ?_
  rintro e W5 ⟨tb, rfl, htb, hrow, hf5⟩
  have hk5 : KAt (AL W0.heap.size [tb]) W5 k ks3 42 := Hk4.out.more hf5 (fun b e => by
    rcases e with e | e
    · exact .inl (.inl e)
    · rcases List.mem_cons.1 e with e | e
      · exact .inr ⟨by omega, by rw [e]; exact blk_lt hrow⟩
      · cases e) (.inl Hgl.out)
  have H0 := hide (show SRel W0 k tb len len (.int .i64 0) W5 from ⟨0, ks3, 42, by omega, rfl, by decide, hk5, by decide, Keeps.refl _ _, hrow, HF4.out.trans hf5⟩)
  clear Ht4 htb hrow hf5 hk5 HF4 Hk4
  go_upto_block 0 with fail
  go_cut [] (fun wx => SI W0 k tb wx)
  case first =>
    go_wp2_with fail
    go_loopg [29] len (fun gk i wr => SRel W0 k tb len gk i wr)
    case atStart => exact H0.out
    case round =>
      clear H0
      have hsi := hrel.si
      obtain ⟨j, K, N, hgk, rfl, hj80, hk, hN, hke, htr, hfr⟩ := hrel
      have Hsi := hide hsi
      have Hgk := hide hgk
      have Hk := hide hk
      have Hke := hide hke
      have Htr := hide htr
      have HN := hide hN
      clear hsi hgk hk hke htr hN
      by_cases hlt : j < len
      · obtain ⟨cb, co, rfl, hrow⟩ := hr.2.resolve_left (by omega)
        obtain ⟨pid, c, _, hc, hcell⟩ := hrow j hlt
        have tr : ∀ q, q < 7 → wr.cell? ⟨cb, co + (j * 7 + q), none⟩ = (Value.int .i64 pid :: sysC c)[q]? := fun q hq => by
          have h0 := hcell q hq
          have hb : cb < W.heap.size := World.block_lt_of_cell? _ _ (h0.trans (List.getElem?_eq_getElem (by simpa [sysC] using hq)))
          rw [World.cell?_of_block (w := W) ((HfW.out.trans hfr).block _ hb (fun e => e))]
          exact h0
        have d0 : wr.cell? ⟨cb, co + j * 7, none⟩ = some (.int .i64 pid) := tr 0 (by decide)
        have d1 : wr.cell? ⟨cb, co + j * 7 + 1, none⟩ = some (.int .i64 c.no) := by rw [Nat.add_assoc]; exact tr 1 (by decide)
        have d2 : wr.cell? ⟨cb, co + j * 7 + 2, none⟩ = some (.int .i64 c.a) := by rw [Nat.add_assoc]; exact tr 2 (by decide)
        have d3 : wr.cell? ⟨cb, co + j * 7 + 3, none⟩ = some (.int .i64 c.b) := by rw [Nat.add_assoc]; exact tr 3 (by decide)
        have d4 : wr.cell? ⟨cb, co + j * 7 + 4, none⟩ = some (.string c.s) := by rw [Nat.add_assoc]; exact tr 4 (by decide)
        have d5 : wr.cell? ⟨cb, co + j * 7 + 5, none⟩ = some (.string c.t) := by rw [Nat.add_assoc]; exact tr 5 (by decide)
        have d6 : wr.cell? ⟨cb, co + j * 7 + 6, none⟩ = some c.p := by rw [Nat.add_assoc]; exact tr 6 (by decide)
        have hone := hc.p
        clear hr
        clear tr hcell hrow
        obtain ⟨wa, hwa⟩ : ∃ wa, wa = wr.alloc (.cells #[.int .i64 pid, .int .i64 c.no, .int .i64 c.a, .int .i64 c.b, .string c.s, .string c.t, c.p] 41 (0, 0)) := ⟨_, rfl⟩
        obtain ⟨ca, hcae⟩ : ∃ ca, ca = wr.heap.size := ⟨_, rfl⟩
        have hca : wa.heap[ca]? = some (.cells #[.int .i64 pid, .int .i64 c.no, .int .i64 c.a, .int .i64 c.b, .string c.s, .string c.t, c.p] 41 (0, 0)) := by rw [hwa, hcae]; exact blk_new _ _
        have hfa : Fr (fun _ => False) wr wa := by rw [hwa]; exact (Fr.refl _ _).alloc _
        have g1 : wa.cell? ⟨ca, 1, none⟩ = some (.int .i64 c.no) := by rw [blk_cell hca]; rfl
        have g2 : wa.cell? ⟨ca, 2, none⟩ = some (.int .i64 c.a) := by rw [blk_cell hca]; rfl
        have g3 : wa.cell? ⟨ca, 3, none⟩ = some (.int .i64 c.b) := by rw [blk_cell hca]; rfl
        have g4 : wa.cell? ⟨ca, 4, none⟩ = some (.string c.s) := by rw [blk_cell hca]; rfl
        have g5 : wa.cell? ⟨ca, 5, none⟩ = some (.string c.t) := by rw [blk_cell hca]; rfl
        have g6 : wa.cell? ⟨ca, 6, none⟩ = some c.p := by rw [blk_cell hca]; rfl
        have hcall := hide (fun (hno : ownNo c.no = true) => own_call (Hk.out.quiet hfa) (by have := HN.out; omega) ((Hke.out.lives 1).trans kst_l4.1) c hc hno)
        have Hfa := hide hfa
        obtain ⟨no, xa, xb, xs, xt, xp⟩ := c
        simp only at d0 d1 d2 d3 d4 d5 d6 g1 g2 g3 g4 g5 g6 hone hwa
        obtain ⟨pa, pl, pn, rfl⟩ := hone
        by_cases h80 : j = 80
        · subst h80
          have hfin := Hsi.out.frame hfa
          rw [hwa] at hfin
          have hfin := hide hfin
          clear hwa hcae hca hfa g1 g2 g3 g4 g5 g6 hcall Hfa hc hfr
          go_wp2_with fail
          go_meet
          exact hfin.out
        · have hj : j < 80 := by omega
          have hn80 : ((j : Int) == 80) = false := by simp; omega
          have hnext : ∀ w2 K' N', KAt (AL W0.heap.size [tb]) w2 k K' N' → N' ≤ 100 + 33 * (j + 1) → Keeps 1 ks3 K' → TabRow w2 tb → Fr (fun _ => False) W0 w2 → SRel W0 k tb len (gk - 1) (.int .i64 ((j : Int) + 1)) w2 := fun w2 K' N' a1 a2 a3 a4 a5 =>
            ⟨j + 1, K', N', by have := Hgk.out; omega, by go_num, by omega, a1, a2, a3, a4, a5⟩
          have Hnext := hide hnext
          have Hfr := hide hfr
          clear hnext hfr hc hca hfa
          go_upto_region 11 with (fail)
          rw [← hwa, ← hcae]
          have Hwa := hide hwa
          clear d0 d1 d2 d3 d4 d5 d6 hwa hcae
          by_cases hown : ownNo no = true
          · have hc := hide (hcall.out hown)
            unfold sysV ptrAt at hc
            have Hown := hide hown
            clear hcall Hsi
            have hno := ownNo_cases hown
            clear hown
            rcases hno with rfl | rfl | rfl | rfl | rfl | rfl | rfl | rfl | rfl
            all_goals
              go_wp2_with fail
              refine hc.out.mono ?_
              rintro e w2 ⟨v, K', rfl, hk', hke', hf'⟩
              have hn' := hide (Hnext.out w2 K' (N + 33) hk' (by have := HN.out; omega) (Hke.out.trans hke') (hf'.get (Hfa.out.get Htr.out (fun e => e)) (fun e => e (.inr List.mem_cons_self))) (al_fr (Hfr.out.trans Hfa.out) hf'))
              clear hk' hke' hf' hc
              go_wp2_with fail
              go_roundg (gk - 1)
              case rel => exact hn'.out
              case measure => have := Hgk.out; omega
          · have hn4 : (no == 4) = false ∧ (no == 5) = false ∧ (no == 6) = false ∧ (no == 7) = false ∧ (no == 9) = false ∧ (no == 12) = false ∧ (no == 13) = false ∧ (no == 24) = false ∧ (no == 28) = false := by
              unfold ownNo at hown
              simpa [not_or, and_assoc] using hown
            obtain ⟨n1, n2, n3, n4, n5, n6, n7, n8, n9⟩ := hn4
            have hn' := hide (Hnext.out wa K N (Hk.out.quiet Hfa.out) (by have := HN.out; omega) Hke.out (Hfa.out.get Htr.out (fun e => e)) (Hfr.out.trans Hfa.out))
            clear hcall Hsi hown
            go_wp2_with fail
            go_roundg (gk - 1)
            case rel => exact hn'.out
            case measure => have := Hgk.out; omega
      · have hend := Hsi.out
        have hend := hide hend
        have hnl : ¬ (j : Int) < (len : Int) := by omega
        go_wp2_with fail
        go_meet
        exact hend.out
  case rest =>
    clear H0
    obtain ⟨K, N, hk, hN, hke, htr, hfr⟩ := hcut
    have hl2 : livesB K 2 = true := (hke.lives 2).trans kst_l4.2
    have ht := ktable_at hk 2 (by decide) hl2
    rw [show (2 : Int).toNat = 2 from rfl, hke.proc 2 (by decide)] at ht
    have Ht := hide ht
    unfold ptrAt at Ht
    have Hk := hide hk
    have HN := hide hN
    have Hke := hide hke
    have Htr := hide htr
    have Hfr := hide hfr
    clear hk hN hke htr hfr ht
    go_wp2_with fail
    refine Ht.out.mono ?_
    rintro e w1 ⟨nb, rfl, hnb, hrow, hf1⟩
    have hk1 := Hk.out.quiet hf1
    have htr1 := hf1.get Htr.out (fun e => e)
    have Hrow := hide hrow
    have Htr1 := hide htr1
    have Hk1 := hide hk1
    have Hf1 := hide (Hfr.out.trans hf1)
    clear hk1 htr1 hrow hf1 Hk Htr Hfr Ht
    go_wp2_with fail
    go_loopg [63] 32 (fun gk i wr => ∃ j, gk + j = 32 ∧ i = .int .i64 (j : Nat) ∧ Fr (fun _ => False) w1 wr)
    case atStart => exact ⟨0, rfl, rfl, Fr.refl _ _⟩
    case round =>
      obtain ⟨j, hgk, rfl, hfj⟩ := hrel
      by_cases hlt : j < 32
      · have x1 : wr.drew.cell? ⟨nb, j, none⟩ = some (.int .i64 (tabN (ks3.proc 2).fds 32 j)) := by rw [blk_cell (blk_drew (hfj.get Hrow.out (fun e => e))), tabI_get, if_pos hlt]
        have x2 : wr.drew.cell? ⟨tb, j, none⟩ = some (.int .i64 (tabN (ks3.proc 2).fds 32 j)) := by rw [blk_cell (blk_drew (hfj.get Htr1.out (fun e => e))), tabI_get, if_pos hlt]
        have hli : (j : Int) < 32 := by omega
        have hnx := hide (show ∃ j', (gk - 1) + j' = 32 ∧ (.int .i64 ((j : Int) + 1) : Value) = .int .i64 (j' : Nat) ∧ Fr (fun _ => False) w1 wr.drew from ⟨j + 1, by omega, by go_num, hfj.drew⟩)
        generalize tabN (ks3.proc 2).fds 32 j = tn at *
        clear hfj
        go_wp2_with fail
        refine region_still (by kernel_rfl) (by kernel_rfl) ?_
        repeat go_big_quiet_step (fail)
        refine wpQuiet_nil ?_
        go_wp2_with fail
        go_roundg (gk - 1)
        case rel => exact hnx.out
        case measure => omega
      · have hnl : ¬ (j : Int) < 32 := by omega
        have hkj := Hk1.out.quiet hfj
        have hok := hkj.ok
        have hroot := pathR_root hok.good
        have hp2 := Hke.out.proc 2 (by decide)
        have hd2 : (K.proc 2).dir = 1 := by rw [hp2]; exact kst_p2.1
        have hm2 : (K.proc 2).mask = 18 := by rw [hp2]; exact kst_p2.2.1
        have hc := call_lit (path_at hkj (by have := HN.out; omega) 2 (by decide) (sq 25 0 0 noBy) rfl rfl hl2) (v := .tuple #[.agg #[.int .i64 0, .int .i64 0, .string ⟨#[47]⟩, .slice none 0 0, .int .i64 0, .int .i64 0, .int .i64 0, .int .i64 0, .int .i64 0, .int .i64 0], .bool false]) (K' := K) (by
          show Value.tuple #[resVal (resV ({ noRes with s := ⟨(pathR K.σ (K.proc 2).dir).toArray⟩, err := pathE K.σ (K.proc 2).dir } : ResQ)), .bool false] = _
          rw [hd2, show ((1 : Nat) : Int) = 1 from rfl, hroot.1, hroot.2]; rfl) rfl
        have Hc := hide hc
        unfold sysV sq ptrAt noBy at Hc
        have Hfj := hide (Hf1.out.trans hfj)
        have Hm2 := hide hm2
        clear hkj hok hroot hp2 hd2 hm2 hc hfj
        go_wp2_with fail
        refine Hc.out.mono ?_
        rintro e w3 ⟨rfl, hk3, hf3⟩
        obtain ⟨W3, hW3⟩ : ∃ W, W = w3.alloc (.cells #[.int .i64 0, .int .i64 0, .string ⟨#[47]⟩, .slice none 0 0, .int .i64 0, .int .i64 0, .int .i64 0, .int .i64 0, .int .i64 0, .int .i64 0] 31 (0, 0)) := ⟨_, rfl⟩
        have b3 : W3.heap[w3.heap.size]? = some (.cells #[.int .i64 0, .int .i64 0, .string ⟨#[47]⟩, .slice none 0 0, .int .i64 0, .int .i64 0, .int .i64 0, .int .i64 0, .int .i64 0, .int .i64 0] 31 (0, 0)) := by rw [hW3]; exact blk_new _ _
        have hK3 := hk3.push (.cells #[.int .i64 0, .int .i64 0, .string ⟨#[47]⟩, .slice none 0 0, .int .i64 0, .int .i64 0, .int .i64 0, .int .i64 0, .int .i64 0, .int .i64 0] 31 (0, 0))
        rw [← hW3] at hK3
        have hF3 : Fr (fun _ => False) W0 W3 := by rw [hW3]; exact (al_fr Hfj.out hf3).alloc _
        have hc4 := call_lit (umask_at hK3 (by have := HN.out; omega) 2 (by decide) (sq 13 18 0 noBy) rfl rfl hl2) (v := .tuple #[.agg #[.int .i64 18, .int .i64 0, .string ⟨#[]⟩, .slice none 0 0, .int .i64 0, .int .i64 0, .int .i64 0, .int .i64 0, .int .i64 0, .int .i64 0], .bool false]) (K' := (maskQ K 2 18).2) (by
          show Value.tuple #[resVal (resV ({ noRes with n := ((K.proc 2).mask : Int) } : ResQ)), .bool false] = _
          rw [Hm2.out]; rfl) rfl
        have Hc4 := hide hc4
        unfold sysV sq ptrAt noBy at Hc4
        have HW3 := hide hW3
        have Hb3 := hide b3
        have HF3 := hide hF3
        clear hk3 hf3 hW3 b3 hK3 hF3 hc4 Hc
        go_wp2_with fail
        rw [← HW3.out]
        refine Hc4.out.mono ?_
        rintro e w4 ⟨rfl, hk4, hf4⟩
        obtain ⟨W4, hW4⟩ : ∃ W, W = w4.alloc (.cells #[.int .i64 18, .int .i64 0, .string ⟨#[]⟩, .slice none 0 0, .int .i64 0, .int .i64 0, .int .i64 0, .int .i64 0, .int .i64 0, .int .i64 0] 31 (0, 0)) := ⟨_, rfl⟩
        have b4 : W4.heap[w4.heap.size]? = some (.cells #[.int .i64 18, .int .i64 0, .string ⟨#[]⟩, .slice none 0 0, .int .i64 0, .int .i64 0, .int .i64 0, .int .i64 0, .int .i64 0, .int .i64 0] 31 (0, 0)) := by rw [hW4]; exact blk_new _ _
        have b34 := blk_alloc (al_get hf4 Hb3.out (by simp)) (.cells #[.int .i64 18, .int .i64 0, .string ⟨#[]⟩, .slice none 0 0, .int .i64 0, .int .i64 0, .int .i64 0, .int .i64 0, .int .i64 0, .int .i64 0] 31 (0, 0))
        rw [← hW4] at b34
        have y1 : W4.cell? ⟨w3.heap.size, 2, none⟩ = some (.string ⟨#[47]⟩) := by rw [blk_cell b34]; rfl
        have y2 : W4.cell? ⟨w4.heap.size, 0, none⟩ = some (.int .i64 18) := by rw [blk_cell b4]; rfl
        rw [hW4] at y1 y2
        have hfin := hide (show LawPost W (.returned (.bool true)) W4 from ⟨rfl, (HfW.out.trans (by rw [hW4]; exact (al_fr HF3.out hf4).alloc _)).below (fun _ _ h => h)⟩)
        have HW4 := hide hW4
        clear hk4 hf4 hW4 b4 b34 Hc4
        go_wp2_with fail
        rw [← HW4.out]
        go_ret
        exact hfin.out
end Go.Proofs.YtffekmjoenppaaaGreatDoor
