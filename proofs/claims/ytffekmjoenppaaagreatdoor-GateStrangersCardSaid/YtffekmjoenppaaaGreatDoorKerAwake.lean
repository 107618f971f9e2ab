/- A kernel beside its caller's own blocks, and each call of it. Conditions: each law's own premises. -/
import Derived.Test.YtffekmjoenppaaaGreatDoorKerKeepB
namespace Go.Proofs.YtffekmjoenppaaaGreatDoor
open Go.RowKit

/-- A kernel in memory; A: what its caller has. -/
def KAt (A : Nat → Prop) (w : World) (k : Nat) (K : KQ) (N : Nat) : Prop :=
  ∃ L, KF w k K L ∧ KOk K N ∧ Ml w ∧ A glB ∧ ∀ b, A b → L.o b = none ∧ b < w.heap.size
section
variable {A : Nat → Prop} {w w' : World} {k : Nat} {K : KQ} {N M : Nat}
theorem KAt.mono (h : KAt A w k K N) (hN : N ≤ M) : KAt A w k K M := by
  obtain ⟨L, h1, h2, h3⟩ := h
  exact ⟨L, h1, h2.mono hN, h3⟩
theorem KAt.ok (h : KAt A w k K N) : KOk K N := by obtain ⟨_, _, h, _⟩ := h; exact h
/-- The caller has done something of its own. -/
theorem KAt.still {T : Nat → Prop} (h : KAt A w k K N) (hf : Fr T w w') (hT : ∀ b, b < w.heap.size → T b → A b ∧ b ≠ glB) : KAt A w' k K N := by
  obtain ⟨L, h1, h2, h3, h4, h5⟩ := h
  have hf' : Fr (fun b => A b ∧ b ≠ glB) w w' := hf.mono fun b hb e => hT b hb e
  refine ⟨L, h1.still hf' (fun b t e x => by rw [(h5 b x.1).1] at e; cases e), h2, h3.frame hf' (fun e => e.2 rfl), h4, fun b hb => ⟨(h5 b hb).1, Nat.lt_of_lt_of_le (h5 b hb).2 hf.size⟩⟩
theorem KAt.quiet (h : KAt A w k K N) (hf : Fr (fun _ => False) w w') : KAt A w' k K N := h.still hf fun _ _ e => e.elim
/-- The caller has more blocks. -/
theorem KAt.more {B : Nat → Prop} (h : KAt A w k K N) (hf : Fr (fun _ => False) w w') (hB : ∀ b, B b → A b ∨ (w.heap.size ≤ b ∧ b < w'.heap.size)) (hg : B glB) : KAt B w' k K N := by
  obtain ⟨L, h1, h2, h3, h4, h5⟩ := h
  refine ⟨L, h1.quiet hf, h2, h3.frame hf (fun e => e), hg, fun b hb => ?_⟩
  rcases hB b hb with x | x
  · exact ⟨(h5 b x).1, Nat.lt_of_lt_of_le (h5 b x).2 hf.size⟩
  · exact ⟨h1.new b x.1, x.2⟩
theorem KAt.lt (h : KAt A w k K N) {b : Nat} (hb : A b) : b < w.heap.size := by obtain ⟨_, _, _, _, _, h⟩ := h; exact (h b hb).2
end
def CallPost (A : Nat → Prop) (w : World) (k : Nat) (R : Bool × ResQ × KQ) (M : Nat) (e : Ending) (w' : World) : Prop :=
  e = .returned (.tuple #[resVal (if R.1 = true then noResV else resV R.2.1), .bool R.1]) ∧ KAt A w' k R.2.2 M ∧ Fr (fun b => ¬ A b) w w'
section
variable {A : Nat → Prop} {w : World} {k : Nat} {K : KQ} {N : Nat}
theorem call_at (h : KAt A w k K N) (hq : 1 ≤ K.qn) (pid : Int) (hp : -9223372036854775808 ≤ pid ∧ pid ≤ 9223372036854775807) (c : SysQ) (hcp : c.p.oneCell' = true) (hl : livesB K pid = true) (R : Bool × ResQ × KQ) (M : Nat) (hM : Live R.2.2.σ → KOk R.2.2 M)
    (hans : ∀ L w2 a, KF w2 k K L → Ml w2 → L.o glB = none → glB ≠ a → AskAt w2 a k (L.qb pid.toNat) c noResV → L.o a = none → Calls Tryz.prog 15 #[ptrAt a] w2 (KaskPost w2 k K L pid.toNat a c R)) :
    Calls Tryz.prog 7 #[ptrAt k, .int .i64 pid, sysV c] w (CallPost A w k R M) := by
  obtain ⟨L, h1, h2, h3, h4, h5⟩ := h
  refine (kcall_any w k K L h1 hq pid hp c hcp hl R fun w2 a f1 f2 f3 f4 f5 => hans L w2 a f3 (h3.frame f1 (fun e => e)) (h5 _ h4).1 (fun e => by have := (h5 _ h4).2; omega) f4 f5).mono ?_
  rintro e w' ⟨rfl, L', g1, g2, g3, g4⟩
  refine ⟨rfl, ⟨L', g1, hM g1.live, h3.frame g3 (fun e => e (h5 _ h4).1), h4, fun b hb => ⟨?_, Nat.lt_of_lt_of_le (h5 b hb).2 g3.size⟩⟩, g3.mono fun b _ e x => e (h5 b x).1⟩
  by_cases e : L'.o b = none
  · exact e
  · rcases g4 b e with x | x
    · exact absurd (h5 b hb).1 x
    · have := (h5 b hb).2; omega
theorem lives_pid {pid : Int} (hl : livesB K pid = true) : 1 ≤ pid.toNat ∧ pid.toNat ≤ K.qn ∧ (pid.toNat : Int) = pid := by
  unfold livesB at hl
  simp at hl
  omega
end
theorem dup_at {A : Nat → Prop} {w : World} {k : Nat} {K : KQ} {N : Nat} (h : KAt A w k K N) (hN : N + 4 ≤ 1000000) (pid : Int) (hp : -9223372036854775808 ≤ pid ∧ pid ≤ 9223372036854775807) (c : SysQ) (hcp : c.p.oneCell' = true) (hno : c.no = 5) (hl : livesB K pid = true) :
    Calls Tryz.prog 7 #[ptrAt k, .int .i64 pid, sysV c] w (CallPost A w k (false, dupQ K pid.toNat true c.a c.b) (N + 2)) := by
  obtain ⟨p1, p2, _⟩ := lives_pid hl
  have hok := h.ok
  refine call_at h (Nat.le_trans p1 p2) pid hp c hcp hl (false, dupQ K pid.toNat true c.a c.b) (N + 2) (fun hv => hok.dupQ p1 p2 true c.a c.b hv) fun L w2 a f1 f2 f3 f4 f5 f6 => ?_
  exact err_done (ans_dup w2 k K L f1 (L.qb pid.toNat) a c noResV f5 hno (ErrR w2 k K L pid.toNat a c (dupQ K pid.toNat true c.a c.b)) ErrR.ask ((adup_any w2 k K L f1 N hok (by omega) pid.toNat p1 p2 a c f5 f6 true).mono fun e w' hx => hx.errR))
theorem dup2_at {A : Nat → Prop} {w : World} {k : Nat} {K : KQ} {N : Nat} (h : KAt A w k K N) (hN : N + 4 ≤ 1000000) (pid : Int) (hp : -9223372036854775808 ≤ pid ∧ pid ≤ 9223372036854775807) (c : SysQ) (hcp : c.p.oneCell' = true) (hno : c.no = 6) (hl : livesB K pid = true) :
    Calls Tryz.prog 7 #[ptrAt k, .int .i64 pid, sysV c] w (CallPost A w k (false, dupQ K pid.toNat false c.a c.b) (N + 2)) := by
  obtain ⟨p1, p2, _⟩ := lives_pid hl
  have hok := h.ok
  refine call_at h (Nat.le_trans p1 p2) pid hp c hcp hl (false, dupQ K pid.toNat false c.a c.b) (N + 2) (fun hv => hok.dupQ p1 p2 false c.a c.b hv) fun L w2 a f1 f2 f3 f4 f5 f6 => ?_
  exact err_done (ans_dup2 w2 k K L f1 (L.qb pid.toNat) a c noResV f5 hno (ErrR w2 k K L pid.toNat a c (dupQ K pid.toNat false c.a c.b)) ErrR.ask ((adup_any w2 k K L f1 N hok (by omega) pid.toNat p1 p2 a c f5 f6 false).mono fun e w' hx => hx.errR))
theorem pipe_at {A : Nat → Prop} {w : World} {k : Nat} {K : KQ} {N : Nat} (h : KAt A w k K N) (hN : N + 4 ≤ 1000000) (pid : Int) (hp : -9223372036854775808 ≤ pid ∧ pid ≤ 9223372036854775807) (c : SysQ) (hcp : c.p.oneCell' = true) (hno : c.no = 7) (hl : livesB K pid = true) :
    Calls Tryz.prog 7 #[ptrAt k, .int .i64 pid, sysV c] w (CallPost A w k (false, pipeQ K pid.toNat) (N + 3)) := by
  obtain ⟨p1, p2, _⟩ := lives_pid hl
  have hok := h.ok
  refine call_at h (Nat.le_trans p1 p2) pid hp c hcp hl (false, pipeQ K pid.toNat) (N + 3) (fun hv => hok.pipeQ (by omega) p1 p2) fun L w2 a f1 f2 f3 f4 f5 f6 => ?_
  exact err_done (ans_pipe w2 k K L f1 (L.qb pid.toNat) a c noResV f5 hno (ErrR w2 k K L pid.toNat a c (pipeQ K pid.toNat)) ErrR.ask ((apipe_any w2 k K L f1 N hok (by omega) pid.toNat p1 p2 a c f5 f6).mono fun e w' hx => hx.errR))
theorem fork_at {A : Nat → Prop} {w : World} {k : Nat} {K : KQ} {N : Nat} (h : KAt A w k K N) (hN : N + 4 ≤ 1000000) (pid : Int) (hp : -9223372036854775808 ≤ pid ∧ pid ≤ 9223372036854775807) (c : SysQ) (hcp : c.p.oneCell' = true) (hno : c.no = 8) (hl : livesB K pid = true) :
    Calls Tryz.prog 7 #[ptrAt k, .int .i64 pid, sysV c] w (CallPost A w k (false, forkQ K pid.toNat) (N + 33)) := by
  obtain ⟨p1, p2, _⟩ := lives_pid hl
  have hok := h.ok
  refine call_at h (Nat.le_trans p1 p2) pid hp c hcp hl (false, forkQ K pid.toNat) (N + 33) (fun hv => hok.forkQ p1 p2) fun L w2 a f1 f2 f3 f4 f5 f6 => ?_
  exact err_done (ans_fork w2 k K L f1 (L.qb pid.toNat) a c noResV f5 hno (ErrR w2 k K L pid.toNat a c (forkQ K pid.toNat)) ErrR.ask ((afork_any w2 k K L f1 N hok (by omega) pid.toNat p1 p2 a c f5 f6).mono fun e w' hx => hx.errR))
theorem read_pip_at {A : Nat → Prop} {w : World} {k : Nat} {K : KQ} {N M : Nat} (h : KAt A w k K N) (hN : N + 4 ≤ 1000000) (pid : Int) (hp : -9223372036854775808 ≤ pid ∧ pid ≤ 9223372036854775807) (c : SysQ) (hcp : c.p.oneCell' = true) (hno : c.no = 1) (hl : livesB K pid = true) (hM : Live (readQ K pid.toNat c.a c.b).2.2.σ → KOk (readQ K pid.toNat c.a c.b).2.2 M) (j : Nat) (hf : fdQ K pid.toNat c.a = some j) (hb64 : -9223372036854775808 ≤ c.b ∧ c.b ≤ 9223372036854775807) (hr : (K.desc j).reads = true) (hb : 0 ≤ c.b) (hk : (K.desc j).kind = 3) :
    Calls Tryz.prog 7 #[ptrAt k, .int .i64 pid, sysV c] w (CallPost A w k (readQ K pid.toNat c.a c.b) M) := by
  obtain ⟨p1, p2, _⟩ := lives_pid hl
  have hok := h.ok
  refine call_at h (Nat.le_trans p1 p2) pid hp c hcp hl (readQ K pid.toNat c.a c.b) M hM fun L w2 a f1 f2 f3 f4 f5 f6 => ?_
  refine (ans_read w2 k K L f1 (L.qb pid.toNat) a c noResV f5 hno (fun b w' => KaskPost w2 k K L pid.toNat a c (readQ K pid.toNat c.a c.b) (.returned (.bool b)) w') ((aread_pip w2 k K L f1 N hok (by omega) pid.toNat p1 p2 a c hb64 f5 f6 j hf hr hb hk).mono fun e w' hx => ⟨(readQ K pid.toNat c.a c.b).1, hx.1, by have := hx; rw [hx.1] at this; exact this⟩)).mono ?_
  rintro e w' ⟨b, rfl, hx⟩
  exact hx
theorem write_pip_at {A : Nat → Prop} {w : World} {k : Nat} {K : KQ} {N M : Nat} (h : KAt A w k K N) (hN : N + 4 ≤ 1000000) (pid : Int) (hp : -9223372036854775808 ≤ pid ∧ pid ≤ 9223372036854775807) (c : SysQ) (hcp : c.p.oneCell' = true) (hno : c.no = 2) (hl : livesB K pid = true) (hM : Live (writeQ K pid.toNat c.a c.s).2.2.σ → KOk (writeQ K pid.toNat c.a c.s).2.2 M) (j : Nat) (hf : fdQ K pid.toNat c.a = some j) (hs : c.s.size ≤ 9223372036854775807) (hr : (K.desc j).writes = true) (hk : (K.desc j).kind = 4) (hr0 : (K.pipe (K.desc j).n).r ≠ 0) :
    Calls Tryz.prog 7 #[ptrAt k, .int .i64 pid, sysV c] w (CallPost A w k (writeQ K pid.toNat c.a c.s) M) := by
  obtain ⟨p1, p2, _⟩ := lives_pid hl
  have hok := h.ok
  refine call_at h (Nat.le_trans p1 p2) pid hp c hcp hl (writeQ K pid.toNat c.a c.s) M hM fun L w2 a f1 f2 f3 f4 f5 f6 => ?_
  refine (ans_write w2 k K L f1 (L.qb pid.toNat) a c noResV f5 hno (fun b w' => KaskPost w2 k K L pid.toNat a c (writeQ K pid.toNat c.a c.s) (.returned (.bool b)) w') ((awrite_pip w2 k K L f1 N hok (by omega) pid.toNat p1 p2 a c hs f5 f6 j hf hr hk hr0).mono fun e w' hx => ⟨(writeQ K pid.toNat c.a c.s).1, hx.1, by have := hx; rw [hx.1] at this; exact this⟩)).mono ?_
  rintro e w' ⟨b, rfl, hx⟩
  exact hx
end Go.Proofs.YtffekmjoenppaaaGreatDoor

/- What a kernel's data keep where it is read and written. No program in sight; each law's own premises. -/
namespace Go.Proofs.YtffekmjoenppaaaGreatDoor
open Go.RowKit

section
variable {K : KQ} {N : Nat}
theorem KOk.readP (h : KOk K N) {i : Nat} {a b : Int} {j : Nat} (hf : fdQ K i a = some j) (hk : (K.desc j).kind = 3) (hj : 1 ≤ j ∧ j ≤ K.dn) : KOk (readQ K i a b).2.2 N := by
  unfold readQ
  rw [hf]
  simp only
  by_cases e1 : (K.desc j).reads = false
  · rw [if_pos e1]; exact h
  rw [if_neg e1]
  by_cases e2 : b < 0
  · rw [if_pos e2]; exact h
  rw [if_neg e2, if_neg (by omega), if_neg (by omega), if_neg (by omega)]
  split
  · exact h
  · have hp := (h.desc j hj.1 hj.2).pip (.inl hk)
    have := h.pipe _ hp.1 hp.2
    refine h.setP ⟨?_, this.2.1, this.2.2⟩
    show ((K.pipe (K.desc j).n).data.drop b.toNat).length ≤ 64
    rw [List.length_drop]
    omega
theorem KOk.writeP (h : KOk K N) {i : Nat} {a : Int} {s : ByteArray} {j : Nat} (hf : fdQ K i a = some j) (hk : (K.desc j).kind = 4) (hr : (K.pipe (K.desc j).n).r ≠ 0) (hj : 1 ≤ j ∧ j ≤ K.dn) : KOk (writeQ K i a s).2.2 N := by
  unfold writeQ
  rw [hf]
  simp only
  by_cases e1 : (K.desc j).writes = false
  · rw [if_pos e1]; exact h
  rw [if_neg e1, if_neg (by omega), if_neg (by omega), if_neg hr]
  split
  · exact h
  · have hp := (h.desc j hj.1 hj.2).pip (.inr hk)
    have := h.pipe _ hp.1 hp.2
    refine h.setP ⟨?_, this.2.1, this.2.2⟩
    show ((K.pipe (K.desc j).n).data ++ s.data.toList.take (64 - (K.pipe (K.desc j).n).data.length)).length ≤ 64
    rw [List.length_append, List.length_take]
    omega
end
end Go.Proofs.YtffekmjoenppaaaGreatDoor

/- What shyardlaw12.awake comes to, as plain data. No program in sight; no condition. -/
namespace Go.Proofs.YtffekmjoenppaaaGreatDoor
open Go.RowKit

theorem conD_ok {K : KQ} {N n : Nat} (hn : n ≤ 2) : DescOk K (N + 1) { conD n with refs := 1, inn := true } :=
  ⟨⟨by show 1 ≤ 1; decide, by show 1 ≤ 5; decide⟩, fun _ => hn, fun e => (by cases e), fun e => (by rcases e with e | e <;> cases e), by show n ≤ _; omega, fun _ => Nat.zero_le _, by show 0 < 64; decide, ⟨by show (1 : Int) ≤ _; omega, by show -_ ≤ (1 : Int); omega⟩, Nat.zero_le _⟩
theorem heldK_ok : KOk heldK 2 :=
  ⟨fun i fd j x h1 h2 e => by
      have e : (if i = 0 + 1 then proc1 else noProc).fds fd = some (j, x) := e
      split at e <;> (cases e; done),
    fun j h1 h2 => by have h2 : j ≤ 0 := h2; omega,
    fun i h1 h2 => by
      have h2 : i ≤ 1 := h2
      have e : heldK.proc i = proc1 := if_pos (show i = 0 + 1 by omega)
      rw [e]
      exact ⟨by show 1 ≤ _; decide, by show 18 ≤ 511; decide, by show 1 ≤ 2; decide, by show _ ≤ (0 : Int) ∧ (0 : Int) ≤ _; decide⟩,
    fun i h1 h2 => by have h2 : i ≤ 0 := h2; omega, by show 0 ≤ 2; decide, by show 0 ≤ 2; decide, by show 1 ≤ 2; decide, (Good.new.hold 1).good (Good.new.live.hold 1), by show 0 ≤ 4096; decide⟩
theorem newK_ok : KOk newK 5 := by
  have h1 := heldK_ok.openQ (i := 1) (Nat.le_refl _) (Nat.le_refl _) (conD_ok (n := 0) (by decide))
  have h2 := h1.openQ (i := 1) (Nat.le_refl _) (Nat.le_refl _) (conD_ok (n := 1) (by decide))
  exact h2.openQ (i := 1) (Nat.le_refl _) (Nat.le_refl _) (conD_ok (n := 2) (by decide))
def hiB : ByteArray := ⟨#[104, 105]⟩
def ka2 : KQ := (pipeQ newK 1).2
def ka3 : KQ := (forkQ ka2 1).2
def ka4 : KQ := (writeQ ka3 2 4 hiB).2.2
def ka5 : KQ := (readQ ka4 1 3 9).2.2
set_option maxRecDepth 100000 in
theorem kawk_1 : (pipeQ newK 1).1 = { noRes with n := 3, m := 4 } := by kernel_rfl
set_option maxRecDepth 100000 in
theorem kawk_2 : (forkQ ka2 1).1 = { noRes with n := 2 } := by kernel_rfl
set_option maxRecDepth 100000 in
theorem kawk_3 : (writeQ ka3 2 4 hiB).1 = false ∧ (writeQ ka3 2 4 hiB).2.1 = { noRes with n := 2 } := ⟨by kernel_rfl, by kernel_rfl⟩
set_option maxRecDepth 100000 in
theorem kawk_4 : (readQ ka4 1 3 9).1 = false ∧ (readQ ka4 1 3 9).2.1 = { noRes with s := hiB } := ⟨by kernel_rfl, by kernel_rfl⟩
set_option maxRecDepth 100000 in
theorem kawk_5 : (readQ ka5 1 3 9).1 = true := by kernel_rfl
set_option maxRecDepth 100000 in
theorem kawk_l1 : livesB newK 1 = true := by kernel_rfl
set_option maxRecDepth 100000 in
theorem kawk_l2 : livesB ka2 1 = true := by kernel_rfl
set_option maxRecDepth 100000 in
theorem kawk_l3 : livesB ka3 2 = true := by kernel_rfl
set_option maxRecDepth 100000 in
theorem kawk_l4 : livesB ka4 1 = true := by kernel_rfl
set_option maxRecDepth 100000 in
theorem kawk_l5 : livesB ka5 1 = true := by kernel_rfl
set_option maxRecDepth 100000 in
theorem kawk_d3 : fdQ ka3 2 4 = some 5 ∧ (ka3.desc 5).writes = true ∧ (ka3.desc 5).kind = 4 ∧ (ka3.pipe (ka3.desc 5).n).r = 2 - 1 ∧ ka3.dn = 5 := ⟨by kernel_rfl, by kernel_rfl, by kernel_rfl, by kernel_rfl, by kernel_rfl⟩
set_option maxRecDepth 100000 in
theorem kawk_d4 : fdQ ka4 1 3 = some 4 ∧ (ka4.desc 4).reads = true ∧ (ka4.desc 4).kind = 3 ∧ ka4.dn = 5 := ⟨by kernel_rfl, by kernel_rfl, by kernel_rfl, by kernel_rfl⟩
set_option maxRecDepth 100000 in
theorem kawk_d5 : fdQ ka5 1 3 = some 4 ∧ (ka5.desc 4).reads = true ∧ (ka5.desc 4).kind = 3 ∧ ka5.dn = 5 := ⟨by kernel_rfl, by kernel_rfl, by kernel_rfl, by kernel_rfl⟩
end Go.Proofs.YtffekmjoenppaaaGreatDoor

/- shyardlaw12.awake. Conditions: the contract's own premises. -/
namespace Go.Proofs.YtffekmjoenppaaaGreatDoor
open Go.RowKit

attribute [local go_sem] Oper.semAt_some

theorem call_lit {A : Nat → Prop} {w : World} {k : Nat} {R : Bool × ResQ × KQ} {M : Nat} {args : Array Value} {v : Value} {K' : KQ} (h : Calls Tryz.prog 7 args w (CallPost A w k R M)) (hv : Value.tuple #[resVal (if R.1 = true then noResV else resV R.2.1), .bool R.1] = v) (hK : R.2.2 = K') :
    Calls Tryz.prog 7 args w fun e w' => e = .returned v ∧ KAt A w' k K' M ∧ Fr (fun b => ¬ A b) w w' :=
  h.mono fun e w' ⟨h1, h2, h3⟩ => ⟨by rw [h1, hv], by rw [← hK]; exact h2, h3⟩
theorem knew_at (w : World) (hml : Ml w) : Calls Tryz.prog 6 #[] w fun e w' => ∃ k, e = .returned (.pointer (some ⟨k, 0, none⟩)) ∧ KAt (fun b => b < w.heap.size) w' k newK 5 ∧ Fr (fun _ => False) w w' := by
  refine (knew_any w).mono ?_
  rintro e w' ⟨k, L, rfl, h1, h2, h3⟩
  have hg : glB < w.heap.size := by obtain ⟨m, hm⟩ := hml; exact World.block_lt_of_cell? _ _ hm
  refine ⟨k, rfl, ⟨L, h1, newK_ok, hml.frame h2 (fun e => e), hg, fun b hb => ⟨?_, Nat.lt_of_lt_of_le hb h2.size⟩⟩, h2⟩
  by_cases e : L.o b = none
  · exact e
  · have := h3 b e; omega
def AL (z : Nat) (l : List Nat) : Nat → Prop := fun b => b < z ∨ b ∈ l
section
variable {z : Nat} {l : List Nat} {W W' : World} {k : Nat} {K : KQ} {N : Nat}
theorem KAt.push (h : KAt (AL z l) W k K N) (o : Obj) : KAt (AL z (W.heap.size :: l)) (W.alloc o) k K N :=
  h.more ((Fr.refl _ _).alloc o) (fun b e => by
    rcases e with e | e
    · exact .inl (.inl e)
    · rcases List.mem_cons.1 e with e | e
      · exact .inr ⟨by omega, by simp; omega⟩
      · exact .inl (.inr e)) (by
    obtain ⟨_, _, _, _, hg, _⟩ := h
    exact hg.imp id (List.mem_cons_of_mem _))
theorem al_get (hf : Fr (fun b => ¬ AL z l b) W W') {b : Nat} {o : Obj} (hb : W.heap[b]? = some o) (h : b ∈ l) : W'.heap[b]? = some o := hf.get hb (fun e => e (.inr h))
theorem al_fr {w : World} {S : Nat → Prop} (h : Fr S w W) (hf : Fr (fun b => ¬ AL w.heap.size l b) W W') : Fr S w W' := h.trans' hf fun _ hb e => absurd (.inl hb) e
end
def sq (no a b : Int) (s : ByteArray) : SysQ := ⟨no, a, b, s, noBy, .slice none 0 0⟩
set_option maxRecDepth 100000 in
set_option maxHeartbeats 1000000 in
theorem awake12_any (w : World) (hml : Ml w) : Calls Tryz.prog 5 #[] w fun e w' => e = .returned (.bool true) ∧ Fr (fun _ => False) w w' := by
  have hnew := hide (knew_at w hml)
  go_enter Tryz.func5, Tryz.ntmps5
  go_wp2_with fail
  refine hnew.out.mono ?_
  rintro e W1 ⟨k, rfl, hk1, hF1⟩
  have hk1 : KAt (AL w.heap.size []) W1 k newK 5 := hk1.more (Fr.refl _ _) (fun b e => e.elim .inl (fun e => by cases e)) (.inl (by obtain ⟨m, hm⟩ := hml; exact World.block_lt_of_cell? _ _ hm))
  clear hnew
  have hc1 := call_lit (pipe_at hk1 (by decide) 1 (by decide) (sq 7 0 0 noBy) rfl rfl kawk_l1) (v := .tuple #[.agg #[.int .i64 3, .int .i64 4, .string ⟨#[]⟩, .slice none 0 0, .int .i64 0, .int .i64 0, .int .i64 0, .int .i64 0, .int .i64 0, .int .i64 0], .bool false]) (K' := ka2) (by
    rw [show ((false, pipeQ newK (1 : Int).toNat) : Bool × ResQ × KQ).2.1 = { noRes with n := 3, m := 4 } from kawk_1]; rfl) rfl
  have Hc1 := hide hc1
  unfold sysV sq ptrAt noBy at Hc1
  have HF1 := hide hF1
  clear hc1 hk1 hF1
  go_wp2_with fail
  refine Hc1.out.mono ?_
  rintro e w2 ⟨rfl, hk2, hf2⟩
  obtain ⟨W2, hW2⟩ : ∃ W, W = w2.alloc (.cells #[.int .i64 3, .int .i64 4, .string ⟨#[]⟩, .slice none 0 0, .int .i64 0, .int .i64 0, .int .i64 0, .int .i64 0, .int .i64 0, .int .i64 0] 31 (0, 0)) := ⟨_, rfl⟩
  have hF2 : Fr (fun _ => False) w W2 := by rw [hW2]; exact (al_fr HF1.out hf2).alloc _
  have hb1 : W2.heap[w2.heap.size]? = some (.cells #[.int .i64 3, .int .i64 4, .string ⟨#[]⟩, .slice none 0 0, .int .i64 0, .int .i64 0, .int .i64 0, .int .i64 0, .int .i64 0, .int .i64 0] 31 (0, 0)) := by rw [hW2]; exact blk_new _ _
  have hk2 := hk2.push (.cells #[.int .i64 3, .int .i64 4, .string ⟨#[]⟩, .slice none 0 0, .int .i64 0, .int .i64 0, .int .i64 0, .int .i64 0, .int .i64 0, .int .i64 0] 31 (0, 0))
  rw [← hW2] at hk2
  have HWW2 := hide hW2
  clear hW2 hf2 Hc1 HF1
  have hc2 := call_lit (fork_at hk2 (by decide) 1 (by decide) (sq 8 0 0 noBy) rfl rfl kawk_l2) (v := .tuple #[.agg #[.int .i64 2, .int .i64 0, .string ⟨#[]⟩, .slice none 0 0, .int .i64 0, .int .i64 0, .int .i64 0, .int .i64 0, .int .i64 0, .int .i64 0], .bool false]) (K' := ka3) (by
    rw [show ((false, forkQ ka2 (1 : Int).toNat) : Bool × ResQ × KQ).2.1 = { noRes with n := 2 } from kawk_2]; rfl) rfl
  have Hc2 := hide hc2
  unfold sysV sq ptrAt noBy at Hc2
  have Hb1 := hide hb1
  have HF2 := hide hF2
  clear hc2 hk2 hF2 hb1
  go_wp2_with fail
  rw [← HWW2.out]
  refine Hc2.out.mono ?_
  rintro e w3 ⟨rfl, hk3, hf3⟩
  obtain ⟨W3, hW3⟩ : ∃ W, W = w3.alloc (.cells #[.int .i64 2, .int .i64 0, .string ⟨#[]⟩, .slice none 0 0, .int .i64 0, .int .i64 0, .int .i64 0, .int .i64 0, .int .i64 0, .int .i64 0] 31 (0, 0)) := ⟨_, rfl⟩
  have hF3 : Fr (fun _ => False) w W3 := by rw [hW3]; exact (al_fr HF2.out hf3).alloc _
  have hb1 := blk_alloc (al_get hf3 Hb1.out (by simp)) (.cells #[.int .i64 2, .int .i64 0, .string ⟨#[]⟩, .slice none 0 0, .int .i64 0, .int .i64 0, .int .i64 0, .int .i64 0, .int .i64 0, .int .i64 0] 31 (0, 0))
  rw [← hW3] at hb1
  have hb2 : W3.heap[w3.heap.size]? = some (.cells #[.int .i64 2, .int .i64 0, .string ⟨#[]⟩, .slice none 0 0, .int .i64 0, .int .i64 0, .int .i64 0, .int .i64 0, .int .i64 0, .int .i64 0] 31 (0, 0)) := by rw [hW3]; exact blk_new _ _
  have hk3 := hk3.push (.cells #[.int .i64 2, .int .i64 0, .string ⟨#[]⟩, .slice none 0 0, .int .i64 0, .int .i64 0, .int .i64 0, .int .i64 0, .int .i64 0, .int .i64 0] 31 (0, 0))
  rw [← hW3] at hk3
  have HWW3 := hide hW3
  clear hW3 hf3 Hc2 HF2 Hb1 HWW2
  have hc3 := call_lit (write_pip_at (M := 41) hk3 (by decide) 2 (by decide) (sq 2 4 0 hiB) rfl rfl kawk_l3 (fun _ => hk3.ok.writeP kawk_d3.1 kawk_d3.2.2.1 (by rw [kawk_d3.2.2.2.1]; decide) ⟨by decide, by rw [kawk_d3.2.2.2.2]; decide⟩) 5 kawk_d3.1 (by decide) kawk_d3.2.1 kawk_d3.2.2.1 (by rw [kawk_d3.2.2.2.1]; decide)) (v := .tuple #[.agg #[.int .i64 2, .int .i64 0, .string ⟨#[]⟩, .slice none 0 0, .int .i64 0, .int .i64 0, .int .i64 0, .int .i64 0, .int .i64 0, .int .i64 0], .bool false]) (K' := ka4) (by
    rw [show (writeQ ka3 (2 : Int).toNat (sq 2 4 0 hiB).a (sq 2 4 0 hiB).s).1 = false from kawk_3.1, show (writeQ ka3 (2 : Int).toNat (sq 2 4 0 hiB).a (sq 2 4 0 hiB).s).2.1 = { noRes with n := 2 } from kawk_3.2]; rfl) rfl
  have Hc3 := hide hc3
  unfold sysV sq ptrAt noBy hiB at Hc3
  have Hb1 := hide hb1
  have Hb2 := hide hb2
  have HF3 := hide hF3
  clear hc3 hk3 hF3 hb1 hb2
  go_wp2_with fail
  rw [← HWW3.out]
  refine Hc3.out.mono ?_
  rintro e w4 ⟨rfl, hk4, hf4⟩
  obtain ⟨W4, hW4⟩ : ∃ W, W = w4.alloc (.cells #[.int .i64 2, .int .i64 0, .string ⟨#[]⟩, .slice none 0 0, .int .i64 0, .int .i64 0, .int .i64 0, .int .i64 0, .int .i64 0, .int .i64 0] 31 (0, 0)) := ⟨_, rfl⟩
  have hF4 : Fr (fun _ => False) w W4 := by rw [hW4]; exact (al_fr HF3.out hf4).alloc _
  have hb1 := blk_alloc (al_get hf4 Hb1.out (by simp)) (.cells #[.int .i64 2, .int .i64 0, .string ⟨#[]⟩, .slice none 0 0, .int .i64 0, .int .i64 0, .int .i64 0, .int .i64 0, .int .i64 0, .int .i64 0] 31 (0, 0))
  rw [← hW4] at hb1
  have hb2 := blk_alloc (al_get hf4 Hb2.out (by simp)) (.cells #[.int .i64 2, .int .i64 0, .string ⟨#[]⟩, .slice none 0 0, .int .i64 0, .int .i64 0, .int .i64 0, .int .i64 0, .int .i64 0, .int .i64 0] 31 (0, 0))
  rw [← hW4] at hb2
  have hb3 : W4.heap[w4.heap.size]? = some (.cells #[.int .i64 2, .int .i64 0, .string ⟨#[]⟩, .slice none 0 0, .int .i64 0, .int .i64 0, .int .i64 0, .int .i64 0, .int .i64 0, .int .i64 0] 31 (0, 0)) := by rw [hW4]; exact blk_new _ _
  have hk4 := hk4.push (.cells #[.int .i64 2, .int .i64 0, .string ⟨#[]⟩, .slice none 0 0, .int .i64 0, .int .i64 0, .int .i64 0, .int .i64 0, .int .i64 0, .int .i64 0] 31 (0, 0))
  rw [← hW4] at hk4
  have HWW4 := hide hW4
  clear hW4 hf4 Hc3 HF3 Hb1 Hb2 HWW3
  have hc4 := call_lit (read_pip_at (M := 41) hk4 (by decide) 1 (by decide) (sq 1 3 9 noBy) rfl rfl kawk_l4 (fun _ => hk4.ok.readP kawk_d4.1 kawk_d4.2.2.1 ⟨by decide, by rw [kawk_d4.2.2.2]; decide⟩) 4 kawk_d4.1 (by decide) kawk_d4.2.1 (by decide) kawk_d4.2.2.1) (v := .tuple #[.agg #[.int .i64 0, .int .i64 0, .string ⟨#[104, 105]⟩, .slice none 0 0, .int .i64 0, .int .i64 0, .int .i64 0, .int .i64 0, .int .i64 0, .int .i64 0], .bool false]) (K' := ka5) (by
    rw [show (readQ ka4 (1 : Int).toNat (sq 1 3 9 noBy).a (sq 1 3 9 noBy).b).1 = false from kawk_4.1, show (readQ ka4 (1 : Int).toNat (sq 1 3 9 noBy).a (sq 1 3 9 noBy).b).2.1 = { noRes with s := hiB } from kawk_4.2]; rfl) rfl
  have Hc4 := hide hc4
  unfold sysV sq ptrAt noBy at Hc4
  have Hb1 := hide hb1
  have Hb2 := hide hb2
  have Hb3 := hide hb3
  have HF4 := hide hF4
  clear hc4 hk4 hF4 hb1 hb2 hb3
  go_wp2_with fail
  rw [← HWW4.out]
  refine Hc4.out.mono ?_
  rintro e w5 ⟨rfl, hk5, hf5⟩
  obtain ⟨W5, hW5⟩ : ∃ W, W = w5.alloc (.cells #[.int .i64 0, .int .i64 0, .string ⟨#[104, 105]⟩, .slice none 0 0, .int .i64 0, .int .i64 0, .int .i64 0, .int .i64 0, .int .i64 0, .int .i64 0] 31 (0, 0)) := ⟨_, rfl⟩
  have hF5 : Fr (fun _ => False) w W5 := by rw [hW5]; exact (al_fr HF4.out hf5).alloc _
  have hb1 := blk_alloc (al_get hf5 Hb1.out (by simp)) (.cells #[.int .i64 0, .int .i64 0, .string ⟨#[104, 105]⟩, .slice none 0 0, .int .i64 0, .int .i64 0, .int .i64 0, .int .i64 0, .int .i64 0, .int .i64 0] 31 (0, 0))
  rw [← hW5] at hb1
  have hb2 := blk_alloc (al_get hf5 Hb2.out (by simp)) (.cells #[.int .i64 0, .int .i64 0, .string ⟨#[104, 105]⟩, .slice none 0 0, .int .i64 0, .int .i64 0, .int .i64 0, .int .i64 0, .int .i64 0, .int .i64 0] 31 (0, 0))
  rw [← hW5] at hb2
  have hb3 := blk_alloc (al_get hf5 Hb3.out (by simp)) (.cells #[.int .i64 0, .int .i64 0, .string ⟨#[104, 105]⟩, .slice none 0 0, .int .i64 0, .int .i64 0, .int .i64 0, .int .i64 0, .int .i64 0, .int .i64 0] 31 (0, 0))
  rw [← hW5] at hb3
  have hb4 : W5.heap[w5.heap.size]? = some (.cells #[.int .i64 0, .int .i64 0, .string ⟨#[104, 105]⟩, .slice none 0 0, .int .i64 0, .int .i64 0, .int .i64 0, .int .i64 0, .int .i64 0, .int .i64 0] 31 (0, 0)) := by rw [hW5]; exact blk_new _ _
  have hk5 := hk5.push (.cells #[.int .i64 0, .int .i64 0, .string ⟨#[104, 105]⟩, .slice none 0 0, .int .i64 0, .int .i64 0, .int .i64 0, .int .i64 0, .int .i64 0, .int .i64 0] 31 (0, 0))
  rw [← hW5] at hk5
  have HWW5 := hide hW5
  clear hW5 hf5 Hc4 HF4 Hb1 Hb2 Hb3 HWW4
  have hc5 := call_lit (read_pip_at (M := 41) hk5 (by decide) 1 (by decide) (sq 1 3 9 noBy) rfl rfl kawk_l5 (fun _ => hk5.ok.readP kawk_d5.1 kawk_d5.2.2.1 ⟨by decide, by rw [kawk_d5.2.2.2]; decide⟩) 4 kawk_d5.1 (by decide) kawk_d5.2.1 (by decide) kawk_d5.2.2.1) (v := .tuple #[.agg #[.int .i64 0, .int .i64 0, .string ⟨#[]⟩, .slice none 0 0, .int .i64 0, .int .i64 0, .int .i64 0, .int .i64 0, .int .i64 0, .int .i64 0], .bool true]) (K' := (readQ ka5 1 3 9).2.2) (by
    rw [show (readQ ka5 (1 : Int).toNat (sq 1 3 9 noBy).a (sq 1 3 9 noBy).b).1 = true from kawk_5]; rfl) rfl
  have Hc5 := hide hc5
  unfold sysV sq ptrAt noBy at Hc5
  have Hb1 := hide hb1
  have Hb2 := hide hb2
  have Hb3 := hide hb3
  have Hb4 := hide hb4
  have HF5 := hide hF5
  clear hc5 hk5 hF5 hb1 hb2 hb3 hb4
  go_wp2_with fail
  rw [← HWW5.out]
  refine Hc5.out.mono ?_
  rintro e w6 ⟨rfl, hk6, hf6⟩
  obtain ⟨W6, hW6⟩ : ∃ W, W = w6.alloc (.cells #[.int .i64 0, .int .i64 0, .string ⟨#[]⟩, .slice none 0 0, .int .i64 0, .int .i64 0, .int .i64 0, .int .i64 0, .int .i64 0, .int .i64 0] 31 (0, 0)) := ⟨_, rfl⟩
  have hF6 : Fr (fun _ => False) w W6 := by rw [hW6]; exact (al_fr HF5.out hf6).alloc _
  have hb1 := blk_alloc (al_get hf6 Hb1.out (by simp)) (.cells #[.int .i64 0, .int .i64 0, .string ⟨#[]⟩, .slice none 0 0, .int .i64 0, .int .i64 0, .int .i64 0, .int .i64 0, .int .i64 0, .int .i64 0] 31 (0, 0))
  rw [← hW6] at hb1
  have hb2 := blk_alloc (al_get hf6 Hb2.out (by simp)) (.cells #[.int .i64 0, .int .i64 0, .string ⟨#[]⟩, .slice none 0 0, .int .i64 0, .int .i64 0, .int .i64 0, .int .i64 0, .int .i64 0, .int .i64 0] 31 (0, 0))
  rw [← hW6] at hb2
  have hb3 := blk_alloc (al_get hf6 Hb3.out (by simp)) (.cells #[.int .i64 0, .int .i64 0, .string ⟨#[]⟩, .slice none 0 0, .int .i64 0, .int .i64 0, .int .i64 0, .int .i64 0, .int .i64 0, .int .i64 0] 31 (0, 0))
  rw [← hW6] at hb3
  have hb4 := blk_alloc (al_get hf6 Hb4.out (by simp)) (.cells #[.int .i64 0, .int .i64 0, .string ⟨#[]⟩, .slice none 0 0, .int .i64 0, .int .i64 0, .int .i64 0, .int .i64 0, .int .i64 0, .int .i64 0] 31 (0, 0))
  rw [← hW6] at hb4
  have hb5 : W6.heap[w6.heap.size]? = some (.cells #[.int .i64 0, .int .i64 0, .string ⟨#[]⟩, .slice none 0 0, .int .i64 0, .int .i64 0, .int .i64 0, .int .i64 0, .int .i64 0, .int .i64 0] 31 (0, 0)) := by rw [hW6]; exact blk_new _ _
  have hk6 := hk6.push (.cells #[.int .i64 0, .int .i64 0, .string ⟨#[]⟩, .slice none 0 0, .int .i64 0, .int .i64 0, .int .i64 0, .int .i64 0, .int .i64 0, .int .i64 0] 31 (0, 0))
  rw [← hW6] at hk6
  have HWW6 := hide hW6
  clear hW6 hf6 Hc5 HF5 Hb1 Hb2 Hb3 Hb4 HWW5
  have a1 : W6.cell? ⟨w2.heap.size, 0, none⟩ = some (.int .i64 3) := by rw [blk_cell hb1]; rfl
  have a2 : W6.cell? ⟨w2.heap.size, 1, none⟩ = some (.int .i64 4) := by rw [blk_cell hb1]; rfl
  have a3 : W6.cell? ⟨w3.heap.size, 0, none⟩ = some (.int .i64 2) := by rw [blk_cell hb2]; rfl
  have a4 : W6.cell? ⟨w4.heap.size, 0, none⟩ = some (.int .i64 2) := by rw [blk_cell hb3]; rfl
  have a5 : W6.cell? ⟨w5.heap.size, 2, none⟩ = some (.string ⟨#[104, 105]⟩) := by rw [blk_cell hb4]; rfl
  rw [HWW6.out] at a1 a2 a3 a4 a5
  have HF6 := hide hF6
  clear hb1 hb2 hb3 hb4 hb5 hk6 hF6
  go_wp2_with fail
  rw [← HWW6.out]
  go_ret
  exact ⟨rfl, HF6.out⟩
end Go.Proofs.YtffekmjoenppaaaGreatDoor
