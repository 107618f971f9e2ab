/- What a process's own calls leave of the others. No program in sight; no condition. -/
import Derived.Test.YtffekmjoenppaaaGreatDoorKerExec
import Derived.Test.YtffekmjoenppaaaGreatDoorKerPlace
import Derived.Test.YtffekmjoenppaaaGreatDoorKerAwake
import Derived.Test.YtffekmjoenppaaaGreatDoorKerAnsB
namespace Go.Proofs.YtffekmjoenppaaaGreatDoor
open Go.RowKit

/-- The others' processes are as they were. -/
structure Keeps (i : Nat) (K K' : KQ) : Prop where
  qn : K'.qn = K.qn
  proc : ∀ j, j ≠ i → K'.proc j = K.proc j
  inn : (K'.proc i).inn = (K.proc i).inn
  ended : (K'.proc i).ended = (K.proc i).ended
section
variable {i : Nat} {K K1 K2 : KQ}
theorem Keeps.refl (i : Nat) (K : KQ) : Keeps i K K := ⟨rfl, fun _ _ => rfl, rfl, rfl⟩
theorem Keeps.trans (h : Keeps i K K1) (h2 : Keeps i K1 K2) : Keeps i K K2 := ⟨h2.qn.trans h.qn, fun j e => (h2.proc j e).trans (h.proc j e), h2.inn.trans h.inn, h2.ended.trans h.ended⟩
theorem Keeps.of (h1 : K1.qn = K.qn) (h2 : K1.proc = K.proc) : Keeps i K K1 := ⟨h1, fun j _ => by rw [h2], by rw [h2], by rw [h2]⟩
theorem keeps_setQ {q : ProcQ} (h1 : q.inn = (K.proc i).inn) (h2 : q.ended = (K.proc i).ended) : Keeps i K (K.setQ i q) :=
  ⟨rfl, fun j e => if_neg e, by show (if i = i then q else K.proc i).inn = _; rw [if_pos rfl, h1], by show (if i = i then q else K.proc i).ended = _; rw [if_pos rfl, h2]⟩
theorem keeps_fds (t : TSt) : Keeps i K (K.fds i t) := keeps_setQ rfl rfl
theorem keeps_setD (j : Nat) (d : DescQ) : Keeps i K (K.setD j d) := .of rfl rfl
theorem keeps_σ (σ : FSt) : Keeps i K { K with σ := σ } := .of rfl rfl
theorem keeps_drop (j : Nat) : Keeps i K (dropQ K j) := .of (dropQ_pn K j).2.2 (dropQ_proc K j)
theorem keeps_drops : ∀ (l : List Nat) (K : KQ), Keeps i K (l.foldl dropQ K)
  | [], K => .refl i K
  | j :: l, K => (keeps_drop j).trans (keeps_drops l (dropQ K j))
theorem keeps_open (d : DescQ) : Keeps i K (openQ K i d).2 := by
  unfold openQ
  split
  · exact .of rfl rfl
  · exact (Keeps.of (i := i) (K := K) (K1 := K.addD { d with refs := 1, inn := true }) rfl rfl).trans (keeps_fds (i := i) _)
theorem keeps_close (fa : Int) : Keeps i K (closeQ K i fa).2 := by
  unfold closeQ
  split
  · exact .refl i K
  · exact (keeps_fds _).trans (keeps_drop _)
theorem keeps_name (fd j : Nat) : Keeps i K (nameQ K i fd j) := keeps_fds _
theorem keeps_more (j : Nat) : Keeps i K (moreQ K j) := keeps_setD _ _
theorem keeps_dup (least : Bool) (fa fb : Int) : Keeps i K (dupQ K i least fa fb).2 := by
  unfold dupQ
  split
  · exact .refl i K
  · split
    · split
      · exact .refl i K
      · split
        · exact .refl i K
        · exact (keeps_name _ _).trans (keeps_more _)
    · split
      · exact .refl i K
      · split
        · exact .refl i K
        · split
          · exact (keeps_more _).trans (keeps_name _ _)
          · exact ((keeps_more _).trans (keeps_name _ _)).trans (keeps_drop _)
theorem keeps_pipe : Keeps i K (pipeQ K i).2 := by
  unfold pipeQ
  split
  · exact .refl i K
  · exact ((Keeps.of (i := i) (K := K) (K1 := K.addP pipe0) rfl rfl).trans (keeps_open _)).trans (keeps_open _)
theorem keeps_exec : Keeps i K (execQ K i).2 := (keeps_fds _).trans (keeps_drops _ _)
theorem keeps_mask (m : Int) : Keeps i K (maskQ K i m).2 := keeps_setQ rfl rfl
theorem keeps_mark (fa : Int) (m : Bool) : Keeps i K (markQ K i fa m).2 := by
  unfold markQ
  split
  · exact .refl i K
  · exact keeps_fds _
theorem keeps_text (s : ByteArray) : Keeps i K (textQ K i s).2 := by
  unfold textQ
  split
  · exact .refl i K
  · exact keeps_open _
theorem keeps_chdir (s : ByteArray) : Keeps i K (chdirQ K i s).2 := by
  unfold chdirQ chdirW
  split
  · exact .refl i K
  · split
    · exact .refl i K
    · split
      · exact .refl i K
      · exact (keeps_σ (i := i) (K := K) (dropR (holdR K.σ (walkE K.σ (K.proc i).dir s.data.toList).2).2 (K.proc i).dir).2).trans (keeps_setQ rfl rfl)
theorem Keeps.lives (h : Keeps i K K1) (j : Nat) : livesB K1 j = livesB K j := by
  unfold livesB
  rw [h.qn]
  by_cases e : j = i
  · subst e
    simp only [Int.toNat_natCast]
    simp only [h.inn, h.ended]
  · simp only [Int.toNat_natCast]
    simp only [h.proc j e]
end
end Go.Proofs.YtffekmjoenppaaaGreatDoor

/- More calls of a kernel beside its caller's own blocks. Conditions: each law's own premises. -/
namespace Go.Proofs.YtffekmjoenppaaaGreatDoor
open Go.RowKit

section
variable {K : KQ} {N : Nat}
theorem KOk.closeQ (h : KOk K N) {i : Nat} (h1 : 1 ≤ i) (h2 : i ≤ K.qn) (fa : Int) (hl : Live (closeQ K i fa).2.σ) : KOk (closeQ K i fa).2 (N + 1) := by
  unfold Go.Proofs.YtffekmjoenppaaaGreatDoor.closeQ at hl ⊢
  cases hf : fdQ K i fa with
  | none => exact h.mono (Nat.le_succ _)
  | some j =>
    rw [hf] at hl
    have hj := fdQ_ok h.fds h1 h2 hf
    exact KOk.dropQ (h.fdsU h1 h2 (fun fd x y e => by
      unfold cutT at e
      rcases set_some e with e | e
      · by_cases e2 : inB fa = true
        · rw [if_pos e2] at e; cases e
        · rw [if_neg e2] at e; exact h.fds i _ x y h1 h2 e
      · exact h.fds i fd x y h1 h2 e)) hj.1 hj.2 hl
theorem KOk.maskQ (h : KOk K N) {i : Nat} (h1 : 1 ≤ i) (h2 : i ≤ K.qn) (m : Int) : KOk (maskQ K i m).2 N :=
  h.setQ ⟨(h.proc i h1 h2).dir, by have := modeN_lt m; show modeN m ≤ 511; omega, (h.proc i h1 h2).par, (h.proc i h1 h2).status⟩ (fun fd x y e => h.fds i fd x y h1 h2 e)
theorem KOk.markQ (h : KOk K N) {i : Nat} (h1 : 1 ≤ i) (h2 : i ≤ K.qn) (fa : Int) (m : Bool) : KOk (markQ K i fa m).2 N := by
  unfold Go.Proofs.YtffekmjoenppaaaGreatDoor.markQ
  cases ha : (K.proc i).fds.at fa with
  | none => exact h
  | some p =>
    obtain ⟨j, x⟩ := p
    have hj := fdQ_ok h.fds h1 h2 (show fdQ K i fa = some j by unfold fdQ; rw [ha]; rfl)
    exact h.fdsU h1 h2 (fun fd y z e => by
      rcases set_some e with e | e
      · cases e; exact hj
      · exact h.fds i fd y z h1 h2 e)
theorem KOk.textQ (h : KOk K N) {i : Nat} (h1 : 1 ≤ i) (h2 : i ≤ K.qn) {s : ByteArray} (hs : s.size ≤ 9223372036854775807) : KOk (textQ K i s).2 (N + 1) := by
  unfold Go.Proofs.YtffekmjoenppaaaGreatDoor.textQ
  split
  · exact h.mono (Nat.le_succ _)
  · exact h.openQ h1 h2 (d := textD s) ⟨⟨by show 1 ≤ 5; decide, by show 5 ≤ 5; decide⟩, fun e => (by cases e), fun _ => Nat.zero_le _, fun e => (by rcases e with e | e <;> cases e), by show 0 ≤ _; omega, fun e => absurd rfl e, by show 0 < 64; decide, ⟨by show (1 : Int) ≤ _; omega, by show -_ ≤ (1 : Int); omega⟩, hs⟩
theorem KOk.chdirQ (h : KOk K N) {i : Nat} (h1 : 1 ≤ i) (h2 : i ≤ K.qn) (s : ByteArray) (hl : Live (chdirQ K i s).2.σ) : KOk (chdirQ K i s).2 (N + 2) := by
  unfold Go.Proofs.YtffekmjoenppaaaGreatDoor.chdirQ chdirW at hl ⊢
  by_cases e1 : (walkE K.σ (K.proc i).dir s.data.toList).1 ≠ 0
  · rw [if_pos e1]; exact h.mono (by omega)
  · rw [if_neg e1] at hl ⊢
    by_cases e2 : (statT K.σ (walkE K.σ (K.proc i).dir s.data.toList).2).kind ≠ 2
    · rw [if_pos e2]; exact h.mono (by omega)
    · rw [if_neg e2] at hl ⊢
      by_cases e3 : mayR K.σ (walkE K.σ (K.proc i).dir s.data.toList).2 1 = false
      · rw [if_pos e3]; exact h.mono (by omega)
      · rw [if_neg e3] at hl ⊢
        have hok := walk_ok h.good.live (by simpa using e1)
        have := (FSt.nd_lt hok).2
        have := h.good.live.len
        have hh := h.σ' (h.good.hold (walkE K.σ (K.proc i).dir s.data.toList).2) (h.good.live.hold _) (Nat.le_succ N)
        have hd := hh.σ' (hh.good.drop (K.proc i).dir) hl (Nat.le_succ _)
        have hp := (h.proc i h1 h2).mono (show N ≤ N + 2 by omega)
        exact hd.setQ (q := { K.proc i with dir := (walkE K.σ (K.proc i).dir s.data.toList).2 }) ⟨by show (walkE K.σ (K.proc i).dir s.data.toList).2 ≤ _; omega, hp.mask, hp.par, hp.status⟩ (fun fd x y e => h.fds i fd x y h1 h2 e)
theorem Good.dropLive {σ : FSt} {N : Nat} (h : Good σ N) (i : Int) : Live (dropR σ i).2 := by
  unfold dropR
  cases hn : σ.ndI i with
  | none => exact h.live
  | some n =>
    obtain ⟨k, rfl, hk⟩ := ndI_some hn
    simp only
    by_cases e0 : n.holds = 0
    · rw [if_pos e0]; exact h.live
    · rw [if_neg e0, show ((k : Int)).toNat = k from rfl]
      show Live (letS (σ.put k (some { n with holds := n.holds - 1 })) k)
      have hm : Live (σ.put k (some { n with holds := n.holds - 1 })) := h.live.meta (n := n) hk rfl rfl rfl rfl rfl
      unfold letS
      rw [put_nd hk, if_pos rfl]
      simp only
      by_cases e1 : n.links = 0 ∧ n.holds - 1 = 0
      · rw [if_pos e1]
        have e : (σ.put k (some { n with holds := n.holds - 1 })).put k none = σ.put k none := by unfold FSt.put; rw [List.set_set]
        rw [e]
        exact (h.inv.free h.live hk e1.1).2
      · rw [if_neg e1]; exact hm
theorem KOk.dropQ' {K : KQ} {N : Nat} (h : KOk K N) {j : Nat} (h1 : 1 ≤ j) (h2 : j ≤ K.dn) : KOk (Go.Proofs.YtffekmjoenppaaaGreatDoor.dropQ K j) (N + 1) := by
  refine h.dropQ h1 h2 ?_
  unfold Go.Proofs.YtffekmjoenppaaaGreatDoor.dropQ
  split
  · exact h.good.live
  · split
    · exact h.good.dropLive _
    · split <;> exact h.good.live
theorem KOk.drops : ∀ (l : List Nat) {K : KQ} {N : Nat}, KOk K N → (∀ j ∈ l, 1 ≤ j ∧ j ≤ K.dn) → KOk (l.foldl Go.Proofs.YtffekmjoenppaaaGreatDoor.dropQ K) (N + l.length)
  | [], _, _, h, _ => h
  | j :: l, K, N, h, hj => by
    have h1 := h.dropQ' (hj j List.mem_cons_self).1 (hj j List.mem_cons_self).2
    have := KOk.drops l h1 (fun x hx => by rw [(dropQ_pn K j).2.1]; exact hj x (List.mem_cons_of_mem _ hx))
    exact this.mono (by simp; omega)
theorem KOk.execQ (h : KOk K N) {i : Nat} (h1 : 1 ≤ i) (h2 : i ≤ K.qn) : KOk (execQ K i).2 (N + 32) := by
  have hf : KOk (K.fds i (exSt (K.proc i).fds 32)) N := h.fdsU h1 h2 (fun fd j x e => by
    rw [exSt_eq] at e
    by_cases e1 : fd < 32
    · rw [if_pos e1] at e
      unfold exO at e
      split at e
      · cases e
      · exact h.fds i fd j x h1 h2 e
    · rw [if_neg e1] at e
      exact h.fds i fd j x h1 h2 e)
  exact (KOk.drops (exJ (K.proc i).fds 32) hf (fun j hj => by
    obtain ⟨fd, e⟩ := exJ_mem hj
    exact h.fds i fd j true h1 h2 e)).mono (by have := exJ_le (K.proc i).fds 32; omega)
end
theorem close_at {A : Nat → Prop} {w : World} {k : Nat} {K : KQ} {N : Nat} (h : KAt A w k K N) (hN : N + 4 ≤ 1000000) (pid : Int) (hp : -9223372036854775808 ≤ pid ∧ pid ≤ 9223372036854775807) (c : SysQ) (hcp : c.p.oneCell' = true) (hno : c.no = 4) (hl : livesB K pid = true) :
    Calls Tryz.prog 7 #[ptrAt k, .int .i64 pid, sysV c] w (CallPost A w k (false, closeQ K pid.toNat c.a) (N + 1)) := by
  obtain ⟨p1, p2, _⟩ := lives_pid hl
  have hok := h.ok
  refine call_at h (Nat.le_trans p1 p2) pid hp c hcp hl (false, closeQ K pid.toNat c.a) (N + 1) (fun hv => hok.closeQ p1 p2 c.a hv) fun L w2 a f1 f2 f3 f4 f5 f6 => ?_
  exact err_done (ans_close w2 k K L f1 (L.qb pid.toNat) a c noResV f5 hno (ErrR w2 k K L pid.toNat a c (closeQ K pid.toNat c.a)) ErrR.ask ((aown_close w2 k K L f1 N hok (by omega) pid.toNat p1 p2 a c f5 f6 hno).mono fun e w' hx => hx.errR))
theorem umask_at {A : Nat → Prop} {w : World} {k : Nat} {K : KQ} {N : Nat} (h : KAt A w k K N) (hN : N + 4 ≤ 1000000) (pid : Int) (hp : -9223372036854775808 ≤ pid ∧ pid ≤ 9223372036854775807) (c : SysQ) (hcp : c.p.oneCell' = true) (hno : c.no = 13) (hl : livesB K pid = true) :
    Calls Tryz.prog 7 #[ptrAt k, .int .i64 pid, sysV c] w (CallPost A w k (false, maskQ K pid.toNat c.a) (N + 0)) := by
  obtain ⟨p1, p2, _⟩ := lives_pid hl
  have hok := h.ok
  refine call_at h (Nat.le_trans p1 p2) pid hp c hcp hl (false, maskQ K pid.toNat c.a) (N + 0) (fun hv => hok.maskQ p1 p2 c.a) fun L w2 a f1 f2 f3 f4 f5 f6 => ?_
  exact err_done (ans_umask w2 k K L f1 (L.qb pid.toNat) a c noResV f5 hno (ErrR w2 k K L pid.toNat a c (maskQ K pid.toNat c.a)) ErrR.ask ((aown_umask w2 k K L f1 N hok (by omega) pid.toNat p1 p2 a c f5 f6 hno).mono fun e w' hx => hx.errR))
theorem mark_at {A : Nat → Prop} {w : World} {k : Nat} {K : KQ} {N : Nat} (h : KAt A w k K N) (hN : N + 4 ≤ 1000000) (pid : Int) (hp : -9223372036854775808 ≤ pid ∧ pid ≤ 9223372036854775807) (c : SysQ) (hcp : c.p.oneCell' = true) (hno : c.no = 24) (hl : livesB K pid = true) :
    Calls Tryz.prog 7 #[ptrAt k, .int .i64 pid, sysV c] w (CallPost A w k (false, markQ K pid.toNat c.a (c.b != 0)) (N + 0)) := by
  obtain ⟨p1, p2, _⟩ := lives_pid hl
  have hok := h.ok
  refine call_at h (Nat.le_trans p1 p2) pid hp c hcp hl (false, markQ K pid.toNat c.a (c.b != 0)) (N + 0) (fun hv => hok.markQ p1 p2 c.a _) fun L w2 a f1 f2 f3 f4 f5 f6 => ?_
  exact err_done (ans_mark w2 k K L f1 (L.qb pid.toNat) a c noResV f5 hno (ErrR w2 k K L pid.toNat a c (markQ K pid.toNat c.a (c.b != 0))) ErrR.ask ((aown_mark w2 k K L f1 N hok (by omega) pid.toNat p1 p2 a c f5 f6 hno).mono fun e w' hx => hx.errR))
theorem path_at {A : Nat → Prop} {w : World} {k : Nat} {K : KQ} {N : Nat} (h : KAt A w k K N) (hN : N + 4 ≤ 1000000) (pid : Int) (hp : -9223372036854775808 ≤ pid ∧ pid ≤ 9223372036854775807) (c : SysQ) (hcp : c.p.oneCell' = true) (hno : c.no = 25) (hl : livesB K pid = true) :
    Calls Tryz.prog 7 #[ptrAt k, .int .i64 pid, sysV c] w (CallPost A w k (false, pathQ K pid.toNat) (N + 0)) := by
  obtain ⟨p1, p2, _⟩ := lives_pid hl
  have hok := h.ok
  refine call_at h (Nat.le_trans p1 p2) pid hp c hcp hl (false, pathQ K pid.toNat) (N + 0) (fun hv => hok) fun L w2 a f1 f2 f3 f4 f5 f6 => ?_
  exact err_done (ans_path w2 k K L f1 (L.qb pid.toNat) a c noResV f5 hno (ErrR w2 k K L pid.toNat a c (pathQ K pid.toNat)) ErrR.ask ((aown_path w2 k K L f1 N hok (by omega) pid.toNat p1 p2 a c f5 f6 hno).mono fun e w' hx => hx.errR))
theorem text_at {A : Nat → Prop} {w : World} {k : Nat} {K : KQ} {N : Nat} (h : KAt A w k K N) (hN : N + 4 ≤ 1000000) (pid : Int) (hp : -9223372036854775808 ≤ pid ∧ pid ≤ 9223372036854775807) (c : SysQ) (hcp : c.p.oneCell' = true) (hno : c.no = 28) (hl : livesB K pid = true) (hsz : c.s.size ≤ 9223372036854775807) :
    Calls Tryz.prog 7 #[ptrAt k, .int .i64 pid, sysV c] w (CallPost A w k (false, textQ K pid.toNat c.s) (N + 1)) := by
  obtain ⟨p1, p2, _⟩ := lives_pid hl
  have hok := h.ok
  refine call_at h (Nat.le_trans p1 p2) pid hp c hcp hl (false, textQ K pid.toNat c.s) (N + 1) (fun hv => hok.textQ p1 p2 hsz) fun L w2 a f1 f2 f3 f4 f5 f6 => ?_
  exact err_done (ans_text w2 k K L f1 (L.qb pid.toNat) a c noResV f5 hno (ErrR w2 k K L pid.toNat a c (textQ K pid.toNat c.s)) ErrR.ask ((aown_text w2 k K L f1 N hok (by omega) pid.toNat p1 p2 a c f5 f6 hno).mono fun e w' hx => hx.errR))
theorem chdir_at {A : Nat → Prop} {w : World} {k : Nat} {K : KQ} {N : Nat} (h : KAt A w k K N) (hN : N + 4 ≤ 1000000) (pid : Int) (hp : -9223372036854775808 ≤ pid ∧ pid ≤ 9223372036854775807) (c : SysQ) (hcp : c.p.oneCell' = true) (hno : c.no = 12) (hl : livesB K pid = true) (hsz : c.s.size ≤ 9223372036854775807) :
    Calls Tryz.prog 7 #[ptrAt k, .int .i64 pid, sysV c] w (CallPost A w k (false, chdirQ K pid.toNat c.s) (N + 2)) := by
  obtain ⟨p1, p2, _⟩ := lives_pid hl
  have hok := h.ok
  refine call_at h (Nat.le_trans p1 p2) pid hp c hcp hl (false, chdirQ K pid.toNat c.s) (N + 2) (fun hv => hok.chdirQ p1 p2 c.s hv) fun L w2 a f1 f2 f3 f4 f5 f6 => ?_
  exact err_done (ans_chdir w2 k K L f1 (L.qb pid.toNat) a c noResV f5 hno (ErrR w2 k K L pid.toNat a c (chdirQ K pid.toNat c.s)) ErrR.ask ((aplace_any w2 k K L f1 N hok (by omega) pid.toNat p1 p2 a c f5 f6 f2 f3 f4 hsz hno).mono fun e w' hx => hx.errR))
theorem exec_at {A : Nat → Prop} {w : World} {k : Nat} {K : KQ} {N : Nat} (h : KAt A w k K N) (hN : N + 40 ≤ 1000000) (pid : Int) (hp : -9223372036854775808 ≤ pid ∧ pid ≤ 9223372036854775807) (c : SysQ) (hcp : c.p.oneCell' = true) (hno : c.no = 9) (hl : livesB K pid = true) :
    Calls Tryz.prog 7 #[ptrAt k, .int .i64 pid, sysV c] w (CallPost A w k (false, execQ K pid.toNat) (N + 32)) := by
  obtain ⟨p1, p2, _⟩ := lives_pid hl
  have hok := h.ok
  refine call_at h (Nat.le_trans p1 p2) pid hp c hcp hl (false, execQ K pid.toNat) (N + 32) (fun hv => hok.execQ p1 p2) fun L w2 a f1 f2 f3 f4 f5 f6 => ?_
  exact err_done (ans_exec w2 k K L f1 (L.qb pid.toNat) a c noResV f5 hno (ErrR w2 k K L pid.toNat a c (execQ K pid.toNat)) ErrR.ask ((aown_exec w2 k K L f1 N hok (by omega) pid.toNat p1 p2 a c f5 f6 hno).mono fun e w' hx => hx.errR))
theorem mkdir_at {A : Nat → Prop} {w : World} {k : Nat} {K : KQ} {N : Nat} (h : KAt A w k K N) (hN : N + 4 ≤ 1000000) (pid : Int) (hp : -9223372036854775808 ≤ pid ∧ pid ≤ 9223372036854775807) (c : SysQ) (hcp : c.p.oneCell' = true) (hno : c.no = 17) (hl : livesB K pid = true) (hsz : c.s.size ≤ 9223372036854775807) (hsz2 : c.t.size ≤ 9223372036854775807) :
    Calls Tryz.prog 7 #[ptrAt k, .int .i64 pid, sysV c] w (CallPost A w k (false, fileQ K (makeR K.σ (K.proc pid.toNat).dir c.s.data.toList true (bits .andNot .i64 (bits .and .i64 c.a 511) (K.proc pid.toNat).mask))) (N + 1)) := by
  obtain ⟨p1, p2, _⟩ := lives_pid hl
  have hok := h.ok
  refine call_at h (Nat.le_trans p1 p2) pid hp c hcp hl (false, fileQ K (makeR K.σ (K.proc pid.toNat).dir c.s.data.toList true (bits .andNot .i64 (bits .and .i64 c.a 511) (K.proc pid.toNat).mask))) (N + 1) (fun hv => hok.σ' (hok.good.make _ _ _ _) hv (Nat.le_succ N)) fun L w2 a f1 f2 f3 f4 f5 f6 => ?_
  exact ans_mkdir w2 k K L f1 N hok hN pid.toNat p1 p2 a c f5 f6 f2 f3 f4 hsz hsz2 hno
end Go.Proofs.YtffekmjoenppaaaGreatDoor
