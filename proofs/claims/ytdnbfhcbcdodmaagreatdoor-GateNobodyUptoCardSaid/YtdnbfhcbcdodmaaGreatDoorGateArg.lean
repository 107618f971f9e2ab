/- A call that answers a list. Conditions: each law's own premises. -/
import Derived.Test.YtdnbfhcbcdodmaaGreatDoorKerWriteW
import Derived.Test.YtdnbfhcbcdodmaaGreatDoorStrs
import Derived.Test.YtdnbfhcbcdodmaaGreatDoorKerAsk
import Derived.Test.YtdnbfhcbcdodmaaGreatDoorKerOutT
import Derived.Test.YtdnbfhcbcdodmaaGreatDoorFilesTreeT
import Derived.Test.YtdnbfhcbcdodmaaGreatDoorRegionIn
import Derived.Test.YtdnbfhcbcdodmaaGreatDoorRegionIn
import Derived.Test.YtdnbfhcbcdodmaaGreatDoorFilesJ
import Derived.LaidEqlPtr
import Derived.Deep.MidRow
import Derived.Deep.CutBlock
import Derived.Deep.DeepCutAuto
import Derived.Lib.Builder
import Derived.Test.YtdnbfhcbcdodmaaGreatDoorKerMid
import Derived.Test.YtdnbfhcbcdodmaaGreatDoorProg
import Derived.ProofKit
import Derived.OpenShut
import Derived.ShutString
import Derived.ChangeOld
import Derived.Deep.Slices
import Derived.Deep.Fields
import Derived.ChangeSame
import Derived.Test.YtdnbfhcbcdodmaaGreatDoorKerToldW
import Derived.Test.YtdnbfhcbcdodmaaGreatDoorKerAllP
namespace Go.Proofs.YtdnbfhcbcdodmaaGreatDoor
open Go.RowKit

/-- Behind a call of a process that answers a list; P: what is known of it. -/
def KaskPostL (w : World) (k : Nat) (K : KQ) (L : KLay) (i a : Nat) (c : SysQ) (R : ResQ × KQ) (P : List ByteArray → Prop) (e : Ending) (w' : World) : Prop :=
  e = .returned (.bool false) ∧ ∃ L' v l, P l ∧ KF w' k R.2 L' ∧ LExt K R.2 L L' ∧ Fr (fun b => L.o b ≠ none ∨ b = a) w w' ∧ (∀ b, L'.o b ≠ none → L.o b ≠ none ∨ w.heap.size ≤ b) ∧ AskAt w' a k (L.qb i) c { resV R.1 with list := v } ∧ ArgsV w' (fun b => w.heap.size ≤ b ∧ L'.o b = none) v l
theorem ArgsV.one {w : World} {S : Nat → Prop} {v : Value} {l : List ByteArray} (h : ArgsV w S v l) : v.oneCell' = true := by
  obtain ⟨a, cap, rfl⟩ := h.form
  rfl
/-- A call that answers a list, beside the caller's own blocks; B: where the list lies. -/
def CallPostL (A : Nat → Prop) (w : World) (k : Nat) (R : ResQ × KQ) (P : List ByteArray → Prop) (M : Nat) (e : Ending) (w' : World) : Prop :=
  ∃ (v : Value) (l : List ByteArray) (B : Nat → Prop), e = .returned (.tuple #[resVal { resV R.1 with list := v }, .bool false]) ∧ P l ∧ (∀ b, B b → w.heap.size ≤ b) ∧ KAt (fun b => A b ∨ B b) w' k R.2 M ∧ ArgsV w' B v l ∧ Fr (fun b => ¬ A b) w w'
theorem KAt.sub {A B : Nat → Prop} {w : World} {k : Nat} {K : KQ} {N : Nat} (h : KAt B w k K N) (hA : ∀ b, A b → B b) (hg : A glB) : KAt A w k K N := by
  obtain ⟨L, h1, h2, h3, _, h5⟩ := h
  exact ⟨L, h1, h2, h3, hg, fun b hb => h5 b (hA b hb)⟩
/-- What a function that answers an error leaves, with a list. -/
def ErrRL (w : World) (k : Nat) (K : KQ) (L : KLay) (i a : Nat) (c : SysQ) (R : ResQ × KQ) (P : List ByteArray → Prop) (x : Int) (w' : World) : Prop :=
  x = R.1.err ∧ ∃ L' r v l, P l ∧ KIn w k K L i a c w' R.2 L' r ∧ { r with err := R.1.err } = { resV R.1 with list := v } ∧ ArgsV w' (fun b => w.heap.size ≤ b ∧ L'.o b = none) v l
section
variable {w : World} {k : Nat} {K : KQ} {L : KLay} {i a : Nat} {c : SysQ} {R : ResQ × KQ} {P : List ByteArray → Prop}
theorem ErrRL.ask (x : Int) (w' : World) (h : ErrRL w k K L i a c R P x w') : ∃ r', AskAt w' a k (L.qb i) c r' := by
  obtain ⟨_, _, r, _, _, _, h, _⟩ := h
  exact ⟨r, h.A⟩
theorem ErrRL.post {x : Int} {w2 : World} (h : ErrRL w k K L i a c R P x w2) : KaskPostL w k K L i a c R P (.returned (.bool false)) (w2.setCell ⟨a, 17, none⟩ (.int .i64 x)) := by
  obtain ⟨rfl, L', r, v, l, p, h, hr, hv⟩ := h
  have h2 := h.err R.1.err
  refine ⟨rfl, L', v, l, p, h2.F, h2.E, h2.R, h2.N, by rw [← hr]; exact h2.A, hv.frame (fr_ask (L := L') w2 a 17 _) fun b _ e1 e2 => ?_⟩
  rcases e2 with e2 | e2
  · exact e2 e1.2
  · have := h.al
    have := e1.1
    omega
end
end Go.Proofs.YtdnbfhcbcdodmaaGreatDoor

/- What is moved, in memory: the entry away, the entry there, the parent. Conditions: the lemmas' own premises. -/
namespace Go.Proofs.YtdnbfhcbcdodmaaGreatDoor
open Go.RowKit

/-- Another directory above. -/
theorem FilesAt.parent {w : World} {f : Nat} {σ : FSt} {S : Nat → Prop} {p : Nat → Nat} (h : FilesAt w f σ S p) {i b : Nat} {n : Nd} (hn : σ.nd i = some n) (hlive : Live (σ.put i (some { n with par := b }))) :
    (w.frozen? ⟨p i, 7, none⟩ = false ∧ ∃ v, w.cell? ⟨p i, 7, none⟩ = some v) ∧ FilesAt (w.setCell ⟨p i, 7, none⟩ (.pointer (some ⟨p b, 0, none⟩))) f (σ.put i (some { n with par := b })) S p ∧ Fr S w (w.setCell ⟨p i, 7, none⟩ (.pointer (some ⟨p b, 0, none⟩))) := by
  obtain ⟨dv, ev, pv, lv, hF⟩ := h
  have hN := hF.nd i n hn
  obtain ⟨w', hw'⟩ : ∃ w', w' = w.setCell ⟨p i, 7, none⟩ (.pointer (some ⟨p b, 0, none⟩)) := ⟨_, rfl⟩
  have hf : Fr (fun k => k = p i) w w' := by rw [hw']; exact frSet _ _ _ _
  have hb : w'.heap[p i]? = some (.cells #[.int .i64 i, .int .i64 (if n.d then 2 else 1), .int .i64 n.mode, .int .i64 n.links, .int .i64 n.holds, dv i, ev i, .pointer (some ⟨p b, 0, none⟩)] 120 (0, 0)) := by rw [hw', blk_set hN.hb]; rfl
  rw [← hw']
  refine ⟨⟨blk_frozen hN.hb 7, _, by rw [blk_cell hN.hb]; rfl⟩, ⟨_, _, _, _, hF.changed hf hn (fun k e => .inr (.inl e)) ?_ ⟨hb, ?_, fun hd => ?_, fun hd => hN.file hd, fun hd hl => rfl, ⟨_, rfl⟩, hN.md⟩ (fun g e => .inl e) (fun m e => e) hlive⟩, hf.mono (fun k _ e => e ▸ hF.ownn i (by rw [hn]; rfl))⟩
  · rw [same_byts hn (n' := { n with par := b }) rfl]
    exact hf.get hF.hb (fun e => cells_ne hF.hb hN.hb (by decide) e)
  · refine hN.data.frame hf (fun g e e2 => ?_)
    obtain ⟨c, hc⟩ := hN.data.blk e
    exact cells_ne hc (e2 ▸ hN.hb) (by decide) rfl
  · obtain ⟨a1, m, a2, a3⟩ := hN.dir hd
    refine ⟨a1, m, a2, a3.frame hf (fun e => ?_)⟩
    obtain ⟨es, clock, hm, _⟩ := a3.own
    rw [e, hN.hb] at hm; cases hm
end Go.Proofs.YtdnbfhcbcdodmaaGreatDoor

/- Each call of a kernel, by its number, but SysGlob. Conditions: the law's own premises. -/
namespace Go.Proofs.YtdnbfhcbcdodmaaGreatDoor
open Go.RowKit

/-- Behind a call: the answer, but its list. -/
def AnyPost (A : Nat → Prop) (w : World) (k : Nat) (R : Bool × ResQ × KQ) (M : Nat) (e : Ending) (w' : World) : Prop :=
  ∃ v : Value, v.oneCell' = true ∧ e = .returned (.tuple #[resVal (if R.1 = true then noResV else { resV R.2.1 with list := v }), .bool R.1]) ∧ KAt A w' k R.2.2 M ∧ Fr (fun b => ¬ A b) w w'
theorem CallPost.any {A : Nat → Prop} {w w' : World} {k : Nat} {R : Bool × ResQ × KQ} {M N : Nat} {e : Ending} (h : CallPost A w k R M e w') (hN : M ≤ N) : AnyPost A w k R N e w' :=
  ⟨.slice none 0 0, rfl, h.1, h.2.1.mono hN, h.2.2⟩
theorem CallPostL.any {A : Nat → Prop} {w w' : World} {k : Nat} {R : ResQ × KQ} {P : List ByteArray → Prop} {M N : Nat} {e : Ending} (hA : A glB) (h : CallPostL A w k R P M e w') (hN : M ≤ N) : AnyPost A w k (false, R) N e w' := by
  obtain ⟨v, l, B, h1, h2, h3, h4, h5, h6⟩ := h
  exact ⟨v, h5.one, h1, (h4.sub (fun b e => .inl e) hA).mono hN, h6⟩
end Go.Proofs.YtdnbfhcbcdodmaaGreatDoor

/- gate.Kernel.Waits of one who isn't there, or of a call that never waits. Conditions: the contracts' own premises. -/
namespace Go.Proofs.YtdnbfhcbcdodmaaGreatDoor
open Go.RowKit

attribute [local go_sem] Oper.semAt_some

set_option maxRecDepth 100000 in
set_option maxHeartbeats 1000000 in
theorem kwaits_nobody (w : World) (k : Nat) (K : KQ) (L : KLay) (h : KF w k K L) (hq : 1 ≤ K.qn) (pid : Int) (hp : -9223372036854775808 ≤ pid ∧ pid ≤ 9223372036854775807) (c : SysQ) (hcp : c.p.oneCell' = true) (hl : livesB K pid = false) :
    Calls Tryz.prog 17 #[ptrAt k, .int .i64 pid, sysV c] w fun e w' => e = .returned (.bool false) ∧ Fr (fun _ => False) w w' := by
  obtain ⟨no, ca, cb, cs, ct, cp⟩ := c
  have hw2 : ∀ w2, Fr (fun _ => False) w w2 → Calls Tryz.prog 26 #[ptrAt k, .int .i64 pid] w2 fun e w' => e = .returned (.pointer none) ∧ w' = w2 := fun w2 hf => by
    have := lives_any w2 k K L (h.quiet hf) hq pid hp
    unfold livesV at this
    rw [if_neg (by rw [hl]; simp)] at this
    exact this
  have Hw2 := hide hw2
  have hf1 := hide (show Fr (fun _ => False) w (((w.alloc (.cells #[.int .i64 pid] 3 (0, 0))).alloc (.cells #[.int .i64 no, .int .i64 ca, .int .i64 cb, .string cs, .string ct, cp] 28 (0, 0))).alloc (.cells #[.bool false] 4 (0, 0))) from (((Fr.refl _ _).alloc _).alloc _).alloc _)
  clear hw2 h hl
  unfold ptrAt sysV at *
  go_enter Tryz.func17, Tryz.ntmps17
  go_wp2_with fail
  refine (Hw2.out _ hf1.out).mono ?_
  rintro e w2 ⟨rfl, rfl⟩
  go_wp2_with fail
  have hc := hide (show ((((w.alloc (.cells #[.int .i64 pid] 3 (0, 0))).alloc (.cells #[.int .i64 no, .int .i64 ca, .int .i64 cb, .string cs, .string ct, cp] 28 (0, 0))).alloc (.cells #[.bool false] 4 (0, 0))).alloc (.cells #[.pointer none] 71 (0, 0))).cell? ⟨w.heap.size + 1 + 1, 0, none⟩ = some (.bool false) from by
    rw [blk_cell (blk_alloc (blk_new' _ _ (w.heap.size + 1 + 1) (by simp)) _)]; rfl)
  exact bodyPost_ret (v := .bool false) (by simp [results, Tryz.results17, go_sem, hc.out]) rfl ⟨rfl, hf1.out.alloc _⟩
theorem waits_nobody_at {A : Nat → Prop} {w : World} {k : Nat} {K : KQ} {N : Nat} (h : KAt A w k K N) (hq : 1 ≤ K.qn) (pid : Int) (hp : -9223372036854775808 ≤ pid ∧ pid ≤ 9223372036854775807) (c : SysQ) (hcp : c.p.oneCell' = true) (hl : livesB K pid = false) :
    Calls Tryz.prog 17 #[ptrAt k, .int .i64 pid, sysV c] w fun e w' => e = .returned (.bool false) ∧ KAt A w' k K N ∧ Fr (fun _ => False) w w' := by
  obtain ⟨L, x1, x2⟩ := h
  exact (kwaits_nobody w k K L x1 hq pid hp c hcp hl).mono fun e w' hx => ⟨hx.1, KAt.quiet ⟨L, x1, x2⟩ hx.2, hx.2⟩
end Go.Proofs.YtdnbfhcbcdodmaaGreatDoor

/- No kernel: what its methods answer. No condition. -/
namespace Go.Proofs.YtdnbfhcbcdodmaaGreatDoor
open Go.RowKit

attribute [local go_sem] Oper.semAt_some

set_option maxRecDepth 100000 in
theorem lives_nil (w : World) (pid : Int) : Calls Tryz.prog 26 #[.pointer none, .int .i64 pid] w fun e w' => e = .returned (.pointer none) ∧ w' = w := by
  go_enter Tryz.func26, Tryz.ntmps26
  go_wp2
  go_ret
  exact ⟨rfl, rfl⟩
set_option maxRecDepth 100000 in
set_option maxHeartbeats 1000000 in
theorem call_nil (w : World) (pid : Int) (c : SysQ) (hcp : c.p.oneCell' = true) : Calls Tryz.prog 9 #[.pointer none, .int .i64 pid, sysV c] w fun e w' => e = .returned (.tuple #[resVal { noResV with err := 3 }, .bool false]) ∧ Fr (fun _ => False) w w' := by
  obtain ⟨no, ca, cb, cs, ct, cp⟩ := c
  have Hw2 := hide fun w2 => lives_nil w2 pid
  unfold sysV resVal resC noResV noSt noBy
  go_enter Tryz.func9, Tryz.ntmps9
  go_wp2_with fail
  refine (Hw2.out _).mono ?_
  rintro e w2 ⟨rfl, rfl⟩
  go_wp2_with fail
  go_returns
  exact ⟨rfl, ((Fr.refl _ _).alloc _).alloc _⟩
set_option maxRecDepth 100000 in
set_option maxHeartbeats 1000000 in
theorem waits_nil (w : World) (pid : Int) (c : SysQ) (hcp : c.p.oneCell' = true) : Calls Tryz.prog 17 #[.pointer none, .int .i64 pid, sysV c] w fun e w' => e = .returned (.bool false) ∧ Fr (fun _ => False) w w' := by
  obtain ⟨no, ca, cb, cs, ct, cp⟩ := c
  have Hw2 := hide fun w2 => lives_nil w2 pid
  unfold sysV
  go_enter Tryz.func17, Tryz.ntmps17
  go_wp2_with fail
  refine (Hw2.out _).mono ?_
  rintro e w2 ⟨rfl, rfl⟩
  go_wp2_with fail
  have hc := hide (show ((((w.alloc (.cells #[.int .i64 pid] 3 (0, 0))).alloc (.cells #[.int .i64 no, .int .i64 ca, .int .i64 cb, .string cs, .string ct, cp] 28 (0, 0))).alloc (.cells #[.bool false] 4 (0, 0))).alloc (.cells #[.pointer none] 71 (0, 0))).cell? ⟨w.heap.size + 1 + 1, 0, none⟩ = some (.bool false) from by
    rw [blk_cell (blk_alloc (blk_new' _ _ (w.heap.size + 1 + 1) (by simp)) _)]; rfl)
  exact bodyPost_ret (v := .bool false) (by simp [results, Tryz.results17, go_sem, hc.out]) rfl ⟨rfl, (((Fr.refl _ _).alloc _).alloc _).alloc _ |>.alloc _⟩
theorem files_nil (w : World) : Calls Tryz.prog 15 #[.pointer none] w fun e w' => e = .returned (.pointer none) ∧ w' = w := by
  go_enter Tryz.func15, Tryz.ntmps15
  go_wp2
  go_ret
  exact ⟨rfl, rfl⟩
theorem type_nil (w : World) (s : ByteArray) : Calls Tryz.prog 18 #[.pointer none, .string s] w fun e w' => e = .returned (.int .i64 3) ∧ w' = w := by
  go_enter Tryz.func18, Tryz.ntmps18
  go_wp2
  go_ret
  exact ⟨rfl, rfl⟩
theorem output_nil (w : World) (n : Int) : Calls Tryz.prog 19 #[.pointer none, .int .i64 n] w fun e w' => e = .returned (.string ⟨#[]⟩) ∧ w' = w := by
  go_enter Tryz.func19, Tryz.ntmps19
  go_wp2
  go_ret
  exact ⟨rfl, rfl⟩
end Go.Proofs.YtdnbfhcbcdodmaaGreatDoor

/- What shyardlaw12.awake comes to, as plain data. No program in sight; no condition. -/
namespace Go.Proofs.YtdnbfhcbcdodmaaGreatDoor
open Go.RowKit

theorem conD_ok {K : KQ} {N n : Nat} (hn : n ≤ 2) : DescOk K (N + 1) { conD n with refs := 1, inn := true } :=
  ⟨⟨by show 1 ≤ 1; decide, by show 1 ≤ 5; decide⟩, fun _ => hn, fun e => (by cases e), fun e => (by rcases e with e | e <;> cases e), by show n ≤ _; omega, fun _ => Nat.zero_le _, by show 0 < 64; decide, ⟨by show (1 : Int) ≤ _; omega, by show -_ ≤ (1 : Int); omega⟩, Nat.zero_le _⟩
theorem heldK_ok : KOk heldK 2 :=
  ⟨fun i fd j x h1 h2 e => by
      have e : (if i = 0 + 1 then proc1 else noProc).fds fd = some (j, x) := e
      split at e <;> (cases e; done),
    fun j h1 h2 => by have h2 : j ≤ 0 := h2; omega,
    fun i h1 h2 => by
      have h2 : i ≤ 1 := h2
      have e : heldK.proc i = proc1 := if_pos (show i = 0 + 1 by omega)
      rw [e]
      exact ⟨by show 1 ≤ _; decide, by show 18 ≤ 511; decide, by show 1 ≤ 2; decide, by show _ ≤ (0 : Int) ∧ (0 : Int) ≤ _; decide⟩,
    fun i h1 h2 => by have h2 : i ≤ 0 := h2; omega, by show 0 ≤ 2; decide, by show 0 ≤ 2; decide, by show 1 ≤ 2; decide, (Good.new.hold 1).good (Good.new.live.hold 1), by show 0 ≤ 4096; decide⟩
theorem newK_ok : KOk newK 5 := by
  have h1 := heldK_ok.openQ (i := 1) (Nat.le_refl _) (Nat.le_refl _) (conD_ok (n := 0) (by decide))
  have h2 := h1.openQ (i := 1) (Nat.le_refl _) (Nat.le_refl _) (conD_ok (n := 1) (by decide))
  exact h2.openQ (i := 1) (Nat.le_refl _) (Nat.le_refl _) (conD_ok (n := 2) (by decide))
def hiB : ByteArray := ⟨#[104, 105]⟩
def ka2 : KQ := (pipeQ newK 1).2
def ka3 : KQ := (forkQ ka2 1).2
def ka4 : KQ := (writeQ ka3 2 4 hiB).2.2
def ka5 : KQ := (readQ ka4 1 3 9).2.2
set_option maxRecDepth 100000 in
theorem kawk_1 : (pipeQ newK 1).1 = { noRes with n := 3, m := 4 } := by kernel_rfl
set_option maxRecDepth 100000 in
theorem kawk_2 : (forkQ ka2 1).1 = { noRes with n := 2 } := by kernel_rfl
set_option maxRecDepth 100000 in
theorem kawk_3 : (writeQ ka3 2 4 hiB).1 = false ∧ (writeQ ka3 2 4 hiB).2.1 = { noRes with n := 2 } := ⟨by kernel_rfl, by kernel_rfl⟩
set_option maxRecDepth 100000 in
theorem kawk_4 : (readQ ka4 1 3 9).1 = false ∧ (readQ ka4 1 3 9).2.1 = { noRes with s := hiB } := ⟨by kernel_rfl, by kernel_rfl⟩
set_option maxRecDepth 100000 in
theorem kawk_5 : (readQ ka5 1 3 9).1 = true := by kernel_rfl
set_option maxRecDepth 100000 in
theorem kawk_l1 : livesB newK 1 = true := by kernel_rfl
set_option maxRecDepth 100000 in
theorem kawk_l2 : livesB ka2 1 = true := by kernel_rfl
set_option maxRecDepth 100000 in
theorem kawk_l3 : livesB ka3 2 = true := by kernel_rfl
set_option maxRecDepth 100000 in
theorem kawk_l4 : livesB ka4 1 = true := by kernel_rfl
set_option maxRecDepth 100000 in
theorem kawk_l5 : livesB ka5 1 = true := by kernel_rfl
set_option maxRecDepth 100000 in
theorem kawk_d3 : fdQ ka3 2 4 = some 5 ∧ (ka3.desc 5).writes = true ∧ (ka3.desc 5).kind = 4 ∧ (ka3.pipe (ka3.desc 5).n).r = 2 - 1 ∧ ka3.dn = 5 := ⟨by kernel_rfl, by kernel_rfl, by kernel_rfl, by kernel_rfl, by kernel_rfl⟩
set_option maxRecDepth 100000 in
theorem kawk_d4 : fdQ ka4 1 3 = some 4 ∧ (ka4.desc 4).reads = true ∧ (ka4.desc 4).kind = 3 ∧ ka4.dn = 5 := ⟨by kernel_rfl, by kernel_rfl, by kernel_rfl, by kernel_rfl⟩
set_option maxRecDepth 100000 in
theorem kawk_d5 : fdQ ka5 1 3 = some 4 ∧ (ka5.desc 4).reads = true ∧ (ka5.desc 4).kind = 3 ∧ ka5.dn = 5 := ⟨by kernel_rfl, by kernel_rfl, by kernel_rfl, by kernel_rfl⟩
end Go.Proofs.YtdnbfhcbcdodmaaGreatDoor

/- shyardlaw12.awake. Conditions: the contract's own premises. -/
namespace Go.Proofs.YtdnbfhcbcdodmaaGreatDoor
open Go.RowKit

attribute [local go_sem] Oper.semAt_some

theorem call_lit {A : Nat → Prop} {w : World} {k : Nat} {R : Bool × ResQ × KQ} {M : Nat} {args : Array Value} {v : Value} {K' : KQ} (h : Calls Tryz.prog 9 args w (CallPost A w k R M)) (hv : Value.tuple #[resVal (if R.1 = true then noResV else resV R.2.1), .bool R.1] = v) (hK : R.2.2 = K') :
    Calls Tryz.prog 9 args w fun e w' => e = .returned v ∧ KAt A w' k K' M ∧ Fr (fun b => ¬ A b) w w' :=
  h.mono fun e w' ⟨h1, h2, h3⟩ => ⟨by rw [h1, hv], by rw [← hK]; exact h2, h3⟩
theorem knew_at (w : World) (hml : Ml w) : Calls Tryz.prog 8 #[] w fun e w' => ∃ k, e = .returned (.pointer (some ⟨k, 0, none⟩)) ∧ KAt (fun b => b < w.heap.size) w' k newK 5 ∧ Fr (fun _ => False) w w' := by
  refine (knew_any w).mono ?_
  rintro e w' ⟨k, L, rfl, h1, h2, h3⟩
  have hg : glB < w.heap.size := by obtain ⟨m, hm⟩ := hml; exact World.block_lt_of_cell? _ _ hm
  refine ⟨k, rfl, ⟨L, h1, newK_ok, hml.frame h2 (fun e => e), hg, fun b hb => ⟨?_, Nat.lt_of_lt_of_le hb h2.size⟩⟩, h2⟩
  by_cases e : L.o b = none
  · exact e
  · have := h3 b e; omega
def AL (z : Nat) (l : List Nat) : Nat → Prop := fun b => b < z ∨ b ∈ l
section
variable {z : Nat} {l : List Nat} {W W' : World} {k : Nat} {K : KQ} {N : Nat}
theorem KAt.push (h : KAt (AL z l) W k K N) (o : Obj) : KAt (AL z (W.heap.size :: l)) (W.alloc o) k K N :=
  h.more ((Fr.refl _ _).alloc o) (fun b e => by
    rcases e with e | e
    · exact .inl (.inl e)
    · rcases List.mem_cons.1 e with e | e
      · exact .inr ⟨by omega, by simp; omega⟩
      · exact .inl (.inr e)) (by
    obtain ⟨_, _, _, _, hg, _⟩ := h
    exact hg.imp id (List.mem_cons_of_mem _))
theorem al_get (hf : Fr (fun b => ¬ AL z l b) W W') {b : Nat} {o : Obj} (hb : W.heap[b]? = some o) (h : b ∈ l) : W'.heap[b]? = some o := hf.get hb (fun e => e (.inr h))
theorem al_fr {w : World} {S : Nat → Prop} (h : Fr S w W) (hf : Fr (fun b => ¬ AL w.heap.size l b) W W') : Fr S w W' := h.trans' hf fun _ hb e => absurd (.inl hb) e
end
def sq (no a b : Int) (s : ByteArray) : SysQ := ⟨no, a, b, s, noBy, .slice none 0 0⟩
set_option maxRecDepth 100000 in
set_option maxHeartbeats 1000000 in
theorem awake12_any (w : World) (hml : Ml w) : Calls Tryz.prog 7 #[] w fun e w' => e = .returned (.bool true) ∧ Fr (fun _ => False) w w' := by
  have hnew := hide (knew_at w hml)
  go_enter Tryz.func7, Tryz.ntmps7
  go_wp2_with fail
  refine hnew.out.mono ?_
  rintro e W1 ⟨k, rfl, hk1, hF1⟩
  have hk1 : KAt (AL w.heap.size []) W1 k newK 5 := hk1.more (Fr.refl _ _) (fun b e => e.elim .inl (fun e => by cases e)) (.inl (by obtain ⟨m, hm⟩ := hml; exact World.block_lt_of_cell? _ _ hm))
  clear hnew
  have hc1 := call_lit (pipe_at hk1 (by decide) 1 (by decide) (sq 7 0 0 noBy) rfl rfl kawk_l1) (v := .tuple #[.agg #[.int .i64 3, .int .i64 4, .string ⟨#[]⟩, .slice none 0 0, .int .i64 0, .int .i64 0, .int .i64 0, .int .i64 0, .int .i64 0, .int .i64 0], .bool false]) (K' := ka2) (by
    rw [show ((false, pipeQ newK (1 : Int).toNat) : Bool × ResQ × KQ).2.1 = { noRes with n := 3, m := 4 } from kawk_1]; rfl) rfl
  have Hc1 := hide hc1
  unfold sysV sq ptrAt noBy at Hc1
  have HF1 := hide hF1
  clear hc1 hk1 hF1
  go_wp2_with fail
  refine Hc1.out.mono ?_
  rintro e w2 ⟨rfl, hk2, hf2⟩
  obtain ⟨W2, hW2⟩ : ∃ W, W = w2.alloc (.cells #[.int .i64 3, .int .i64 4, .string ⟨#[]⟩, .slice none 0 0, .int .i64 0, .int .i64 0, .int .i64 0, .int .i64 0, .int .i64 0, .int .i64 0] 36 (0, 0)) := ⟨_, rfl⟩
  have hF2 : Fr (fun _ => False) w W2 := by rw [hW2]; exact (al_fr HF1.out hf2).alloc _
  have hb1 : W2.heap[w2.heap.size]? = some (.cells #[.int .i64 3, .int .i64 4, .string ⟨#[]⟩, .slice none 0 0, .int .i64 0, .int .i64 0, .int .i64 0, .int .i64 0, .int .i64 0, .int .i64 0] 36 (0, 0)) := by rw [hW2]; exact blk_new _ _
  have hk2 := hk2.push (.cells #[.int .i64 3, .int .i64 4, .string ⟨#[]⟩, .slice none 0 0, .int .i64 0, .int .i64 0, .int .i64 0, .int .i64 0, .int .i64 0, .int .i64 0] 36 (0, 0))
  rw [← hW2] at hk2
  have HWW2 := hide hW2
  clear hW2 hf2 Hc1 HF1
  have hc2 := call_lit (fork_at hk2 (by decide) 1 (by decide) (sq 8 0 0 noBy) rfl rfl kawk_l2) (v := .tuple #[.agg #[.int .i64 2, .int .i64 0, .string ⟨#[]⟩, .slice none 0 0, .int .i64 0, .int .i64 0, .int .i64 0, .int .i64 0, .int .i64 0, .int .i64 0], .bool false]) (K' := ka3) (by
    rw [show ((false, forkQ ka2 (1 : Int).toNat) : Bool × ResQ × KQ).2.1 = { noRes with n := 2 } from kawk_2]; rfl) rfl
  have Hc2 := hide hc2
  unfold sysV sq ptrAt noBy at Hc2
  have Hb1 := hide hb1
  have HF2 := hide hF2
  clear hc2 hk2 hF2 hb1
  go_wp2_with fail
  rw [← HWW2.out]
  refine Hc2.out.mono ?_
  rintro e w3 ⟨rfl, hk3, hf3⟩
  obtain ⟨W3, hW3⟩ : ∃ W, W = w3.alloc (.cells #[.int .i64 2, .int .i64 0, .string ⟨#[]⟩, .slice none 0 0, .int .i64 0, .int .i64 0, .int .i64 0, .int .i64 0, .int .i64 0, .int .i64 0] 36 (0, 0)) := ⟨_, rfl⟩
  have hF3 : Fr (fun _ => False) w W3 := by rw [hW3]; exact (al_fr HF2.out hf3).alloc _
  have hb1 := blk_alloc (al_get hf3 Hb1.out (by simp)) (.cells #[.int .i64 2, .int .i64 0, .string ⟨#[]⟩, .slice none 0 0, .int .i64 0, .int .i64 0, .int .i64 0, .int .i64 0, .int .i64 0, .int .i64 0] 36 (0, 0))
  rw [← hW3] at hb1
  have hb2 : W3.heap[w3.heap.size]? = some (.cells #[.int .i64 2, .int .i64 0, .string ⟨#[]⟩, .slice none 0 0, .int .i64 0, .int .i64 0, .int .i64 0, .int .i64 0, .int .i64 0, .int .i64 0] 36 (0, 0)) := by rw [hW3]; exact blk_new _ _
  have hk3 := hk3.push (.cells #[.int .i64 2, .int .i64 0, .string ⟨#[]⟩, .slice none 0 0, .int .i64 0, .int .i64 0, .int .i64 0, .int .i64 0, .int .i64 0, .int .i64 0] 36 (0, 0))
  rw [← hW3] at hk3
  have HWW3 := hide hW3
  clear hW3 hf3 Hc2 HF2 Hb1 HWW2
  have hc3 := call_lit (write_pip_at (M := 41) hk3 (by decide) 2 (by decide) (sq 2 4 0 hiB) rfl rfl kawk_l3 (fun _ => hk3.ok.writeP kawk_d3.1 kawk_d3.2.2.1 (by rw [kawk_d3.2.2.2.1]; decide) ⟨by decide, by rw [kawk_d3.2.2.2.2]; decide⟩) 5 kawk_d3.1 (by decide) kawk_d3.2.1 kawk_d3.2.2.1 (by rw [kawk_d3.2.2.2.1]; decide)) (v := .tuple #[.agg #[.int .i64 2, .int .i64 0, .string ⟨#[]⟩, .slice none 0 0, .int .i64 0, .int .i64 0, .int .i64 0, .int .i64 0, .int .i64 0, .int .i64 0], .bool false]) (K' := ka4) (by
    rw [show (writeQ ka3 (2 : Int).toNat (sq 2 4 0 hiB).a (sq 2 4 0 hiB).s).1 = false from kawk_3.1, show (writeQ ka3 (2 : Int).toNat (sq 2 4 0 hiB).a (sq 2 4 0 hiB).s).2.1 = { noRes with n := 2 } from kawk_3.2]; rfl) rfl
  have Hc3 := hide hc3
  unfold sysV sq ptrAt noBy hiB at Hc3
  have Hb1 := hide hb1
  have Hb2 := hide hb2
  have HF3 := hide hF3
  clear hc3 hk3 hF3 hb1 hb2
  go_wp2_with fail
  rw [← HWW3.out]
  refine Hc3.out.mono ?_
  rintro e w4 ⟨rfl, hk4, hf4⟩
  obtain ⟨W4, hW4⟩ : ∃ W, W = w4.alloc (.cells #[.int .i64 2, .int .i64 0, .string ⟨#[]⟩, .slice none 0 0, .int .i64 0, .int .i64 0, .int .i64 0, .int .i64 0, .int .i64 0, .int .i64 0] 36 (0, 0)) := ⟨_, rfl⟩
  have hF4 : Fr (fun _ => False) w W4 := by rw [hW4]; exact (al_fr HF3.out hf4).alloc _
  have hb1 := blk_alloc (al_get hf4 Hb1.out (by simp)) (.cells #[.int .i64 2, .int .i64 0, .string ⟨#[]⟩, .slice none 0 0, .int .i64 0, .int .i64 0, .int .i64 0, .int .i64 0, .int .i64 0, .int .i64 0] 36 (0, 0))
  rw [← hW4] at hb1
  have hb2 := blk_alloc (al_get hf4 Hb2.out (by simp)) (.cells #[.int .i64 2, .int .i64 0, .string ⟨#[]⟩, .slice none 0 0, .int .i64 0, .int .i64 0, .int .i64 0, .int .i64 0, .int .i64 0, .int .i64 0] 36 (0, 0))
  rw [← hW4] at hb2
  have hb3 : W4.heap[w4.heap.size]? = some (.cells #[.int .i64 2, .int .i64 0, .string ⟨#[]⟩, .slice none 0 0, .int .i64 0, .int .i64 0, .int .i64 0, .int .i64 0, .int .i64 0, .int .i64 0] 36 (0, 0)) := by rw [hW4]; exact blk_new _ _
  have hk4 := hk4.push (.cells #[.int .i64 2, .int .i64 0, .string ⟨#[]⟩, .slice none 0 0, .int .i64 0, .int .i64 0, .int .i64 0, .int .i64 0, .int .i64 0, .int .i64 0] 36 (0, 0))
  rw [← hW4] at hk4
  have HWW4 := hide hW4
  clear hW4 hf4 Hc3 HF3 Hb1 Hb2 HWW3
  have hc4 := call_lit (read_pip_at (M := 41) hk4 (by decide) 1 (by decide) (sq 1 3 9 noBy) rfl rfl kawk_l4 (fun _ => hk4.ok.readP kawk_d4.1 kawk_d4.2.2.1 ⟨by decide, by rw [kawk_d4.2.2.2]; decide⟩) 4 kawk_d4.1 (by decide) kawk_d4.2.1 (by decide) kawk_d4.2.2.1) (v := .tuple #[.agg #[.int .i64 0, .int .i64 0, .string ⟨#[104, 105]⟩, .slice none 0 0, .int .i64 0, .int .i64 0, .int .i64 0, .int .i64 0, .int .i64 0, .int .i64 0], .bool false]) (K' := ka5) (by
    rw [show (readQ ka4 (1 : Int).toNat (sq 1 3 9 noBy).a (sq 1 3 9 noBy).b).1 = false from kawk_4.1, show (readQ ka4 (1 : Int).toNat (sq 1 3 9 noBy).a (sq 1 3 9 noBy).b).2.1 = { noRes with s := hiB } from kawk_4.2]; rfl) rfl
  have Hc4 := hide hc4
  unfold sysV sq ptrAt noBy at Hc4
  have Hb1 := hide hb1
  have Hb2 := hide hb2
  have Hb3 := hide hb3
  have HF4 := hide hF4
  clear hc4 hk4 hF4 hb1 hb2 hb3
  go_wp2_with fail
  rw [← HWW4.out]
  refine Hc4.out.mono ?_
  rintro e w5 ⟨rfl, hk5, hf5⟩
  obtain ⟨W5, hW5⟩ : ∃ W, W = w5.alloc (.cells #[.int .i64 0, .int .i64 0, .string ⟨#[104, 105]⟩, .slice none 0 0, .int .i64 0, .int .i64 0, .int .i64 0, .int .i64 0, .int .i64 0, .int .i64 0] 36 (0, 0)) := ⟨_, rfl⟩
  have hF5 : Fr (fun _ => False) w W5 := by rw [hW5]; exact (al_fr HF4.out hf5).alloc _
  have hb1 := blk_alloc (al_get hf5 Hb1.out (by simp)) (.cells #[.int .i64 0, .int .i64 0, .string ⟨#[104, 105]⟩, .slice none 0 0, .int .i64 0, .int .i64 0, .int .i64 0, .int .i64 0, .int .i64 0, .int .i64 0] 36 (0, 0))
  rw [← hW5] at hb1
  have hb2 := blk_alloc (al_get hf5 Hb2.out (by simp)) (.cells #[.int .i64 0, .int .i64 0, .string ⟨#[104, 105]⟩, .slice none 0 0, .int .i64 0, .int .i64 0, .int .i64 0, .int .i64 0, .int .i64 0, .int .i64 0] 36 (0, 0))
  rw [← hW5] at hb2
  have hb3 := blk_alloc (al_get hf5 Hb3.out (by simp)) (.cells #[.int .i64 0, .int .i64 0, .string ⟨#[104, 105]⟩, .slice none 0 0, .int .i64 0, .int .i64 0, .int .i64 0, .int .i64 0, .int .i64 0, .int .i64 0] 36 (0, 0))
  rw [← hW5] at hb3
  have hb4 : W5.heap[w5.heap.size]? = some (.cells #[.int .i64 0, .int .i64 0, .string ⟨#[104, 105]⟩, .slice none 0 0, .int .i64 0, .int .i64 0, .int .i64 0, .int .i64 0, .int .i64 0, .int .i64 0] 36 (0, 0)) := by rw [hW5]; exact blk_new _ _
  have hk5 := hk5.push (.cells #[.int .i64 0, .int .i64 0, .string ⟨#[104, 105]⟩, .slice none 0 0, .int .i64 0, .int .i64 0, .int .i64 0, .int .i64 0, .int .i64 0, .int .i64 0] 36 (0, 0))
  rw [← hW5] at hk5
  have HWW5 := hide hW5
  clear hW5 hf5 Hc4 HF4 Hb1 Hb2 Hb3 HWW4
  have hc5 := call_lit (read_pip_at (M := 41) hk5 (by decide) 1 (by decide) (sq 1 3 9 noBy) rfl rfl kawk_l5 (fun _ => hk5.ok.readP kawk_d5.1 kawk_d5.2.2.1 ⟨by decide, by rw [kawk_d5.2.2.2]; decide⟩) 4 kawk_d5.1 (by decide) kawk_d5.2.1 (by decide) kawk_d5.2.2.1) (v := .tuple #[.agg #[.int .i64 0, .int .i64 0, .string ⟨#[]⟩, .slice none 0 0, .int .i64 0, .int .i64 0, .int .i64 0, .int .i64 0, .int .i64 0, .int .i64 0], .bool true]) (K' := (readQ ka5 1 3 9).2.2) (by
    rw [show (readQ ka5 (1 : Int).toNat (sq 1 3 9 noBy).a (sq 1 3 9 noBy).b).1 = true from kawk_5]; rfl) rfl
  have Hc5 := hide hc5
  unfold sysV sq ptrAt noBy at Hc5
  have Hb1 := hide hb1
  have Hb2 := hide hb2
  have Hb3 := hide hb3
  have Hb4 := hide hb4
  have HF5 := hide hF5
  clear hc5 hk5 hF5 hb1 hb2 hb3 hb4
  go_wp2_with fail
  rw [← HWW5.out]
  refine Hc5.out.mono ?_
  rintro e w6 ⟨rfl, hk6, hf6⟩
  obtain ⟨W6, hW6⟩ : ∃ W, W = w6.alloc (.cells #[.int .i64 0, .int .i64 0, .string ⟨#[]⟩, .slice none 0 0, .int .i64 0, .int .i64 0, .int .i64 0, .int .i64 0, .int .i64 0, .int .i64 0] 36 (0, 0)) := ⟨_, rfl⟩
  have hF6 : Fr (fun _ => False) w W6 := by rw [hW6]; exact (al_fr HF5.out hf6).alloc _
  have hb1 := blk_alloc (al_get hf6 Hb1.out (by simp)) (.cells #[.int .i64 0, .int .i64 0, .string ⟨#[]⟩, .slice none 0 0, .int .i64 0, .int .i64 0, .int .i64 0, .int .i64 0, .int .i64 0, .int .i64 0] 36 (0, 0))
  rw [← hW6] at hb1
  have hb2 := blk_alloc (al_get hf6 Hb2.out (by simp)) (.cells #[.int .i64 0, .int .i64 0, .string ⟨#[]⟩, .slice none 0 0, .int .i64 0, .int .i64 0, .int .i64 0, .int .i64 0, .int .i64 0, .int .i64 0] 36 (0, 0))
  rw [← hW6] at hb2
  have hb3 := blk_alloc (al_get hf6 Hb3.out (by simp)) (.cells #[.int .i64 0, .int .i64 0, .string ⟨#[]⟩, .slice none 0 0, .int .i64 0, .int .i64 0, .int .i64 0, .int .i64 0, .int .i64 0, .int .i64 0] 36 (0, 0))
  rw [← hW6] at hb3
  have hb4 := blk_alloc (al_get hf6 Hb4.out (by simp)) (.cells #[.int .i64 0, .int .i64 0, .string ⟨#[]⟩, .slice none 0 0, .int .i64 0, .int .i64 0, .int .i64 0, .int .i64 0, .int .i64 0, .int .i64 0] 36 (0, 0))
  rw [← hW6] at hb4
  have hb5 : W6.heap[w6.heap.size]? = some (.cells #[.int .i64 0, .int .i64 0, .string ⟨#[]⟩, .slice none 0 0, .int .i64 0, .int .i64 0, .int .i64 0, .int .i64 0, .int .i64 0, .int .i64 0] 36 (0, 0)) := by rw [hW6]; exact blk_new _ _
  have hk6 := hk6.push (.cells #[.int .i64 0, .int .i64 0, .string ⟨#[]⟩, .slice none 0 0, .int .i64 0, .int .i64 0, .int .i64 0, .int .i64 0, .int .i64 0, .int .i64 0] 36 (0, 0))
  rw [← hW6] at hk6
  have HWW6 := hide hW6
  clear hW6 hf6 Hc5 HF5 Hb1 Hb2 Hb3 Hb4 HWW5
  have a1 : W6.cell? ⟨w2.heap.size, 0, none⟩ = some (.int .i64 3) := by rw [blk_cell hb1]; rfl
  have a2 : W6.cell? ⟨w2.heap.size, 1, none⟩ = some (.int .i64 4) := by rw [blk_cell hb1]; rfl
  have a3 : W6.cell? ⟨w3.heap.size, 0, none⟩ = some (.int .i64 2) := by rw [blk_cell hb2]; rfl
  have a4 : W6.cell? ⟨w4.heap.size, 0, none⟩ = some (.int .i64 2) := by rw [blk_cell hb3]; rfl
  have a5 : W6.cell? ⟨w5.heap.size, 2, none⟩ = some (.string ⟨#[104, 105]⟩) := by rw [blk_cell hb4]; rfl
  rw [HWW6.out] at a1 a2 a3 a4 a5
  have HF6 := hide hF6
  clear hb1 hb2 hb3 hb4 hb5 hk6 hF6
  go_wp2_with fail
  rw [← HWW6.out]
  go_ret
  exact ⟨rfl, HF6.out⟩
end Go.Proofs.YtdnbfhcbcdodmaaGreatDoor

/- What a walk is told of an argument: a row of steps (a process's number and a call). No condition. -/
namespace Go.Proofs.YtdnbfhcbcdodmaaGreatDoor
open Go.ChangeShapes Go.WideShapes Go.ChangeAt Go.RowKit Go.Deep

section
variable {H : Type} {enc : TypeId × Value → H} {P : Program} {w : World} {base : Nat} {spare : Nat → Bool} {held : Bool}
/-- Each field of a struct of one-cell fields reads by itself. -/
theorem struct_one {t : TypeId} {fs : Array Field} {cs : List Value} {fuel : Nat} {x : DataW H × List MemPlace} (ht : P.underlying t = some (.struct fs)) (hone : oneCellFields P fs = true) (hC : P.cellsOf t = fs.size)
    (h : DataW.trod enc P w base spare held fuel t cs = some x) : cs.length = fs.size ∧ ∀ (j : Nat) (f : Field), fs[j]? = some f →
      ∃ (v : Value) (y : DataW H × List MemPlace) (n : Nat), cs[j]? = some v ∧ DataW.trod enc P w base spare held n f.type [v] = some y := by
  obtain ⟨ys, n', _, _, hlen, hyl, hfld⟩ := DataW.trod_struct ht h
  refine ⟨by rw [hlen, hC], fun j f hj => ?_⟩
  obtain ⟨hoff, hcell⟩ := hone_of hone j f hj
  have hjl : j < fs.size := (Array.getElem?_eq_some_iff.1 hj).1
  have hjc : j < cs.length := by rw [hlen, hC]; exact hjl
  have hr := hfld j f hj
  rw [hoff, hcell, List.drop_eq_getElem_cons hjc] at hr
  exact ⟨cs[j], _, n', List.getElem?_eq_getElem hjc, hr.trans (List.getElem?_eq_getElem (by omega))⟩
end
def Num64 (x : Int) : Prop := -9223372036854775808 ≤ x ∧ x ≤ 9223372036854775807
/-- What a call's parts are. -/
structure SysOk (c : SysQ) : Prop where
  no : Num64 c.no
  a : Num64 c.a
  b : Num64 c.b
  s : c.s.size ≤ 9223372036854775807
  t : c.t.size ≤ 9223372036854775807
  p : ∃ a l n, c.p = .slice a l n
theorem SysOk.one {c : SysQ} (h : SysOk c) : c.p.oneCell' = true := by
  obtain ⟨_, _, _, e⟩ := h.p
  rw [e]; rfl
def sysC (c : SysQ) : List Value := [.int .i64 c.no, .int .i64 c.a, .int .i64 c.b, .string c.s, .string c.t, c.p]
set_option maxRecDepth 100000 in
theorem sys_fields {H : Type} {enc : TypeId × Value → H} {W : World} {base : Nat} {sp : Nat → Bool} {held : Bool} {cs : List Value} {fuel : Nat} {x : DataW H × List MemPlace}
    (h : DataW.trod enc Tryz.prog W base sp held fuel 28 cs = some x) : ∃ c, SysOk c ∧ cs = sysC c := by
  obtain ⟨hl, hf⟩ := struct_one Tryz.underlying28 (by kernel_rfl) (by kernel_rfl) h
  obtain ⟨v0, y0, n0, c0, t0⟩ := hf 0 _ rfl
  obtain ⟨v1, y1, n1, c1, t1⟩ := hf 1 _ rfl
  obtain ⟨v2, y2, n2, c2, t2⟩ := hf 2 _ rfl
  obtain ⟨v3, y3, n3, c3, t3⟩ := hf 3 _ rfl
  obtain ⟨v4, y4, n4, c4, t4⟩ := hf 4 _ rfl
  obtain ⟨v5, y5, n5, c5, t5⟩ := hf 5 _ rfl
  obtain ⟨x0, e0, _, f0⟩ := DataW.trod_int Tryz.underlying3 t0
  obtain ⟨x1, e1, _, f1⟩ := DataW.trod_int Tryz.underlying3 t1
  obtain ⟨x2, e2, _, f2⟩ := DataW.trod_int Tryz.underlying3 t2
  obtain ⟨x3, e3, _, s3⟩ := DataW.trod_string Tryz.underlying9 t3
  obtain ⟨x4, e4, _, s4⟩ := DataW.trod_string Tryz.underlying9 t4
  have h5 : ∃ a l n, v5 = .slice a l n := by
    rcases open_slice Tryz.underlying26 t5 with ⟨e, _⟩ | ⟨_, _, _, _, _, _, _, e, _⟩
    · simp only [List.cons.injEq, and_true] at e
      exact ⟨_, _, _, e⟩
    · simp only [List.cons.injEq, and_true] at e
      exact ⟨_, _, _, e⟩
  simp only [List.cons.injEq, and_true] at e0 e1 e2 e3 e4
  subst e0 e1 e2 e3 e4
  unfold maxLen at s3 s4
  refine ⟨⟨x0, x1, x2, x3, x4, v5⟩, ⟨bounds_i64 f0, bounds_i64 f1, bounds_i64 f2, s3, s4, h5⟩, ?_⟩
  apply List.ext_getElem?
  intro i
  rcases i with _ | _ | _ | _ | _ | _ | i
  · exact c0
  · exact c1
  · exact c2
  · exact c3
  · exact c4
  · exact c5
  · rw [List.getElem?_eq_none (by have : cs.length = 6 := hl; omega), List.getElem?_eq_none (by simp [sysC])]
end Go.Proofs.YtdnbfhcbcdodmaaGreatDoor

/- The walk of GateNobody: it returns true and leaves old memory as it was. Conditions: the call reads as a call. -/
namespace Go.Proofs.YtdnbfhcbcdodmaaGreatDoor
open Go.RowKit

attribute [local go_sem] Oper.semAt_some

theorem table_nil (w : World) (pid : Int) : Calls Tryz.prog 12 #[.pointer none, .int .i64 pid] w fun e w' => e = .returned (.slice none 0 0) ∧ w' = w := by
  have Hw2 := hide fun w2 => lives_nil w2 pid
  go_enter Tryz.func12, Tryz.ntmps12
  go_wp2_with fail
  refine (Hw2.out _).mono ?_
  rintro e w2 ⟨rfl, rfl⟩
  go_wp2
  go_ret
  exact ⟨rfl, rfl⟩
set_option maxRecDepth 100000 in
theorem newK_qn : newK.qn = 1 := by kernel_rfl
set_option maxRecDepth 100000 in
theorem newK_dn : newK.dn = 3 := by kernel_rfl
set_option maxRecDepth 100000 in
theorem newK_tree : treeL newK.σ = [] := by kernel_rfl
set_option maxRecDepth 100000 in
theorem newK_out (n : Nat) : newK.out n = noBy := by
  show noBy = noBy
  rfl
theorem newK_lives {pid : Int} (h : pid ≠ 1) : livesB newK pid = false := by
  unfold livesB
  rw [newK_qn]
  simp
  omega
/-- What is seen of a new kernel. -/
theorem told_new {A : Nat → Prop} {w : World} {k : Nat} {N : Nat} (h : KAt A w k newK N) (hN : N ≤ 1000000) :
    Calls Tryz.prog 14 #[ptrAt k] w fun e w' => e = .returned (.string (toldS newK)) ∧ Fr (fun _ => False) w w' := by
  obtain ⟨L, h1, h2, _⟩ := h
  refine told_F w k newK L h1 N h2 hN (by rw [newK_qn]; decide) (by rw [newK_dn]; decide) (fun n => ?_) (fun x hx => ?_)
  · rw [newK_out]; exact Nat.zero_le _
  · rw [newK_tree] at hx; cases hx
theorem nobody_at {A : Nat → Prop} {w : World} {k : Nat} {N : Nat} (h : KAt A w k newK N) (pid : Int) (hp : -9223372036854775808 ≤ pid ∧ pid ≤ 9223372036854775807) (hl : livesB newK pid = false) (c : SysQ) (hcp : c.p.oneCell' = true) :
    Calls Tryz.prog 9 #[ptrAt k, .int .i64 pid, sysV c] w (fun e w' => e = .returned (.tuple #[resVal { noResV with err := 3 }, .bool false]) ∧ Fr (fun _ => False) w w') := by
  obtain ⟨L, h1, h2, _⟩ := h
  exact kcall_nobody w k newK L h1 (by rw [newK_qn]; decide) pid hp c hcp hl
theorem tableN_at {A : Nat → Prop} {w : World} {k : Nat} {N : Nat} (h : KAt A w k newK N) (pid : Int) (hp : -9223372036854775808 ≤ pid ∧ pid ≤ 9223372036854775807) (hl : livesB newK pid = false) :
    Calls Tryz.prog 12 #[ptrAt k, .int .i64 pid] w fun e w' => e = .returned (.slice none 0 0) ∧ w' = w := by
  obtain ⟨L, h1, h2, _⟩ := h
  exact ktable_nobody w k newK L h1 (by rw [newK_qn]; decide) pid hp hl
set_option maxRecDepth 100000 in
set_option maxHeartbeats 8000000 in
theorem gnob_walk (pid : Int) (v : Value) (W : World) (hml : Ml W) (h1 : -9223372036854775808 ≤ pid) (h2 : pid ≤ 9223372036854775807) (hc : ∃ c : SysQ, SysOk c ∧ v = sysV c) :
    Calls Tryz.prog 6 #[.int .i64 pid, v] W (LawPost W) := by
  obtain ⟨c, hcok, rfl⟩ := hc
  obtain ⟨no, ca, cb, cs, ct, cp⟩ := c
  obtain ⟨pa, pl, pn, hcp⟩ := hcok.p
  simp only at hcp
  subst hcp
  clear hcok
  generalize hsv : sysV ⟨no, ca, cb, cs, ct, .slice pa pl pn⟩ = cv
  have Hcn := hide (fun w => call_nil w pid ⟨no, ca, cb, cs, ct, .slice pa pl pn⟩ rfl)
  have Hwn := hide (fun w => waits_nil w pid ⟨no, ca, cb, cs, ct, .slice pa pl pn⟩ rfl)
  have Hck := hide (fun (A : Nat → Prop) (w : World) (k N : Nat) (h : KAt A w k newK N) (hl : livesB newK pid = false) => nobody_at h pid ⟨h1, h2⟩ hl ⟨no, ca, cb, cs, ct, .slice pa pl pn⟩ rfl)
  have Hwk := hide (fun (A : Nat → Prop) (w : World) (k N : Nat) (h : KAt A w k newK N) (hl : livesB newK pid = false) => waits_nobody_at h (by rw [newK_qn]; decide) pid ⟨h1, h2⟩ ⟨no, ca, cb, cs, ct, .slice pa pl pn⟩ rfl hl)
  have Htk := hide (fun (A : Nat → Prop) (w : World) (k N : Nat) (h : KAt A w k newK N) (hl : livesB newK pid = false) => tableN_at h pid ⟨h1, h2⟩ hl)
  have Htd := hide (fun (A : Nat → Prop) (w : World) (k N : Nat) (h : KAt A w k newK N) (hN : N ≤ 1000000) => told_new h hN)
  have Htn := hide (fun w => table_nil w pid)
  have Hlv := hide (fun (h : pid ≠ 1) => newK_lives h)
  generalize toldS newK = ts at *
  clear h1 h2
  subst hsv
  unfold sysV ptrAt resVal resC noResV noSt noBy at *
  have hgl : glB < W.heap.size := by obtain ⟨m, hm⟩ := hml; exact World.block_lt_of_cell? _ _ hm
  have Hgl := hide hgl
  have Hml := hide hml
  have Hawk := hide (fun w (h : Ml w) => awake12_any w h)
  have Hnew := hide (fun w (h : Ml w) => knew_at w h)
  clear hml hgl
  go_enter Tryz.func6, Tryz.ntmps6
  obtain ⟨W0, hW0⟩ : ∃ X, X = W.alloc (.cells #[.int .i64 no, .int .i64 ca, .int .i64 cb, .string cs, .string ct, .slice pa pl pn] 28 (0, 0)) := ⟨_, rfl⟩
  have hF0 : Fr (fun _ => False) W W0 := by rw [hW0]; exact (Fr.refl _ _).alloc _
  have hb0 : W0.heap[W.heap.size]? = some (.cells #[.int .i64 no, .int .i64 ca, .int .i64 cb, .string cs, .string ct, .slice pa pl pn] 28 (0, 0)) := by rw [hW0]; exact blk_new _ _
  have HF0 := hide hF0
  have Hb0 := hide hb0
  have HW0 := hide hW0
  clear hF0 hb0 hW0
  go_wp2_with fail
  rw [← HW0.out]
  refine (Hawk.out _ (Hml.out.frame HF0.out (fun e => e))).mono ?_
  rintro e W1 ⟨rfl, hf1⟩
  have HF1 := hide (HF0.out.trans hf1)
  have Hb1 := hide (hf1.get Hb0.out (fun e => e))
  clear hf1 HF0 Hb0 HW0 Hawk
  go_wp2_with fail
  refine (Hnew.out _ (Hml.out.frame HF1.out (fun e => e))).mono ?_
  rintro e W2 ⟨k, rfl, hk2, hf2⟩
  have hk2 : KAt (AL W1.heap.size []) W2 k newK 5 := hk2.more (Fr.refl _ _) (fun b e => e.elim .inl (fun e => by cases e)) (.inl (Nat.lt_of_lt_of_le Hgl.out HF1.out.size))
  have HF2 := hide (HF1.out.trans hf2)
  have Hb2 := hide (hf2.get Hb1.out (fun e => e))
  have Hk2 := hide hk2
  clear hf2 HF1 Hb1 Hnew hk2
  go_wp2_with fail
  refine (Htd.out _ _ _ _ Hk2.out (by decide)).mono ?_
  rintro e W3 ⟨rfl, hf3⟩
  have HF3 := hide (HF2.out.trans hf3)
  have hb3 := hf3.get Hb2.out (fun e => e)
  have Hb3 := hide hb3
  have Hk3 := hide (Hk2.out.quiet hf3)
  have e30 : W3.cell? ⟨W.heap.size, 0, none⟩ = some (.int .i64 no) := by rw [blk_cell hb3]; rfl
  have e31 : W3.cell? ⟨W.heap.size, 1, none⟩ = some (.int .i64 ca) := by rw [blk_cell hb3]; rfl
  have e32 : W3.cell? ⟨W.heap.size, 2, none⟩ = some (.int .i64 cb) := by rw [blk_cell hb3]; rfl
  have e33 : W3.cell? ⟨W.heap.size, 3, none⟩ = some (.string cs) := by rw [blk_cell hb3]; rfl
  have e34 : W3.cell? ⟨W.heap.size, 4, none⟩ = some (.string ct) := by rw [blk_cell hb3]; rfl
  have e35 : W3.cell? ⟨W.heap.size, 5, none⟩ = some (.slice pa pl pn) := by rw [blk_cell hb3]; rfl
  clear hf3 HF2 Hb2 Hk2 hb3
  go_wp2_with fail
  refine (Hcn.out _).mono ?_
  rintro e W4 ⟨rfl, hf4⟩
  obtain ⟨W5, hW5⟩ : ∃ X, X = W4.alloc (.cells #[.int .i64 0, .int .i64 0, .string ⟨#[]⟩, .slice none 0 0, .int .i64 0, .int .i64 0, .int .i64 0, .int .i64 0, .int .i64 0, .int .i64 3] 36 (0, 0)) := ⟨_, rfl⟩
  have hF5 : Fr (fun _ => False) W3 W5 := by rw [hW5]; exact hf4.alloc _
  have HF5 := hide (HF3.out.trans hF5)
  have hb5 := hF5.get Hb3.out (fun e => e)
  have Hb5 := hide hb5
  have Hk5 := hide (Hk3.out.quiet hF5)
  have hr5 : W5.heap[W4.heap.size]? = some (.cells #[.int .i64 0, .int .i64 0, .string ⟨#[]⟩, .slice none 0 0, .int .i64 0, .int .i64 0, .int .i64 0, .int .i64 0, .int .i64 0, .int .i64 3] 36 (0, 0)) := by rw [hW5]; exact blk_new _ _
  have r50 : W5.cell? ⟨W4.heap.size, 0, none⟩ = some (.int .i64 0) := by rw [blk_cell hr5]; rfl
  have r52 : W5.cell? ⟨W4.heap.size, 2, none⟩ = some (.string ⟨#[]⟩) := by rw [blk_cell hr5]; rfl
  have r59 : W5.cell? ⟨W4.heap.size, 9, none⟩ = some (.int .i64 3) := by rw [blk_cell hr5]; rfl
  have e50 : W5.cell? ⟨W.heap.size, 0, none⟩ = some (.int .i64 no) := by rw [blk_cell hb5]; rfl
  have e51 : W5.cell? ⟨W.heap.size, 1, none⟩ = some (.int .i64 ca) := by rw [blk_cell hb5]; rfl
  have e52 : W5.cell? ⟨W.heap.size, 2, none⟩ = some (.int .i64 cb) := by rw [blk_cell hb5]; rfl
  have e53 : W5.cell? ⟨W.heap.size, 3, none⟩ = some (.string cs) := by rw [blk_cell hb5]; rfl
  have e54 : W5.cell? ⟨W.heap.size, 4, none⟩ = some (.string ct) := by rw [blk_cell hb5]; rfl
  have e55 : W5.cell? ⟨W.heap.size, 5, none⟩ = some (.slice pa pl pn) := by rw [blk_cell hb5]; rfl
  have HW5 := hide hW5
  clear hW5 hF5 hf4 Hb3 HF3 Hk3 Hcn hr5 e30 e31 e32 e33 e34 e35 hb5
  go_upto_region 7 with (fail)
  rw [← HW5.out]
  go_wp2_with fail
  refine (Hwn.out _).mono ?_
  rintro e W6 ⟨rfl, hf6⟩
  have HF6 := hide (HF5.out.trans hf6)
  have Hb6 := hide (hf6.get Hb5.out (fun e => e))
  have hb6 := hf6.get Hb5.out (fun e => e)
  have Hk6 := hide (Hk5.out.quiet hf6)
  have e60 : W6.cell? ⟨W.heap.size, 0, none⟩ = some (.int .i64 no) := by rw [blk_cell hb6]; rfl
  have e61 : W6.cell? ⟨W.heap.size, 1, none⟩ = some (.int .i64 ca) := by rw [blk_cell hb6]; rfl
  have e62 : W6.cell? ⟨W.heap.size, 2, none⟩ = some (.int .i64 cb) := by rw [blk_cell hb6]; rfl
  have e63 : W6.cell? ⟨W.heap.size, 3, none⟩ = some (.string cs) := by rw [blk_cell hb6]; rfl
  have e64 : W6.cell? ⟨W.heap.size, 4, none⟩ = some (.string ct) := by rw [blk_cell hb6]; rfl
  have e65 : W6.cell? ⟨W.heap.size, 5, none⟩ = some (.slice pa pl pn) := by rw [blk_cell hb6]; rfl
  have Hty := hide (fun w s => type_nil w s)
  have Hou := hide (fun w n => output_nil w n)
  have Hfi := hide (fun w => files_nil w)
  have Htp := hide (fun w => typed_nil w)
  clear hf6 HF5 Hb5 Hk5 Hwn HW5 e50 e51 e52 e53 e54 e55 hb6 r50 r52 r59
  go_wp2_with fail
  refine (Hty.out _ _).mono ?_
  rintro e w7 ⟨rfl, rfl⟩
  go_wp2_with fail
  refine (Hou.out _ _).mono ?_
  rintro e w7 ⟨rfl, rfl⟩
  go_wp2_with fail
  refine (Hfi.out _).mono ?_
  rintro e w7 ⟨rfl, rfl⟩
  go_wp2_with fail
  refine (Htn.out _).mono ?_
  rintro e w7 ⟨rfl, rfl⟩
  go_wp2_with fail
  refine (Htp.out _).mono ?_
  rintro e w7 ⟨rfl, rfl⟩
  clear Hty Hou Hfi Htp Htn
  by_cases h1 : pid = 1
  · subst h1
    have Hend := hide (show LawPost W (.returned (.bool true)) w7 from ⟨rfl, HF6.out.below (fun _ _ h => h)⟩)
    go_wp2_with fail
    go_ret
    exact Hend.out
  have hp1 : (pid == 1) = false := by simpa using h1
  have hl := Hlv.out h1
  have Hcl := hide (Hck.out _ _ _ _ Hk6.out hl)
  have Hl := hide hl
  clear hl Hck Hlv
  go_wp2_with fail
  refine Hcl.out.mono ?_
  rintro e W8 ⟨rfl, hf8⟩
  obtain ⟨W9, hW9⟩ : ∃ X, X = W8.alloc (.cells #[.int .i64 0, .int .i64 0, .string ⟨#[]⟩, .slice none 0 0, .int .i64 0, .int .i64 0, .int .i64 0, .int .i64 0, .int .i64 0, .int .i64 3] 36 (0, 0)) := ⟨_, rfl⟩
  have hF9 : Fr (fun _ => False) w7 W9 := by rw [hW9]; exact hf8.alloc _
  have HF9 := hide (HF6.out.trans hF9)
  have hb9 := hF9.get Hb6.out (fun e => e)
  have Hk9 := hide (Hk6.out.quiet hF9)
  have hr9 : W9.heap[W8.heap.size]? = some (.cells #[.int .i64 0, .int .i64 0, .string ⟨#[]⟩, .slice none 0 0, .int .i64 0, .int .i64 0, .int .i64 0, .int .i64 0, .int .i64 0, .int .i64 3] 36 (0, 0)) := by rw [hW9]; exact blk_new _ _
  have r99 : W9.cell? ⟨W8.heap.size, 9, none⟩ = some (.int .i64 3) := by rw [blk_cell hr9]; rfl
  have e90 : W9.cell? ⟨W.heap.size, 0, none⟩ = some (.int .i64 no) := by rw [blk_cell hb9]; rfl
  have e91 : W9.cell? ⟨W.heap.size, 1, none⟩ = some (.int .i64 ca) := by rw [blk_cell hb9]; rfl
  have e92 : W9.cell? ⟨W.heap.size, 2, none⟩ = some (.int .i64 cb) := by rw [blk_cell hb9]; rfl
  have e93 : W9.cell? ⟨W.heap.size, 3, none⟩ = some (.string cs) := by rw [blk_cell hb9]; rfl
  have e94 : W9.cell? ⟨W.heap.size, 4, none⟩ = some (.string ct) := by rw [blk_cell hb9]; rfl
  have e95 : W9.cell? ⟨W.heap.size, 5, none⟩ = some (.slice pa pl pn) := by rw [blk_cell hb9]; rfl
  have HW9 := hide hW9
  clear hW9 hF9 hf8 Hb6 HF6 Hk6 Hcl hr9 hb9
  go_upto_region 12 with (fail)
  rw [← HW9.out]
  clear e60 e61 e62 e63 e64 e65 HW9
  go_wp2_with fail
  refine (Hwk.out _ _ _ _ Hk9.out Hl.out).mono ?_
  rintro e W10 ⟨rfl, hk10, hf10⟩
  have HF10 := hide (HF9.out.trans' hf10 (fun _ _ e => e))
  have Hk10 := hide hk10
  clear hk10 hf10 HF9 Hk9 Hwk r99 e90 e91 e92 e93 e94 e95
  go_wp2_with fail
  refine (Htd.out _ _ _ _ Hk10.out (by decide)).mono ?_
  rintro e W11 ⟨rfl, hf11⟩
  have HF11 := hide (HF10.out.trans hf11)
  have Hk11 := hide (Hk10.out.quiet hf11)
  clear hf11 HF10 Hk10 Htd
  go_wp2_with fail
  refine (Htk.out _ _ _ _ Hk11.out Hl.out).mono ?_
  rintro e w12 ⟨rfl, rfl⟩
  have Hend := hide (show LawPost W (.returned (.bool true)) w12 from ⟨rfl, HF11.out.below (fun _ _ h => h)⟩)
  go_wp2_with fail
  go_ret
  exact Hend.out
end Go.Proofs.YtdnbfhcbcdodmaaGreatDoor

/- What the walks over calls are told of their argument: a call by value; a row of calls. No condition. -/
namespace Go.Proofs.YtdnbfhcbcdodmaaGreatDoor
open Go.ChangeShapes Go.WideShapes Go.ChangeAt Go.RowKit Go.Deep

theorem cells_six {v : Value} {a b c d e f : Value} (h : v.cells.toList = [a, b, c, d, e, f]) : v = .agg #[a, b, c, d, e, f] := by
  cases v <;> simp [Value.cells] at h
  rename_i x
  congr 1
  apply Array.toList_inj.1
  simpa using h
section
variable {H : Type} {enc : TypeId × Value → H} {P : Program} {w : World} {base : Nat} {spare : Nat → Bool} {held : Bool}
end
end Go.Proofs.YtdnbfhcbcdodmaaGreatDoor

/- What a walk is told of an argument that is a call. No condition. -/
namespace Go.Proofs.YtdnbfhcbcdodmaaGreatDoor
open Go.ChangeShapes Go.WideShapes Go.ChangeAt Go.RowKit Go.Deep

theorem sys_arg {H : Type} {enc : TypeId × Value → H} {W : World} {base : Nat} {sp : Nat → Bool} {held : Bool} {v : Value} {d : DataW H} {ps : List MemPlace}
    (h : DataW.Trod enc Tryz.prog W base sp held 28 v d ps) (_ : ∀ m ∈ d.weights Tryz.prog 28, m ≤ reachBytes) : ∃ c : SysQ, SysOk c ∧ v = sysV c := by
  obtain ⟨fuel, hf⟩ := h
  obtain ⟨c, hc, e⟩ := sys_fields hf
  exact ⟨c, hc, cells_six e⟩
end Go.Proofs.YtdnbfhcbcdodmaaGreatDoor
