/- The walk of GateOffsets: it returns true and leaves old memory as it was. Conditions: the row of numbers reads as a row of numbers. -/
import Derived.Test.YtffekmjoenppaaaGreatDoorKerAwake
import Derived.Test.YtffekmjoenppaaaGreatDoorKerAwake
namespace Go.Proofs.YtffekmjoenppaaaGreatDoor
open Go.RowKit

attribute [local go_sem] Oper.semAt_some

theorem KAt.less {z : Nat} {l : List Nat} {W : World} {k : Nat} {K : KQ} {N : Nat} (h : KAt (AL z l) W k K N) (hg : glB < z) : KAt (AL z []) W k K N :=
  h.more (Fr.refl _ _) (fun b e => by
    rcases e with e | e
    · exact .inl (.inl e)
    · cases e) (.inl hg)
def OffRel (W0 : World) (k : Nat) (l : List UInt8) (len gk : Nat) (got i : Value) (w : World) : Prop :=
  ∃ (j p : Nat) (gt : ByteArray), gk + j = len ∧ i = .int .i64 j ∧ p ≤ l.length ∧ got = .string gt ∧ gt.data.toList = l.take p ∧ KAt (AL W0.heap.size []) w k (kb7 l p) 53 ∧ Fr (fun _ => False) W0 w
set_option maxRecDepth 100000 in
set_option maxHeartbeats 4000000 in
theorem goff_walk (s : ByteArray) (a : Option Addr) (len cap : Nat) (W : World) (hml : Ml W) (hs : s.size ≤ 9223372036854775807) (hr : IntRow W a len) :
    Calls Tryz.prog 3 #[.string s, .slice a len cap] W (LawPost W) := by
  have hl1 := hr.1
  have hawake := hide (awake12_any W hml)
  go_enter Tryz.func3, Tryz.ntmps3
  go_wp2_with fail
  refine hawake.out.mono ?_
  rintro e W0 ⟨rfl, hf0⟩
  have hret : LawPost W (.returned (.bool true)) W0 := ⟨rfl, hf0.below (fun _ _ h => h)⟩
  have Hret := hide hret
  have hml0 := hml.frame hf0 (fun e => e)
  have Hml := hide hml0
  have HfW := hide hf0
  clear hret hml0 hf0 hawake
  by_cases h1 : 1000 < (s.size : Int)
  · go_wp2_with fail
    go_ret
    exact Hret.out
  by_cases h2 : 40 < (len : Int)
  · go_wp2_with fail
    go_ret
    exact Hret.out
  have hnew := hide (knew_at W0 Hml.out)
  go_wp2_with fail
  refine hnew.out.mono ?_
  rintro e W1 ⟨k, rfl, hk1, hF1⟩
  have hgl : glB < W0.heap.size := by obtain ⟨m, hm⟩ := Hml.out; exact World.block_lt_of_cell? _ _ hm
  have hk1 : KAt (AL W0.heap.size []) W1 k newK 5 := hk1.more (Fr.refl _ _) (fun b e => e.elim .inl (fun e => by cases e)) (.inl hgl)
  have hs1000 : s.size ≤ 1000 := by omega
  obtain ⟨l, hl⟩ : ∃ l, l = s.data.toList := ⟨_, rfl⟩
  have hll : l.length = s.size := by rw [hl, ba_len]
  have Hgl := hide hgl
  have Hl := hide hl
  clear hnew hgl hl
  have hc1 := call_lit (open_at hk1 (by decide) 1 (by decide) (sq 3 7 420 fB) rfl rfl kawk_l1 (by decide)) (v := .tuple #[.agg #[.int .i64 3, .int .i64 0, .string ⟨#[]⟩, .slice none 0 0, .int .i64 0, .int .i64 0, .int .i64 0, .int .i64 0, .int .i64 0, .int .i64 0], .bool false]) (K' := kb1) (by
    rw [show ((false, openA newK (1 : Int).toNat (sq 3 7 420 fB).s (sq 3 7 420 fB).a (sq 3 7 420 fB).b) : Bool × ResQ × KQ).2.1 = { noRes with n := 3 } from koff_1]; rfl) rfl
  have Hc1 := hide hc1
  unfold sysV sq ptrAt noBy fB at Hc1
  have HF1 := hide hF1
  clear hc1 hk1 hF1
  go_wp2_with fail
  refine Hc1.out.mono ?_
  rintro e w2 ⟨rfl, hk2, hf2⟩
  have hF2 : Fr (fun _ => False) W0 w2 := al_fr HF1.out hf2
  clear hf2 Hc1 HF1
  have hc2 := call_lit (write_fil_at (M := 10) hk2 (by decide) 1 (by decide) (sq 2 3 0 s) rfl rfl koff_l1 (fun hv => hk2.ok.writeF koff_d1.1 koff_d1.2.2.1 ⟨by decide, by rw [koff_d1.2.2.2.2.2.2]; decide⟩ hv) 4 koff_d1.1 hs koff_d1.2.1 koff_d1.2.2.1 koff_d1.2.2.2.2.1) (v := .tuple #[.agg #[.int .i64 s.size, .int .i64 0, .string ⟨#[]⟩, .slice none 0 0, .int .i64 0, .int .i64 0, .int .i64 0, .int .i64 0, .int .i64 0, .int .i64 0], .bool false]) (K' := kb2 l) (by
    rw [show writeQ kb1 (1 : Int).toNat (sq 2 3 0 s).a (sq 2 3 0 s).s = _ from koff_2 hs1000]; rfl) (by rw [show writeQ kb1 (1 : Int).toNat (sq 2 3 0 s).a (sq 2 3 0 s).s = _ from koff_2 hs1000, Hl.out]; rfl)
  have Hc2 := hide hc2
  unfold sysV sq ptrAt noBy at Hc2
  have HF2 := hide hF2
  clear hc2 hk2 hF2
  go_wp2_with fail
  refine Hc2.out.mono ?_
  rintro e w3 ⟨rfl, hk3, hf3⟩
  obtain ⟨W3, hW3⟩ : ∃ W, W = w3.alloc (.cells #[.int .i64 s.size, .int .i64 0, .string ⟨#[]⟩, .slice none 0 0, .int .i64 0, .int .i64 0, .int .i64 0, .int .i64 0, .int .i64 0, .int .i64 0] 31 (0, 0)) := ⟨_, rfl⟩
  have hF3 : Fr (fun _ => False) W0 W3 := by rw [hW3]; exact (al_fr HF2.out hf3).alloc _
  have hb2 : W3.heap[w3.heap.size]? = some (.cells #[.int .i64 s.size, .int .i64 0, .string ⟨#[]⟩, .slice none 0 0, .int .i64 0, .int .i64 0, .int .i64 0, .int .i64 0, .int .i64 0, .int .i64 0] 31 (0, 0)) := by rw [hW3]; exact blk_new _ _
  have hk3 := hk3.push (.cells #[.int .i64 s.size, .int .i64 0, .string ⟨#[]⟩, .slice none 0 0, .int .i64 0, .int .i64 0, .int .i64 0, .int .i64 0, .int .i64 0, .int .i64 0] 31 (0, 0))
  rw [← hW3] at hk3
  have HWW3 := hide hW3
  clear hW3
  clear hf3 Hc2 HF2
  have hc3 := call_lit (open_at hk3 (by decide) 1 (by decide) (sq 3 1 0 fB) rfl rfl (koff_l2 l) (by decide)) (v := .tuple #[.agg #[.int .i64 4, .int .i64 0, .string ⟨#[]⟩, .slice none 0 0, .int .i64 0, .int .i64 0, .int .i64 0, .int .i64 0, .int .i64 0, .int .i64 0], .bool false]) (K' := kb3 l) (by
    rw [show ((false, openA (kb2 l) (1 : Int).toNat (sq 3 1 0 fB).s (sq 3 1 0 fB).a (sq 3 1 0 fB).b) : Bool × ResQ × KQ).2.1 = { noRes with n := 4 } from koff_3 l]; rfl) rfl
  have Hc3 := hide hc3
  unfold sysV sq ptrAt noBy fB at Hc3
  have Hb2 := hide hb2
  have HF3 := hide hF3
  clear hc3 hk3 hF3 hb2
  go_wp2_with fail
  rw [← HWW3.out]
  refine Hc3.out.mono ?_
  rintro e w4 ⟨rfl, hk4, hf4⟩
  obtain ⟨W4, hW4⟩ : ∃ W, W = w4.alloc (.cells #[.int .i64 4, .int .i64 0, .string ⟨#[]⟩, .slice none 0 0, .int .i64 0, .int .i64 0, .int .i64 0, .int .i64 0, .int .i64 0, .int .i64 0] 31 (0, 0)) := ⟨_, rfl⟩
  have hF4 : Fr (fun _ => False) W0 W4 := by rw [hW4]; exact (al_fr HF3.out hf4).alloc _
  have hb2 := blk_alloc (al_get hf4 Hb2.out (by simp)) (.cells #[.int .i64 4, .int .i64 0, .string ⟨#[]⟩, .slice none 0 0, .int .i64 0, .int .i64 0, .int .i64 0, .int .i64 0, .int .i64 0, .int .i64 0] 31 (0, 0))
  rw [← hW4] at hb2
  have hb3 : W4.heap[w4.heap.size]? = some (.cells #[.int .i64 4, .int .i64 0, .string ⟨#[]⟩, .slice none 0 0, .int .i64 0, .int .i64 0, .int .i64 0, .int .i64 0, .int .i64 0, .int .i64 0] 31 (0, 0)) := by rw [hW4]; exact blk_new _ _
  have hk4 := hk4.push (.cells #[.int .i64 4, .int .i64 0, .string ⟨#[]⟩, .slice none 0 0, .int .i64 0, .int .i64 0, .int .i64 0, .int .i64 0, .int .i64 0, .int .i64 0] 31 (0, 0))
  rw [← hW4] at hk4
  have HWW4 := hide hW4
  clear hW4
  clear hf4 Hc3 HF3 Hb2 HWW3
  have hc4 := call_lit (dup_at hk4 (by decide) 1 (by decide) (sq 5 4 10 noBy) rfl rfl (koff_l3 l)) (v := .tuple #[.agg #[.int .i64 10, .int .i64 0, .string ⟨#[]⟩, .slice none 0 0, .int .i64 0, .int .i64 0, .int .i64 0, .int .i64 0, .int .i64 0, .int .i64 0], .bool false]) (K' := kb4 l) (by
    rw [show ((false, dupQ (kb3 l) (1 : Int).toNat true (sq 5 4 10 noBy).a (sq 5 4 10 noBy).b) : Bool × ResQ × KQ).2.1 = { noRes with n := 10 } from koff_4 l]; rfl) rfl
  have Hc4 := hide hc4
  unfold sysV sq ptrAt noBy at Hc4
  have Hb2 := hide hb2
  have Hb3 := hide hb3
  have HF4 := hide hF4
  clear hc4 hk4 hF4 hb2 hb3
  go_wp2_with fail
  rw [← HWW4.out]
  refine Hc4.out.mono ?_
  rintro e w5 ⟨rfl, hk5, hf5⟩
  obtain ⟨W5, hW5⟩ : ∃ W, W = w5.alloc (.cells #[.int .i64 10, .int .i64 0, .string ⟨#[]⟩, .slice none 0 0, .int .i64 0, .int .i64 0, .int .i64 0, .int .i64 0, .int .i64 0, .int .i64 0] 31 (0, 0)) := ⟨_, rfl⟩
  have hF5 : Fr (fun _ => False) W0 W5 := by rw [hW5]; exact (al_fr HF4.out hf5).alloc _
  have hb2 := blk_alloc (al_get hf5 Hb2.out (by simp)) (.cells #[.int .i64 10, .int .i64 0, .string ⟨#[]⟩, .slice none 0 0, .int .i64 0, .int .i64 0, .int .i64 0, .int .i64 0, .int .i64 0, .int .i64 0] 31 (0, 0))
  rw [← hW5] at hb2
  have hb3 := blk_alloc (al_get hf5 Hb3.out (by simp)) (.cells #[.int .i64 10, .int .i64 0, .string ⟨#[]⟩, .slice none 0 0, .int .i64 0, .int .i64 0, .int .i64 0, .int .i64 0, .int .i64 0, .int .i64 0] 31 (0, 0))
  rw [← hW5] at hb3
  have hb4 : W5.heap[w5.heap.size]? = some (.cells #[.int .i64 10, .int .i64 0, .string ⟨#[]⟩, .slice none 0 0, .int .i64 0, .int .i64 0, .int .i64 0, .int .i64 0, .int .i64 0, .int .i64 0] 31 (0, 0)) := by rw [hW5]; exact blk_new _ _
  have hk5 := hk5.push (.cells #[.int .i64 10, .int .i64 0, .string ⟨#[]⟩, .slice none 0 0, .int .i64 0, .int .i64 0, .int .i64 0, .int .i64 0, .int .i64 0, .int .i64 0] 31 (0, 0))
  rw [← hW5] at hk5
  have HWW5 := hide hW5
  clear hW5
  clear hf5 Hc4 HF4 Hb2 Hb3 HWW4
  have hc5 := call_lit (fork_at hk5 (by decide) 1 (by decide) (sq 8 0 0 noBy) rfl rfl (koff_l4 l)) (v := .tuple #[.agg #[.int .i64 2, .int .i64 0, .string ⟨#[]⟩, .slice none 0 0, .int .i64 0, .int .i64 0, .int .i64 0, .int .i64 0, .int .i64 0, .int .i64 0], .bool false]) (K' := kb5 l) (by
    rw [show ((false, forkQ (kb4 l) (1 : Int).toNat) : Bool × ResQ × KQ).2.1 = { noRes with n := 2 } from koff_5 l]; rfl) rfl
  have Hc5 := hide hc5
  unfold sysV sq ptrAt noBy at Hc5
  have Hb2 := hide hb2
  have Hb3 := hide hb3
  have Hb4 := hide hb4
  have HF5 := hide hF5
  clear hc5 hk5 hF5 hb2 hb3 hb4
  go_wp2_with fail
  rw [← HWW5.out]
  refine Hc5.out.mono ?_
  rintro e w6 ⟨rfl, hk6, hf6⟩
  obtain ⟨W6, hW6⟩ : ∃ W, W = w6.alloc (.cells #[.int .i64 2, .int .i64 0, .string ⟨#[]⟩, .slice none 0 0, .int .i64 0, .int .i64 0, .int .i64 0, .int .i64 0, .int .i64 0, .int .i64 0] 31 (0, 0)) := ⟨_, rfl⟩
  have hF6 : Fr (fun _ => False) W0 W6 := by rw [hW6]; exact (al_fr HF5.out hf6).alloc _
  have hb2 := blk_alloc (al_get hf6 Hb2.out (by simp)) (.cells #[.int .i64 2, .int .i64 0, .string ⟨#[]⟩, .slice none 0 0, .int .i64 0, .int .i64 0, .int .i64 0, .int .i64 0, .int .i64 0, .int .i64 0] 31 (0, 0))
  rw [← hW6] at hb2
  have hb3 := blk_alloc (al_get hf6 Hb3.out (by simp)) (.cells #[.int .i64 2, .int .i64 0, .string ⟨#[]⟩, .slice none 0 0, .int .i64 0, .int .i64 0, .int .i64 0, .int .i64 0, .int .i64 0, .int .i64 0] 31 (0, 0))
  rw [← hW6] at hb3
  have hb4 := blk_alloc (al_get hf6 Hb4.out (by simp)) (.cells #[.int .i64 2, .int .i64 0, .string ⟨#[]⟩, .slice none 0 0, .int .i64 0, .int .i64 0, .int .i64 0, .int .i64 0, .int .i64 0, .int .i64 0] 31 (0, 0))
  rw [← hW6] at hb4
  have hb5 : W6.heap[w6.heap.size]? = some (.cells #[.int .i64 2, .int .i64 0, .string ⟨#[]⟩, .slice none 0 0, .int .i64 0, .int .i64 0, .int .i64 0, .int .i64 0, .int .i64 0, .int .i64 0] 31 (0, 0)) := by rw [hW6]; exact blk_new _ _
  have hk6 := hk6.push (.cells #[.int .i64 2, .int .i64 0, .string ⟨#[]⟩, .slice none 0 0, .int .i64 0, .int .i64 0, .int .i64 0, .int .i64 0, .int .i64 0, .int .i64 0] 31 (0, 0))
  rw [← hW6] at hk6
  have HWW6 := hide hW6
  clear hW6
  clear hf6 Hc5 HF5 Hb2 Hb3 Hb4 HWW5
  have hc6 := call_lit (open_at hk6 (by decide) 1 (by decide) (sq 3 1 0 fB) rfl rfl (koff_l5 l) (by decide)) (v := .tuple #[.agg #[.int .i64 5, .int .i64 0, .string ⟨#[]⟩, .slice none 0 0, .int .i64 0, .int .i64 0, .int .i64 0, .int .i64 0, .int .i64 0, .int .i64 0], .bool false]) (K' := kb6 l) (by
    rw [show ((false, openA (kb5 l) (1 : Int).toNat (sq 3 1 0 fB).s (sq 3 1 0 fB).a (sq 3 1 0 fB).b) : Bool × ResQ × KQ).2.1 = { noRes with n := 5 } from koff_6 l]; rfl) rfl
  have Hc6 := hide hc6
  unfold sysV sq ptrAt noBy fB at Hc6
  have Hb2 := hide hb2
  have Hb3 := hide hb3
  have Hb4 := hide hb4
  have Hb5 := hide hb5
  have HF6 := hide hF6
  clear hc6 hk6 hF6 hb2 hb3 hb4 hb5
  go_wp2_with fail
  rw [← HWW6.out]
  refine Hc6.out.mono ?_
  rintro e w7 ⟨rfl, hk7, hf7⟩
  obtain ⟨W7, hW7⟩ : ∃ W, W = w7.alloc (.cells #[.int .i64 5, .int .i64 0, .string ⟨#[]⟩, .slice none 0 0, .int .i64 0, .int .i64 0, .int .i64 0, .int .i64 0, .int .i64 0, .int .i64 0] 31 (0, 0)) := ⟨_, rfl⟩
  have hF7 : Fr (fun _ => False) W0 W7 := by rw [hW7]; exact (al_fr HF6.out hf7).alloc _
  have hb2 := blk_alloc (al_get hf7 Hb2.out (by simp)) (.cells #[.int .i64 5, .int .i64 0, .string ⟨#[]⟩, .slice none 0 0, .int .i64 0, .int .i64 0, .int .i64 0, .int .i64 0, .int .i64 0, .int .i64 0] 31 (0, 0))
  rw [← hW7] at hb2
  have hb3 := blk_alloc (al_get hf7 Hb3.out (by simp)) (.cells #[.int .i64 5, .int .i64 0, .string ⟨#[]⟩, .slice none 0 0, .int .i64 0, .int .i64 0, .int .i64 0, .int .i64 0, .int .i64 0, .int .i64 0] 31 (0, 0))
  rw [← hW7] at hb3
  have hb4 := blk_alloc (al_get hf7 Hb4.out (by simp)) (.cells #[.int .i64 5, .int .i64 0, .string ⟨#[]⟩, .slice none 0 0, .int .i64 0, .int .i64 0, .int .i64 0, .int .i64 0, .int .i64 0, .int .i64 0] 31 (0, 0))
  rw [← hW7] at hb4
  have hb5 := blk_alloc (al_get hf7 Hb5.out (by simp)) (.cells #[.int .i64 5, .int .i64 0, .string ⟨#[]⟩, .slice none 0 0, .int .i64 0, .int .i64 0, .int .i64 0, .int .i64 0, .int .i64 0, .int .i64 0] 31 (0, 0))
  rw [← hW7] at hb5
  have hb6 : W7.heap[w7.heap.size]? = some (.cells #[.int .i64 5, .int .i64 0, .string ⟨#[]⟩, .slice none 0 0, .int .i64 0, .int .i64 0, .int .i64 0, .int .i64 0, .int .i64 0, .int .i64 0] 31 (0, 0)) := by rw [hW7]; exact blk_new _ _
  have hk7 := hk7.push (.cells #[.int .i64 5, .int .i64 0, .string ⟨#[]⟩, .slice none 0 0, .int .i64 0, .int .i64 0, .int .i64 0, .int .i64 0, .int .i64 0, .int .i64 0] 31 (0, 0))
  rw [← hW7] at hk7
  have HWW7 := hide hW7
  clear hW7
  clear hf7 Hc6 HF6 Hb2 Hb3 Hb4 Hb5 HWW6
  have a2 : W7.cell? ⟨w3.heap.size, 0, none⟩ = some (.int .i64 s.size) := by rw [blk_cell hb2]; rfl
  have a3 : W7.cell? ⟨w4.heap.size, 0, none⟩ = some (.int .i64 4) := by rw [blk_cell hb3]; rfl
  have a4 : W7.cell? ⟨w5.heap.size, 0, none⟩ = some (.int .i64 10) := by rw [blk_cell hb4]; rfl
  have a5 : W7.cell? ⟨w6.heap.size, 0, none⟩ = some (.int .i64 2) := by rw [blk_cell hb5]; rfl
  have a6 : W7.cell? ⟨w7.heap.size, 0, none⟩ = some (.int .i64 5) := by rw [blk_cell hb6]; rfl
  rw [HWW7.out] at a2 a3 a4 a5 a6
  have hstart : OffRel W0 k l len len (.string ⟨#[]⟩) (.int .i64 0) W7 := ⟨0, 0, ⟨#[]⟩, by omega, rfl, Nat.zero_le _, rfl, by simp, by rw [koff_70]; exact (hk7.less Hgl.out).mono (by decide), hF7⟩
  have Hstart := hide hstart
  clear hb2 hb3 hb4 hb5 hb6 hk7 hF7 hstart
  go_upto_region 15 with (fail)
  rw [← HWW7.out]
  clear a2 a3 a4 a5 a6
  go_wp2_with fail
  go_outline
  go_loopg [16, 97] len (fun gk got i wr => OffRel W0 k l len gk got i wr)
  case atStart => exact Hstart.out
  case round =>
    clear Hstart
    obtain ⟨j, p, gt, hgk, rfl, hp, rfl, hgt, hk, hfr⟩ := hrel
    have Hgk := hide hgk
    have Hgt := hide hgt
    have Hk := hide hk
    have Hfr := hide hfr
    clear hgk hgt hk
    by_cases hlt : j < len
    · obtain ⟨cb, co, rfl, hrow⟩ := hr.2.resolve_left (by omega)
      obtain ⟨wv, c0, hwv1, hwv2⟩ := hrow j hlt
      have d0 : wr.cell? ⟨cb, co + j, none⟩ = some (.int .i64 wv) := by rw [World.cell?_of_block (w := W) ((HfW.out.trans hfr).block _ (World.block_lt_of_cell? _ _ c0) (fun h => h))]; exact c0
      clear hrow c0 hfr
      have hm3 : (j : Int).tmod 3 = 0 ∨ (j : Int).tmod 3 = 1 ∨ (j : Int).tmod 3 = 2 := by
        have := Int.tmod_nonneg 3 (show (0 : Int) ≤ (j : Int) by omega)
        have := Int.tmod_lt_of_pos (j : Int) (show (0 : Int) < 3 by decide)
        omega
      obtain ⟨n, hn⟩ : ∃ n : Int, n = min (max wv 0) 1000 := ⟨_, rfl⟩
      have hn0 : 0 ≤ n ∧ n ≤ 1000 := by omega
      obtain ⟨rs, hrs⟩ : ∃ rs : ByteArray, rs = ⟨((l.drop p).take n.toNat).toArray⟩ := ⟨_, rfl⟩
      obtain ⟨q, hq⟩ : ∃ q, q = ((l.drop p).take n.toNat).length := ⟨_, rfl⟩
      have hql : q = min n.toNat (l.length - p) := by rw [hq, List.length_take, List.length_drop]
      have hrl : rs.size = q := by rw [← ba_len, hrs, hq]
      have hgl : gt.size = p := by rw [← ba_len, Hgt.out, List.length_take]; omega
      have hread : ∀ (pid fd : Int), fdQ (kb7 l p) pid.toNat fd = some 5 → livesB (kb7 l p) pid = true → -9223372036854775808 ≤ pid ∧ pid ≤ 9223372036854775807 → Calls Tryz.prog 7 #[.pointer (some ⟨k, 0, none⟩), .int .i64 pid, .agg #[.int .i64 1, .int .i64 fd, .int .i64 n, .string ⟨#[]⟩, .string ⟨#[]⟩, .slice none 0 0]] wr fun e w' =>
          e = .returned (.tuple #[.agg #[.int .i64 0, .int .i64 0, .string rs, .slice none 0 0, .int .i64 0, .int .i64 0, .int .i64 0, .int .i64 0, .int .i64 0, .int .i64 0], .bool false]) ∧ KAt (AL W0.heap.size []) w' k (kb7 l (p + q)) 53 ∧ Fr (fun b => ¬ AL W0.heap.size [] b) wr w' := fun pid fd e1 e2 e3 => by
        have hr5 := koff_r (l := l) (p := p) (i := pid.toNat) (fd := fd) (n := n) hn0.1 e1
        have hd5 := koff_d75 l p
        exact call_lit (read_fil_at (M := 53) Hk.out (by decide) pid e3 (sq 1 fd n noBy) rfl rfl e2 (fun _ => Hk.out.ok.readF e1 (by rw [hd5]) ⟨by decide, by rw [(koff_f7 l p).2.2.2.2]; decide⟩) 5 e1 ⟨by show _ ≤ n; omega, by show n ≤ _; omega⟩ (by rw [hd5]; rfl) hn0.1 (by rw [hd5])) (by
          rw [show readQ (kb7 l p) pid.toNat (sq 1 fd n noBy).a (sq 1 fd n noBy).b = _ from hr5, hrs]; rfl) (by
          rw [show readQ (kb7 l p) pid.toNat (sq 1 fd n noBy).a (sq 1 fd n noBy).b = _ from hr5, hq])
      have hmin : ((rs.size : Int) != min n ((s.size : Int) - (gt.size : Int))) = false := by
        have : (rs.size : Int) = min n ((s.size : Int) - (gt.size : Int)) := by rw [hrl, hgl, hql]; omega
        rw [← this]; simp
      have hgs : (gt.size : Int) ≤ 1000 := by omega
      have hrsz : rs.size ≤ 1000 := by omega
      have hgsz : gt.size ≤ 1000 := by omega
      have Hq := hide (show p + q ≤ l.length ∧ (gt ++ rs).data.toList = l.take (p + q) by
        refine ⟨by omega, ?_⟩
        rw [ba_append, Hgt.out, hrs]
        show l.take p ++ ((l.drop p).take n.toNat) = l.take (p + q)
        rw [List.take_add, hq, List.length_take]
        congr 1
        rw [List.length_drop]
        by_cases e : n.toNat ≤ l.length - p
        · rw [Nat.min_eq_left e]
        · rw [Nat.min_eq_right (by omega), List.take_of_length_le (by rw [List.length_drop]; omega), List.take_of_length_le (by rw [List.length_drop]; exact Nat.le_refl _)])
      have Hn := hide hn
      have hf1 := (koff_f7 l p).1
      have hf2 := (koff_f7 l p).2.1
      have hf3 := (koff_f7 l p).2.2.1
      have hv := koff_l7 l p
      clear hn hrs hq hql hrl hgl
      rcases hm3 with hm | hm | hm
      · have hc := hread 1 4 hf1 hv.1 (by decide)
        clear hread
        go_wp2_with fail
        rw [← Hn.out]
        refine hc.mono ?_
        rintro e w' ⟨rfl, hk', hf'⟩
        obtain ⟨W', hW'⟩ : ∃ W', W' = w'.alloc (.cells #[.int .i64 0, .int .i64 0, .string rs, .slice none 0 0, .int .i64 0, .int .i64 0, .int .i64 0, .int .i64 0, .int .i64 0, .int .i64 0] 31 (0, 0)) := ⟨_, rfl⟩
        have b' : W'.heap[w'.heap.size]? = some (.cells #[.int .i64 0, .int .i64 0, .string rs, .slice none 0 0, .int .i64 0, .int .i64 0, .int .i64 0, .int .i64 0, .int .i64 0, .int .i64 0] 31 (0, 0)) := by rw [hW']; exact blk_new _ _
        have e9 : W'.cell? ⟨w'.heap.size, 9, none⟩ = some (.int .i64 0) := by rw [blk_cell b']; rfl
        have e2 : W'.cell? ⟨w'.heap.size, 2, none⟩ = some (.string rs) := by rw [blk_cell b']; rfl
        rw [hW'] at e9 e2
        have hnext := hide (show OffRel W0 k l len (gk - 1) (.string (gt ++ rs)) (.int .i64 ((j : Int) + 1)) W' from
          ⟨j + 1, p + q, gt ++ rs, by have := Hgk.out; omega, by go_num, Hq.out.1, rfl, Hq.out.2 , by rw [hW']; exact (hk'.push _).less Hgl.out, by rw [hW']; exact (al_fr Hfr.out hf').alloc _⟩)
        have HW' := hide hW'
        clear hk' hf' hW' b'
        go_wp2_with fail
        rw [← HW'.out]
        go_roundg (gk - 1)
        case rel => exact hnext.out
        case measure => have := Hgk.out; omega
      · have hc := hread 1 10 hf2 hv.1 (by decide)
        clear hread
        go_wp2_with fail
        rw [← Hn.out]
        refine hc.mono ?_
        rintro e w' ⟨rfl, hk', hf'⟩
        obtain ⟨W', hW'⟩ : ∃ W', W' = w'.alloc (.cells #[.int .i64 0, .int .i64 0, .string rs, .slice none 0 0, .int .i64 0, .int .i64 0, .int .i64 0, .int .i64 0, .int .i64 0, .int .i64 0] 31 (0, 0)) := ⟨_, rfl⟩
        have b' : W'.heap[w'.heap.size]? = some (.cells #[.int .i64 0, .int .i64 0, .string rs, .slice none 0 0, .int .i64 0, .int .i64 0, .int .i64 0, .int .i64 0, .int .i64 0, .int .i64 0] 31 (0, 0)) := by rw [hW']; exact blk_new _ _
        have e9 : W'.cell? ⟨w'.heap.size, 9, none⟩ = some (.int .i64 0) := by rw [blk_cell b']; rfl
        have e2 : W'.cell? ⟨w'.heap.size, 2, none⟩ = some (.string rs) := by rw [blk_cell b']; rfl
        rw [hW'] at e9 e2
        have hnext := hide (show OffRel W0 k l len (gk - 1) (.string (gt ++ rs)) (.int .i64 ((j : Int) + 1)) W' from
          ⟨j + 1, p + q, gt ++ rs, by have := Hgk.out; omega, by go_num, Hq.out.1, rfl, Hq.out.2 , by rw [hW']; exact (hk'.push _).less Hgl.out, by rw [hW']; exact (al_fr Hfr.out hf').alloc _⟩)
        have HW' := hide hW'
        clear hk' hf' hW' b'
        go_wp2_with fail
        rw [← HW'.out]
        go_roundg (gk - 1)
        case rel => exact hnext.out
        case measure => have := Hgk.out; omega
      · have hc := hread 2 4 hf3 hv.2 (by decide)
        clear hread
        go_wp2_with fail
        rw [← Hn.out]
        refine hc.mono ?_
        rintro e w' ⟨rfl, hk', hf'⟩
        obtain ⟨W', hW'⟩ : ∃ W', W' = w'.alloc (.cells #[.int .i64 0, .int .i64 0, .string rs, .slice none 0 0, .int .i64 0, .int .i64 0, .int .i64 0, .int .i64 0, .int .i64 0, .int .i64 0] 31 (0, 0)) := ⟨_, rfl⟩
        have b' : W'.heap[w'.heap.size]? = some (.cells #[.int .i64 0, .int .i64 0, .string rs, .slice none 0 0, .int .i64 0, .int .i64 0, .int .i64 0, .int .i64 0, .int .i64 0, .int .i64 0] 31 (0, 0)) := by rw [hW']; exact blk_new _ _
        have e9 : W'.cell? ⟨w'.heap.size, 9, none⟩ = some (.int .i64 0) := by rw [blk_cell b']; rfl
        have e2 : W'.cell? ⟨w'.heap.size, 2, none⟩ = some (.string rs) := by rw [blk_cell b']; rfl
        rw [hW'] at e9 e2
        have hnext := hide (show OffRel W0 k l len (gk - 1) (.string (gt ++ rs)) (.int .i64 ((j : Int) + 1)) W' from
          ⟨j + 1, p + q, gt ++ rs, by have := Hgk.out; omega, by go_num, Hq.out.1, rfl, Hq.out.2 , by rw [hW']; exact (hk'.push _).less Hgl.out, by rw [hW']; exact (al_fr Hfr.out hf').alloc _⟩)
        have HW' := hide hW'
        clear hk' hf' hW' b'
        go_wp2_with fail
        rw [← HW'.out]
        go_roundg (gk - 1)
        case rel => exact hnext.out
        case measure => have := Hgk.out; omega
    · have hnlt : ¬ (j : Int) < (len : Int) := by omega
      have hd6 := koff_d6 l p
      have hls : (⟨l.toArray⟩ : ByteArray) = s := by rw [Hl.out]
      have hE := koff_e (l := l) (p := p) (by omega)
      have hgl : gt.size = p := by rw [← ba_len, Hgt.out, List.length_take]; omega
      have hc := call_lit (read_fil_at (M := 53) Hk.out (by decide) 1 (by decide) (sq 1 5 5000 noBy) rfl rfl (koff_l7 l p).1 (fun _ => Hk.out.ok.readF (koff_f7 l p).2.2.2.1 (by rw [hd6]) ⟨by decide, by rw [(koff_f7 l p).2.2.2.2]; decide⟩) 6 (koff_f7 l p).2.2.2.1 (by decide) (by rw [hd6]; rfl) (by decide) (by rw [hd6])) (v := .tuple #[.agg #[.int .i64 0, .int .i64 0, .string s, .slice none 0 0, .int .i64 0, .int .i64 0, .int .i64 0, .int .i64 0, .int .i64 0, .int .i64 0], .bool false]) (K' := (readQ (kb7 l p) 1 5 5000).2.2) (by
        rw [show (readQ (kb7 l p) (1 : Int).toNat (sq 1 5 5000 noBy).a (sq 1 5 5000 noBy).b).1 = false from hE.1, show (readQ (kb7 l p) (1 : Int).toNat (sq 1 5 5000 noBy).a (sq 1 5 5000 noBy).b).2.1 = { noRes with s := ⟨l.toArray⟩ } from hE.2, hls]; rfl) rfl
      have Hc := hide hc
      unfold sysV sq ptrAt noBy at Hc
      have hx : s.extract 0 gt.size = gt := by
        apply ba_of_data
        rw [ba_extract, Hgt.out, hgl, ← Hl.out]
        rfl
      have hgsz : gt.size ≤ s.size := by omega
      have hgi : (gt.size : Int) ≤ (s.size : Int) := by omega
      clear hc hE hls hd6 hgl
      go_wp2_with fail
      refine Hc.out.mono ?_
      rintro e w' ⟨rfl, hk', hf'⟩
      obtain ⟨W', hW'⟩ : ∃ W', W' = w'.alloc (.cells #[.int .i64 0, .int .i64 0, .string s, .slice none 0 0, .int .i64 0, .int .i64 0, .int .i64 0, .int .i64 0, .int .i64 0, .int .i64 0] 31 (0, 0)) := ⟨_, rfl⟩
      have b' : W'.heap[w'.heap.size]? = some (.cells #[.int .i64 0, .int .i64 0, .string s, .slice none 0 0, .int .i64 0, .int .i64 0, .int .i64 0, .int .i64 0, .int .i64 0, .int .i64 0] 31 (0, 0)) := by rw [hW']; exact blk_new _ _
      have e2 : W'.cell? ⟨w'.heap.size, 2, none⟩ = some (.string s) := by rw [blk_cell b']; rfl
      rw [hW'] at e2
      have hfin := hide (show LawPost W (.returned (.bool true)) W' from ⟨rfl, (HfW.out.trans (by rw [hW']; exact (al_fr Hfr.out hf').alloc _)).below (fun _ _ h => h)⟩)
      have HW' := hide hW'
      clear hk' hf' hW' b' Hc
      go_wp2_with fail
      rw [← HW'.out]
      go_ret
      exact hfin.out
end Go.Proofs.YtffekmjoenppaaaGreatDoor
