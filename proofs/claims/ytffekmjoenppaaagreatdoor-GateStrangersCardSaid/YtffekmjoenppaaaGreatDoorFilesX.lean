/- files.FS.Chmod, Hold, Drop, Stat, Count, May. Conditions: the contracts' own premises. -/
import Derived.Test.YtffekmjoenppaaaGreatDoorFilesInvB
namespace Go.Proofs.YtffekmjoenppaaaGreatDoor
open Go.RowKit

/-- An inode's counts or mode changed. -/
theorem FilesAt.statD {w : World} {f : Nat} {σ : FSt} {S : Nat → Prop} {p : Nat → Nat} (h : FilesAt w f σ S p) {i : Nat} {n : Nd} (hn : σ.nd i = some n) : ∃ dvi evi pvi,
    w.heap[p i]? = some (.cells #[.int .i64 i, .int .i64 (if n.d then 2 else 1), .int .i64 n.mode, .int .i64 n.links, .int .i64 n.holds, dvi, evi, pvi] 90 (0, 0)) ∧
    ∀ (w' : World) (n' : Nd), n'.d = n.d → n'.data = n.data → n'.ents = n.ents → n'.par = n.par → n'.mode < 512 → (n.d = true → 0 < n'.links → 0 < n.links) → Live (σ.put i (some n')) → Fr (fun k => k = p i) w w' →
      w'.heap[p i]? = some (.cells #[.int .i64 i, .int .i64 (if n.d then 2 else 1), .int .i64 n'.mode, .int .i64 n'.links, .int .i64 n'.holds, dvi, evi, pvi] 90 (0, 0)) → FilesAt w' f (σ.put i (some n')) S p ∧ Fr S w w' := by
  obtain ⟨dv, ev, pv, lv, hF⟩ := h
  have hN := hF.nd i n hn
  refine ⟨dv i, ev i, pv i, hN.hb, fun w' n' h1 h2 h3 h4 h5 h6 h7 hf hb => ⟨⟨_, _, _, _, hF.changed hf hn (fun k e => .inr (.inl e)) ?_ ⟨by rw [h1]; exact hb, ?_, fun hd => ?_, fun hd => ?_, fun hd hl => ?_, hN.ptr, h5⟩ (fun g e => .inl e) (fun m e => e) h7⟩, hf.mono (fun k _ e => e ▸ hF.ownn i (by rw [hn]; rfl))⟩⟩
  · rw [same_byts hn h2]
    exact hf.get hF.hb (fun e => cells_ne hF.hb hN.hb (by decide) e)
  · rw [h2]
    refine hN.data.frame hf (fun g e e2 => ?_)
    obtain ⟨c, hc⟩ := hN.data.blk e
    exact cells_ne hc (e2 ▸ hN.hb) (by decide) rfl
  · obtain ⟨a1, m, a2, a3⟩ := hN.dir (h1 ▸ hd)
    refine ⟨by rw [h2]; exact a1, m, a2, ?_⟩
    rw [h3]
    refine a3.frame hf (fun e => ?_)
    obtain ⟨es, clock, hm, _⟩ := a3.own
    rw [e, hN.hb] at hm; cases hm
  · obtain ⟨a1, a2⟩ := hN.file (h1 ▸ hd)
    exact ⟨a1, by rw [h3]; exact a2⟩
  · rw [h4]; exact hN.par (h1 ▸ hd) (h6 (h1 ▸ hd) hl)
theorem FilesAt.stat {w : World} {f : Nat} {σ : FSt} {S : Nat → Prop} {p : Nat → Nat} (h : FilesAt w f σ S p) {i : Nat} {n : Nd} (hn : σ.nd i = some n) : ∃ dvi evi pvi,
    w.heap[p i]? = some (.cells #[.int .i64 i, .int .i64 (if n.d then 2 else 1), .int .i64 n.mode, .int .i64 n.links, .int .i64 n.holds, dvi, evi, pvi] 90 (0, 0)) ∧
    ∀ (w' : World) (n' : Nd), n'.d = n.d → n'.data = n.data → n'.ents = n.ents → n'.par = n.par → n'.mode < 512 → (0 < n'.links → 0 < n.links) → Live (σ.put i (some n')) → Fr (fun k => k = p i) w w' →
      w'.heap[p i]? = some (.cells #[.int .i64 i, .int .i64 (if n.d then 2 else 1), .int .i64 n'.mode, .int .i64 n'.links, .int .i64 n'.holds, dvi, evi, pvi] 90 (0, 0)) → FilesAt w' f (σ.put i (some n')) S p ∧ Fr S w w' := by
  obtain ⟨a, b, c, h1, h2⟩ := h.statD hn
  exact ⟨a, b, c, h1, fun w' n' x1 x2 x3 x4 x5 x6 x7 x8 x9 => h2 w' n' x1 x2 x3 x4 x5 (fun _ => x6) x7 x8 x9⟩
theorem ndI_some {σ : FSt} {i : Int} {n : Nd} (h : σ.ndI i = some n) : ∃ k : Nat, i = k ∧ σ.nd k = some n := by
  unfold FSt.ndI at h
  split at h
  · exact ⟨i.toNat, by omega, h⟩
  · cases h
theorem ptrI_none {σ : FSt} {p : Nat → Nat} {i : Int} (h : σ.ndI i = none) : ptrI σ p i = .pointer none := by unfold ptrI; rw [h]
theorem ptrI_nat {σ : FSt} {p : Nat → Nat} {k : Nat} {n : Nd} (h : σ.nd k = some n) : ptrI σ p (k : Int) = .pointer (some ⟨p k, 0, none⟩) := by unfold ptrI; rw [ndI_nat h]; simp
def holdR (σ : FSt) (i : Int) : Int × FSt := match σ.ndI i with | none => (9, σ) | some n => (0, σ.put i.toNat (some { n with holds := n.holds + 1 }))
theorem Live.meta {σ : FSt} (h : Live σ) {i : Nat} {n n' : Nd} (hn : σ.nd i = some n) (hd : n'.d = n.d) (hl : n'.links = n.links) (he : n'.ents = n.ents) (hp : n'.par = n.par) (hdt : n'.data = n.data) : Live (σ.put i (some n')) :=
  h.rel hn hd (fun e => by obtain ⟨r, h1, _, h2⟩ := h.root; rw [e, h1] at hn; cases hn; rw [hl, h2]) he hp (fun e => by rw [← hl]; exact e) hdt
set_option maxRecDepth 100000 in
set_option maxHeartbeats 1000000 in
theorem Hold_any (w : World) (f : Nat) (σ : FSt) (S : Nat → Prop) (p : Nat → Nat) (h : FilesAt w f σ S p) (hcap : CapB σ) (i : Int) (hi : -9223372036854775808 ≤ i ∧ i ≤ 9223372036854775807) :
    Calls Tryz.prog 12 #[.pointer (some ⟨f, 0, none⟩), .int .i64 i] w (MutPost f (holdR σ i).2 S p (.int .i64 (holdR σ i).1) w) := by
  have hget := hide (fget_any w f σ S p h i hi)
  cases hn : σ.ndI i with
  | none =>
    rw [show holdR σ i = (9, σ) by unfold holdR; rw [hn]]
    rw [ptrI_none hn] at hget
    have hres := hide (MutPost.still (v := .int .i64 9) h (Fr.refl _ w))
    clear hn
    go_enter Tryz.func12, Tryz.ntmps12
    go_wp2_with fail
    refine hget.out.mono ?_
    rintro e w1 ⟨rfl, rfl⟩
    clear hget
    go_wp2_with fail
    go_ret
    exact hres.out
  | some n =>
    obtain ⟨k, rfl, hk⟩ := ndI_some hn
    rw [show holdR σ k = (0, σ.put k (some { n with holds := n.holds + 1 })) by unfold holdR; rw [hn]; simp]
    rw [ptrI_nat hk] at hget
    obtain ⟨dvi, evi, pvi, hb, hnew⟩ := h.stat hk
    have hcp := (hcap k n hk).2.1
    obtain ⟨_, _, _, hN⟩ := h.node hk
    have hmd := hN.md
    have c2 : w.cell? ⟨p k, 4, none⟩ = some (.int .i64 n.holds) := by rw [blk_cell hb]; rfl
    have z2 := blk_frozen hb 4
    have hfin := hnew (w.setCell ⟨p k, 4, none⟩ (.int .i64 ((n.holds : Int) + 1))) { n with holds := n.holds + 1 } rfl rfl rfl rfl hmd id (h.live.meta hk rfl rfl rfl rfl rfl) (frSet _ _ _ _) (by rw [blk_set hb]; rfl)
    have hres := hide (show MutPost f (σ.put k (some { n with holds := n.holds + 1 })) S p (.int .i64 0) w (.returned (.int .i64 0)) (w.setCell ⟨p k, 4, none⟩ (.int .i64 ((n.holds : Int) + 1))) from ⟨rfl, hfin.1, hfin.2⟩)
    clear hn hk hnew hfin hb hN
    go_enter Tryz.func12, Tryz.ntmps12
    go_wp2_with fail
    refine hget.out.mono ?_
    rintro e w1 ⟨rfl, rfl⟩
    clear hget
    go_wp2_with fail
    go_ret
    exact hres.out
/-- Are these bits there? -/
def mayR (σ : FSt) (i k : Int) : Bool := match σ.ndI i with | none => false | some n => if 1 ≤ k ∧ k ≤ 7 then mayN n.mode k.toNat else false
set_option maxRecDepth 100000 in
theorem May_any (w : World) (f : Nat) (σ : FSt) (S : Nat → Prop) (p : Nat → Nat) (h : FilesAt w f σ S p) (i k : Int) (hi : -9223372036854775808 ≤ i ∧ i ≤ 9223372036854775807) (hk : -9223372036854775808 ≤ k ∧ k ≤ 9223372036854775807) :
    Calls Tryz.prog 64 #[.pointer (some ⟨f, 0, none⟩), .int .i64 i, .int .i64 k] w fun e w' => e = .returned (.bool (mayR σ i k)) ∧ w' = w := by
  have hget := hide (fget_any w f σ S p h i hi)
  cases hn : σ.ndI i with
  | none =>
    rw [show mayR σ i k = false by unfold mayR; rw [hn]]
    rw [ptrI_none hn] at hget
    clear hn
    go_enter Tryz.func64, Tryz.ntmps64
    go_wp2_with fail
    refine hget.out.mono ?_
    rintro e w1 ⟨rfl, rfl⟩
    clear hget
    go_wp2_with fail
    go_ret
    exact ⟨rfl, rfl⟩
  | some n =>
    obtain ⟨j, rfl, hj⟩ := ndI_some hn
    have hdef : mayR σ j k = if 1 ≤ k ∧ k ≤ 7 then mayN n.mode k.toNat else false := by unfold mayR; rw [hn]
    rw [ptrI_nat hj] at hget
    obtain ⟨_, _, _, hN⟩ := h.node hj
    by_cases h1 : 1 ≤ k
    · by_cases h7 : k ≤ 7
      · rw [hdef, if_pos ⟨h1, h7⟩]
        obtain ⟨q, rfl⟩ : ∃ q : Nat, k = q := ⟨k.toNat, by omega⟩
        have hmay := hide (may_any w p (p j) j n _ _ _ hN q (by omega))
        simp only [Int.toNat_natCast]
        clear hdef hn hN
        generalize mayN n.mode q = b at *
        go_enter Tryz.func64, Tryz.ntmps64
        go_wp2_with fail
        refine hget.out.mono ?_
        rintro e w1 ⟨rfl, rfl⟩
        clear hget
        go_wp2_with fail
        refine hmay.out.mono ?_
        rintro e w1 ⟨rfl, rfl⟩
        clear hmay
        cases b
        all_goals
          go_wp2_with fail
          go_ret
          exact ⟨rfl, rfl⟩
      · rw [hdef, if_neg (fun e => h7 e.2)]
        clear hdef hn hN
        go_enter Tryz.func64, Tryz.ntmps64
        go_wp2_with fail
        refine hget.out.mono ?_
        rintro e w1 ⟨rfl, rfl⟩
        clear hget
        go_wp2_with fail
        go_ret
        exact ⟨rfl, rfl⟩
    · rw [hdef, if_neg (fun e => h1 e.1)]
      clear hdef hn hN
      go_enter Tryz.func64, Tryz.ntmps64
      go_wp2_with fail
      refine hget.out.mono ?_
      rintro e w1 ⟨rfl, rfl⟩
      clear hget
      go_wp2_with fail
      go_ret
      exact ⟨rfl, rfl⟩
def dropR (σ : FSt) (i : Int) : Int × FSt := match σ.ndI i with | none => (9, σ) | some n => if n.holds = 0 then (22, σ) else (0, letS (σ.put i.toNat (some { n with holds := n.holds - 1 })) i.toNat)
set_option maxRecDepth 100000 in
set_option maxHeartbeats 1000000 in
theorem Drop_any (w : World) (f : Nat) (σ : FSt) (S : Nat → Prop) (p : Nat → Nat) (h : FilesAt w f σ S p) (hcap : CapB σ) (i : Int) (hi : -9223372036854775808 ≤ i ∧ i ≤ 9223372036854775807)
    (hfree : ∀ (k : Nat) n, i = k → σ.nd k = some n → n.holds ≠ 0 → n.links = 0 → n.holds - 1 = 0 → Live ((σ.put k (some { n with holds := n.holds - 1 })).put k none)) :
    Calls Tryz.prog 65 #[.pointer (some ⟨f, 0, none⟩), .int .i64 i] w (MutPost f (dropR σ i).2 S p (.int .i64 (dropR σ i).1) w) := by
  have hget := hide (fget_any w f σ S p h i hi)
  cases hn : σ.ndI i with
  | none =>
    rw [show dropR σ i = (9, σ) by unfold dropR; rw [hn]]
    rw [ptrI_none hn] at hget
    have hres := hide (MutPost.still (v := .int .i64 9) h (Fr.refl _ w))
    clear hn hfree
    go_enter Tryz.func65, Tryz.ntmps65
    go_wp2_with fail
    refine hget.out.mono ?_
    rintro e w1 ⟨rfl, rfl⟩
    clear hget
    go_wp2_with fail
    go_ret
    exact hres.out
  | some n =>
    obtain ⟨k, rfl, hk⟩ := ndI_some hn
    have hdef : dropR σ k = if n.holds = 0 then (22, σ) else (0, letS (σ.put k (some { n with holds := n.holds - 1 })) k) := by unfold dropR; rw [hn]; simp
    rw [hdef]
    rw [ptrI_nat hk] at hget
    obtain ⟨dvi, evi, pvi, hb, hnew⟩ := h.stat hk
    have hcp := (hcap k n hk).2.1
    have hfree := hfree k n rfl hk
    obtain ⟨_, _, _, hN⟩ := h.node hk
    have hmd := hN.md
    have c2 : w.cell? ⟨p k, 4, none⟩ = some (.int .i64 n.holds) := by rw [blk_cell hb]; rfl
    have z2 := blk_frozen hb 4
    by_cases h0 : n.holds = 0
    · rw [if_pos h0]
      rw [h0] at c2
      have hres := hide (MutPost.still (v := .int .i64 22) h (Fr.refl _ w))
      clear hn hk hnew hb hN hfree h0 hdef
      go_enter Tryz.func65, Tryz.ntmps65
      go_wp2_with fail
      refine hget.out.mono ?_
      rintro e w1 ⟨rfl, rfl⟩
      clear hget
      go_wp2_with fail
      go_ret
      exact hres.out
    · rw [if_neg h0]
      have hfin := hnew (w.setCell ⟨p k, 4, none⟩ (.int .i64 ((n.holds : Int) - 1))) { n with holds := n.holds - 1 } rfl rfl rfl rfl hmd id (h.live.meta hk rfl rfl rfl rfl rfl) (frSet _ _ _ _) (by rw [blk_set hb]; simp; omega)
      have hcap2 : CapB (σ.put k (some { n with holds := n.holds - 1 })) := fun j m hj => by
        rw [put_nd hk] at hj
        by_cases e : j = k
        · rw [if_pos e] at hj; cases hj; have := hcap k n hk; exact ⟨this.1, by show n.holds - 1 ≤ _; omega, this.2.2⟩
        · rw [if_neg e] at hj; exact hcap j m hj
      have hlet := hide (let_any _ f _ S p hfin.1 hcap2 k { n with holds := n.holds - 1 } (by rw [put_nd hk, if_pos rfl]) (fun e1 e2 => hfree h0 e1 e2))
      have hfr := hide hfin.2
      have h0I : ((n.holds : Int) == 0) = false := by rw [beq_eq_false_iff_ne]; omega
      clear hn hk hnew hfin hb hN hfree h0 hdef hcap2 hcap
      go_enter Tryz.func65, Tryz.ntmps65
      go_wp2_with fail
      refine hget.out.mono ?_
      rintro e w1 ⟨rfl, rfl⟩
      clear hget
      go_wp2_with fail
      refine hlet.out.mono ?_
      rintro e w2 ⟨rfl, hA, hf2⟩
      have hres := hide (show MutPost f _ S p (.int .i64 0) w (.returned (.int .i64 0)) w2 from ⟨rfl, hA, hfr.out.trans hf2⟩)
      clear hlet hA hf2
      go_wp2_with fail
      go_ret
      exact hres.out
end Go.Proofs.YtffekmjoenppaaaGreatDoor

/- files.FS.gone, Unlink, Rmdir. Conditions: the contracts' own premises. -/
namespace Go.Proofs.YtffekmjoenppaaaGreatDoor
open Go.RowKit

def goneS (σ : FSt) (a : Nat) (nm : List UInt8) : FSt := match lookS σ a nm with | none => σ | some k => letS (relS (cutS σ a nm) k less) k
theorem lookS_some {σ : FSt} {a : Nat} {n : Nd} (h : σ.nd a = some n) (nm : List UInt8) : lookS σ a nm = kget nm n.ents := by unfold lookS; rw [h]
theorem cutS_nd {σ : FSt} {a k : Nat} {n : Nd} {nm : List UInt8} (ha : σ.nd a = some n) (hne : k ≠ a) : (cutS σ a nm).nd k = σ.nd k := by
  unfold cutS
  rw [entS_some ha, put_nd ha, if_neg hne]
theorem CapB.cut {σ : FSt} (h : CapB σ) {a : Nat} {n : Nd} (ha : σ.nd a = some n) (nm : List UInt8) : CapB (cutS σ a nm) := fun j m hj => by
  unfold cutS at hj
  rw [entS_some ha, put_nd ha] at hj
  by_cases e : j = a
  · rw [if_pos e] at hj
    cases hj
    have := h a n ha
    exact ⟨this.1, this.2.1, Nat.le_trans (List.length_filter_le _ _) this.2.2⟩
  · rw [if_neg e] at hj; exact h j m hj
theorem CapB.put {σ : FSt} (h : CapB σ) {a : Nat} {n n' : Nd} (ha : σ.nd a = some n) (h1 : n'.links ≤ n.links) (h2 : n'.holds ≤ n.holds) (h3 : n'.ents.length ≤ n.ents.length) : CapB (σ.put a (some n')) := fun j m hj => by
  rw [put_nd ha] at hj
  by_cases e : j = a
  · rw [if_pos e] at hj
    cases hj
    have := h a n ha
    omega
  · rw [if_neg e] at hj; exact h j m hj
def dirS (σ : FSt) (i : Nat) : Bool := match σ.nd i with | none => false | some n => n.d
end Go.Proofs.YtffekmjoenppaaaGreatDoor
