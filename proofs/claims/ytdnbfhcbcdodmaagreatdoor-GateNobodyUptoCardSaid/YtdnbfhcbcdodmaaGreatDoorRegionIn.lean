/- The tree of files as plain data: what floats is let go; one count more; the new tree. No program in sight; no condition. -/
import Derived.Test.YtdnbfhcbcdodmaaGreatDoorFilesT
import Derived.Test.YtdnbfhcbcdodmaaGreatDoorFilesT
import Derived.Test.YtdnbfhcbcdodmaaGreatDoorFilesT
import Derived.Test.YtdnbfhcbcdodmaaGreatDoorStrs
import Derived.RangeFuncNested
import Derived.RangeFuncBound
import Derived.RangeFuncCalls
import Derived.RangeFuncLeaves
import Derived.OrdersIn
import Derived.OwnWalkIn
namespace Go.Proofs.YtdnbfhcbcdodmaaGreatDoor
open Go.RowKit

def relS (σ : FSt) (i : Nat) (g : Nd → Nd) : FSt := match σ.nd i with | none => σ | some n => σ.put i (some (g n))
theorem relS_some {σ : FSt} {i : Nat} {n : Nd} (h : σ.nd i = some n) (g : Nd → Nd) : relS σ i g = σ.put i (some (g n)) := by unfold relS; rw [h]
def less (n : Nd) : Nd := { n with links := n.links - 1 }
def more (n : Nd) : Nd := { n with links := n.links + 1 }
theorem same_byts {σ : FSt} {i : Nat} {n n' : Nd} (hn : σ.nd i = some n) (hd : n'.data = n.data) : (σ.put i (some n')).byts = σ.byts := by
  have h1 := FSt.byts_put hn (some n')
  simp only [ndLen, hd] at h1
  omega
theorem Live.rel {σ : FSt} (h : Live σ) {i : Nat} {n n' : Nd} (hn : σ.nd i = some n) (hd : n'.d = n.d) (h1 : i = 1 → n'.links = 1) (he : n'.ents = n.ents) (hp : n'.par = n.par) (hl : 0 < n'.links → 0 < n.links) (hdt : n'.data = n.data) : Live (σ.put i (some n')) :=
  h.put hn hd h1 (by rw [he]; exact h.ents i n hn) (fun e e2 => by rw [hp]; exact h.par i n hn (hd ▸ e) (hl e2)) (by rw [same_byts hn hdt]; exact h.byts) (by rw [he]; exact h.names i n hn)
/-- What floats has a name less: it is let go, if nothing else holds it. -/
theorem Inv.fall {σ : FSt} {k : Nat} (h : Inv σ k) (hL : Live σ) {nk : Nd} (hk : σ.nd k = some nk) (he : nk.d = true → nk.ents = []) :
    Live (σ.put k (some (less nk))) ∧ ((less nk).links = 0 → (less nk).holds = 0 → Live ((σ.put k (some (less nk))).put k none)) ∧ Inv (letS (σ.put k (some (less nk))) k) 0 := by
  have hk1 : k ≠ 1 := h.flat
  have hents : nk.ents = [] := by cases hd : nk.d with
    | true => exact he hd
    | false => exact h.file k nk hk hd
  have hcnt := h.cnt k nk hk hk1
  rw [if_pos rfl] at hcnt
  have hless : (less nk).links = refs σ k := by show nk.links - 1 = _; omega
  have hnd := put_nd hk (some (less nk))
  have hk2 : (σ.put k (some (less nk))).nd k = some (less nk) := by rw [hnd, if_pos rfl]
  have hL2 : Live (σ.put k (some (less nk))) := hL.rel hk rfl (fun e => absurd e hk1) rfl rfl (fun _ => by omega) rfl
  have hr : ∀ j, refs (σ.put k (some (less nk))) j = refs σ j := fun j => by
    have := refs_put hk (some (less nk)) j
    have e : refN j (some (less nk)) = entN j nk.ents := rfl
    omega
  -- no way up leads over k
  have noP : ∀ j n, σ.nd j = some n → n.d = true → n.links ≠ 0 → j ≠ 1 → j ≠ k → n.par ≠ k := fun j n hj h1 h2 h3 h4 e => by
    obtain ⟨m, nm, b1, b2, b3⟩ := h.up j n hj h1 h2 h3 h4
    rw [e, hk] at b1
    cases b1
    exact kget_nil_none b3 hents
  have to1 : ∀ {d e j : Nat}, Dep σ k e j d → ∀ n, σ.nd j = some n → n.d = true → n.links ≠ 0 → j ≠ k → e = 1 := by
    intro d e
    induction d with
    | zero =>
      intro j hd n hj h1 h2 h4
      cases hd with
      | base hb => exact hb.resolve_right h4
    | succ d ih =>
      intro j hd n hj h1 h2 h4
      cases hd with
      | up a1 a2 a3 a4 a5 a6 =>
        obtain ⟨m, nm, b1, b2, b3, _⟩ := h.above a3 a4 a5 a1 a2
        exact ih a6 m b1 b2 b3 (noP j _ a3 a4 a5 a1 a2)
  have kd : nk.d = true → nk.links = 1 := fun hd => by have := h.one k nk hk hd; omega
  -- the tree with k's count lower, in which k need not be alive
  have cs : ∀ j m, (σ.put k (some (less nk))).nd j = some m → (j = k ∧ m = less nk) ∨ (j ≠ k ∧ σ.nd j = some m) := fun j m hj => by
    rw [hnd] at hj
    by_cases e : j = k
    · rw [if_pos e] at hj; cases hj; exact .inl ⟨e, rfl⟩
    · rw [if_neg e] at hj; exact .inr ⟨e, hj⟩
  by_cases hz : (less nk).links = 0 ∧ (less nk).holds = 0
  · have hlet : letS (σ.put k (some (less nk))) k = (σ.put k (some (less nk))).put k none := by unfold letS; rw [hk2]; simp only [if_pos hz]
    have hnd3 := put_nd hk2 none
    have hk0 : refs σ k = 0 := by have := hz.1; omega
    have cs3 : ∀ j m, ((σ.put k (some (less nk))).put k none).nd j = some m → j ≠ k ∧ σ.nd j = some m := fun j m hj => by
      rw [hnd3] at hj
      by_cases e : j = k
      · rw [if_pos e] at hj; cases hj
      · rw [if_neg e] at hj
        exact ⟨e, ((cs j m hj).resolve_left fun h => e h.1).2⟩
    have cf3 : ∀ j m, σ.nd j = some m → j ≠ k → ((σ.put k (some (less nk))).put k none).nd j = some m := fun j m hj e => by rw [hnd3, if_neg e, hnd, if_neg e]; exact hj
    have hr3 : ∀ j, refs ((σ.put k (some (less nk))).put k none) j = refs σ j := fun j => by
      have := refs_put hk2 none j
      have e : entN j (less nk).ents = 0 := by show entN j nk.ents = 0; rw [hents]; rfl
      simp only [refN] at this
      rw [← hr]; omega
    have hLn : Live ((σ.put k (some (less nk))).put k none) := by
      refine ⟨?_, fun j m hj q hq => ?_, fun j m hj hd hl => ?_, ?_, by rw [FSt.put_length]; exact hL2.len, ?_, fun j m hj => hL.names j m (cs3 j m hj).2⟩
      · obtain ⟨r, h1, h2, h3⟩ := hL.root
        exact ⟨r, cf3 1 r h1 (fun e => hk1 e.symm), h2, h3⟩
      · obtain ⟨e, hj⟩ := cs3 j m hj
        have hs := hL.ents j m hj q hq
        obtain ⟨x, hx⟩ := Option.isSome_iff_exists.1 hs
        have hqk : q.2 ≠ k := fun e2 => by
          have h1 := refs_ge hj q.2
          have h2 := entN_mem (L := m.ents) (i := q.2) (s := q.1) hq
          rw [e2, hk0] at h1
          rw [e2] at h2
          omega
        rw [cf3 _ x hx hqk]; rfl
      · obtain ⟨e, hj⟩ := cs3 j m hj
        have hs := hL.par j m hj hd hl
        obtain ⟨x, hx⟩ := Option.isSome_iff_exists.1 hs
        by_cases j1 : j = 1
        · -- the root's own
          rw [j1] at hj
          have e2 : m.par ≠ k := by rw [h.rootp m hj]; exact fun e => hk1 e.symm
          rw [cf3 _ x hx e2]; rfl
        · rw [cf3 _ x hx (noP j m hj hd (by omega) j1 e)]; rfl
      · have := FSt.cnt_put (show ((σ.put k (some (less nk))).nd k).isSome = true by rw [hk2]; rfl) none
        have h9 := hL2.cnt
        have e1 : Go.Proofs.YtdnbfhcbcdodmaaGreatDoor.one none = 0 := rfl
        omega
      · have := FSt.byts_put hk2 none
        have h9 := hL2.byts
        have e1 : ndLen none = 0 := rfl
        omega
    refine ⟨hL2, fun _ _ => hLn, ?_⟩
    rw [hlet]
    refine ⟨fun j m hj h1 => ?_, by rw [hr3]; exact h.root, fun j m hj h1 => h.one j m (cs3 j m hj).2 h1, fun j m hj h1 h2 => h.dead j m (cs3 j m hj).2 h1 h2, fun j m hj h1 h2 h3 h4 => ?_, fun j m hj h1 h2 => ?_, fun j m hj => h.srt j m (cs3 j m hj).2, fun j m hj h1 => h.file j m (cs3 j m hj).2 h1, fun j m hj => h.alive j m (cs3 j m hj).2, by decide, fun m hj => h.rootp m (cs3 1 m hj).2⟩
    · obtain ⟨e, hj⟩ := cs3 j m hj
      rw [hr3, h.cnt j m hj h1, if_neg e, if_neg (nd_pos hj)]
    · obtain ⟨e, hj⟩ := cs3 j m hj
      obtain ⟨q, nm, b1, b2, b3⟩ := h.up j m hj h1 h2 h3 e
      exact ⟨q, nm, cf3 _ q b1 (noP j m hj h1 h2 h3 e), b2, b3⟩
    · obtain ⟨e, hj⟩ := cs3 j m hj
      obtain ⟨z, d, hd⟩ := h.deep j m hj h1 h2
      have hz1 := to1 hd m hj h1 h2 e
      rw [hz1] at hd
      exact ⟨1, d, hd.same (.inl rfl) fun i n b1 b2 b3 b4 b5 => ⟨nd_pos b3, n, cf3 i n b3 b2, b4, b5, rfl⟩⟩
  · have hlet : letS (σ.put k (some (less nk))) k = σ.put k (some (less nk)) := by unfold letS; rw [hk2]; simp only [if_neg hz]
    refine ⟨hL2, fun a b => absurd ⟨a, b⟩ hz, ?_⟩
    rw [hlet]
    have cf : ∀ j m, σ.nd j = some m → j ≠ k → (σ.put k (some (less nk))).nd j = some m := fun j m hj e => by rw [hnd, if_neg e]; exact hj
    have kl : nk.d = true → (less nk).links = 0 := fun hd => by show nk.links - 1 = 0; have := kd hd; omega
    refine ⟨fun j m hj h1 => ?_, by rw [hr]; exact h.root, fun j m hj h1 => ?_, fun j m hj h1 h2 => ?_, fun j m hj h1 h2 h3 h4 => ?_, fun j m hj h1 h2 => ?_, fun j m hj => ?_, fun j m hj h1 => ?_, fun j m hj => ?_, by decide, fun m hj => h.rootp m ((cs 1 m hj).resolve_left fun e => hk1 e.1.symm).2⟩
    · rcases cs j m hj with ⟨rfl, rfl⟩ | ⟨e, hj⟩
      · rw [hless, hr, if_neg (nd_pos hk)]; rfl
      · rw [hr, h.cnt j m hj h1, if_neg e, if_neg (nd_pos hj)]
    · rcases cs j m hj with ⟨rfl, rfl⟩ | ⟨e, hj⟩
      · have := kl h1; omega
      · exact h.one j m hj h1
    · rcases cs j m hj with ⟨rfl, rfl⟩ | ⟨e, hj⟩
      · exact hents
      · exact h.dead j m hj h1 h2
    · rcases cs j m hj with ⟨rfl, rfl⟩ | ⟨e, hj⟩
      · exact absurd (kl h1) h2
      · obtain ⟨q, nm, b1, b2, b3⟩ := h.up j m hj h1 h2 h3 e
        exact ⟨q, nm, cf _ q b1 (noP j m hj h1 h2 h3 e), b2, b3⟩
    · rcases cs j m hj with ⟨rfl, rfl⟩ | ⟨e, hj⟩
      · exact absurd (kl h1) h2
      · obtain ⟨z, d, hd⟩ := h.deep j m hj h1 h2
        have hz1 := to1 hd m hj h1 h2 e
        rw [hz1] at hd
        exact ⟨1, d, hd.same (.inl rfl) fun i n b1 b2 b3 b4 b5 => ⟨nd_pos b3, n, cf i n b3 b2, b4, b5, rfl⟩⟩
    · rcases cs j m hj with ⟨rfl, rfl⟩ | ⟨e, hj⟩
      · exact h.srt j nk hk
      · exact h.srt j m hj
    · rcases cs j m hj with ⟨rfl, rfl⟩ | ⟨e, hj⟩
      · exact hents
      · exact h.file j m hj h1
    · rcases cs j m hj with ⟨rfl, rfl⟩ | ⟨e, hj⟩
      · apply Decidable.byContradiction
        intro e
        apply hz
        omega
      · exact h.alive j m hj
/-- A file's name more, that no entry bears yet. -/
theorem Inv.inc {σ : FSt} (h : Inv σ 0) {k : Nat} {nk : Nd} (hk : σ.nd k = some nk) (hd : nk.d = false) (hk1 : k ≠ 1) : Inv (σ.put k (some (more nk))) k := by
  have hnd := put_nd hk (some (more nk))
  have hr : ∀ j, refs (σ.put k (some (more nk))) j = refs σ j := fun j => by
    have := refs_put hk (some (more nk)) j
    have e : refN j (some (more nk)) = entN j nk.ents := rfl
    omega
  have cs : ∀ j m, (σ.put k (some (more nk))).nd j = some m → (j = k ∧ m = more nk) ∨ (j ≠ k ∧ σ.nd j = some m) := fun j m hj => by
    rw [hnd] at hj
    by_cases e : j = k
    · rw [if_pos e] at hj; cases hj; exact .inl ⟨e, rfl⟩
    · rw [if_neg e] at hj; exact .inr ⟨e, hj⟩
  have cf : ∀ j m, σ.nd j = some m → m.d = true → j ≠ k ∧ (σ.put k (some (more nk))).nd j = some m := fun j m hj h1 => by
    have e : j ≠ k := fun e => by rw [e, hk] at hj; cases hj; rw [hd] at h1; cases h1
    exact ⟨e, by rw [hnd, if_neg e]; exact hj⟩
  have md : (more nk).d = false := hd
  refine ⟨fun j m hj h1 => ?_, by rw [hr]; exact h.root, fun j m hj h1 => ?_, fun j m hj h1 h2 => ?_, fun j m hj h1 h2 h3 h4 => ?_, fun j m hj h1 h2 => ?_, fun j m hj => ?_, fun j m hj h1 => ?_, fun j m hj => ?_, hk1, fun m hj => h.rootp m ((cs 1 m hj).resolve_left fun e => hk1 e.1.symm).2⟩
  · rcases cs j m hj with ⟨rfl, rfl⟩ | ⟨e, hj⟩
    · have := h.cnt j nk hk h1
      rw [if_neg (nd_pos hk)] at this
      rw [hr, if_pos rfl]
      show nk.links + 1 = _
      omega
    · rw [hr, h.cnt j m hj h1, if_neg e, if_neg (nd_pos hj)]
  · rcases cs j m hj with ⟨rfl, rfl⟩ | ⟨e, hj⟩
    · rw [md] at h1; cases h1
    · exact h.one j m hj h1
  · rcases cs j m hj with ⟨rfl, rfl⟩ | ⟨e, hj⟩
    · rw [md] at h1; cases h1
    · exact h.dead j m hj h1 h2
  · rcases cs j m hj with ⟨rfl, rfl⟩ | ⟨e, hj⟩
    · rw [md] at h1; cases h1
    · obtain ⟨q, nm, b1, b2, b3⟩ := h.up j m hj h1 h2 h3 (nd_pos hj)
      exact ⟨q, nm, (cf _ q b1 b2).2, b2, b3⟩
  · rcases cs j m hj with ⟨rfl, rfl⟩ | ⟨e, hj⟩
    · rw [md] at h1; cases h1
    · obtain ⟨d, hd⟩ := h.to_root hj h1 h2
      exact ⟨1, d, hd.same (.inl rfl) fun i n b1 b2 b3 b4 b5 => ⟨(cf i n b3 b4).1, n, (cf i n b3 b4).2, b4, b5, rfl⟩⟩
  · rcases cs j m hj with ⟨rfl, rfl⟩ | ⟨e, hj⟩
    · exact h.srt j nk hk
    · exact h.srt j m hj
  · rcases cs j m hj with ⟨rfl, rfl⟩ | ⟨e, hj⟩
    · exact h.file j nk hk hd
    · exact h.file j m hj h1
  · rcases cs j m hj with ⟨rfl, rfl⟩ | ⟨e, hj⟩
    · exact .inl (Nat.succ_ne_zero _)
    · exact h.alive j m hj
theorem Inv.new : Inv newT 0 := by
  have key : ∀ i n, newT.nd i = some n → i = 1 ∧ n = rootN := fun i n h => newT_nd h
  refine ⟨fun i n h h1 => absurd (key i n h).1 h1, rfl, ?_, ?_, fun i n h _ _ h1 => absurd (key i n h).1 h1, ?_, ?_, ?_, ?_, by decide, ?_⟩
  · intro i n h _; obtain ⟨rfl, rfl⟩ := key i n h; exact Nat.le_refl _
  · intro i n h _ _; obtain ⟨rfl, rfl⟩ := key i n h; rfl
  · intro i n h _ _; obtain ⟨rfl, rfl⟩ := key i n h; exact ⟨1, 0, .base (.inl rfl)⟩
  · intro i n h; obtain ⟨rfl, rfl⟩ := key i n h; exact List.Pairwise.nil
  · intro i n h h1; obtain ⟨rfl, rfl⟩ := key i n h; cases h1
  · intro i n h; obtain ⟨rfl, rfl⟩ := key i n h; exact .inl (by decide)
  · intro n h; obtain ⟨_, rfl⟩ := key 1 n h; rfl
end Go.Proofs.YtdnbfhcbcdodmaaGreatDoor

/- files.FS.Chmod, Hold, Drop, Stat, Count, May. Conditions: the contracts' own premises. -/
namespace Go.Proofs.YtdnbfhcbcdodmaaGreatDoor
open Go.RowKit

/-- An inode's counts or mode changed. -/
theorem FilesAt.statD {w : World} {f : Nat} {σ : FSt} {S : Nat → Prop} {p : Nat → Nat} (h : FilesAt w f σ S p) {i : Nat} {n : Nd} (hn : σ.nd i = some n) : ∃ dvi evi pvi,
    w.heap[p i]? = some (.cells #[.int .i64 i, .int .i64 (if n.d then 2 else 1), .int .i64 n.mode, .int .i64 n.links, .int .i64 n.holds, dvi, evi, pvi] 120 (0, 0)) ∧
    ∀ (w' : World) (n' : Nd), n'.d = n.d → n'.data = n.data → n'.ents = n.ents → n'.par = n.par → n'.mode < 512 → (n.d = true → 0 < n'.links → 0 < n.links) → Live (σ.put i (some n')) → Fr (fun k => k = p i) w w' →
      w'.heap[p i]? = some (.cells #[.int .i64 i, .int .i64 (if n.d then 2 else 1), .int .i64 n'.mode, .int .i64 n'.links, .int .i64 n'.holds, dvi, evi, pvi] 120 (0, 0)) → FilesAt w' f (σ.put i (some n')) S p ∧ Fr S w w' := by
  obtain ⟨dv, ev, pv, lv, hF⟩ := h
  have hN := hF.nd i n hn
  refine ⟨dv i, ev i, pv i, hN.hb, fun w' n' h1 h2 h3 h4 h5 h6 h7 hf hb => ⟨⟨_, _, _, _, hF.changed hf hn (fun k e => .inr (.inl e)) ?_ ⟨by rw [h1]; exact hb, ?_, fun hd => ?_, fun hd => ?_, fun hd hl => ?_, hN.ptr, h5⟩ (fun g e => .inl e) (fun m e => e) h7⟩, hf.mono (fun k _ e => e ▸ hF.ownn i (by rw [hn]; rfl))⟩⟩
  · rw [same_byts hn h2]
    exact hf.get hF.hb (fun e => cells_ne hF.hb hN.hb (by decide) e)
  · rw [h2]
    refine hN.data.frame hf (fun g e e2 => ?_)
    obtain ⟨c, hc⟩ := hN.data.blk e
    exact cells_ne hc (e2 ▸ hN.hb) (by decide) rfl
  · obtain ⟨a1, m, a2, a3⟩ := hN.dir (h1 ▸ hd)
    refine ⟨by rw [h2]; exact a1, m, a2, ?_⟩
    rw [h3]
    refine a3.frame hf (fun e => ?_)
    obtain ⟨es, clock, hm, _⟩ := a3.own
    rw [e, hN.hb] at hm; cases hm
  · obtain ⟨a1, a2⟩ := hN.file (h1 ▸ hd)
    exact ⟨a1, by rw [h3]; exact a2⟩
  · rw [h4]; exact hN.par (h1 ▸ hd) (h6 (h1 ▸ hd) hl)
theorem FilesAt.stat {w : World} {f : Nat} {σ : FSt} {S : Nat → Prop} {p : Nat → Nat} (h : FilesAt w f σ S p) {i : Nat} {n : Nd} (hn : σ.nd i = some n) : ∃ dvi evi pvi,
    w.heap[p i]? = some (.cells #[.int .i64 i, .int .i64 (if n.d then 2 else 1), .int .i64 n.mode, .int .i64 n.links, .int .i64 n.holds, dvi, evi, pvi] 120 (0, 0)) ∧
    ∀ (w' : World) (n' : Nd), n'.d = n.d → n'.data = n.data → n'.ents = n.ents → n'.par = n.par → n'.mode < 512 → (0 < n'.links → 0 < n.links) → Live (σ.put i (some n')) → Fr (fun k => k = p i) w w' →
      w'.heap[p i]? = some (.cells #[.int .i64 i, .int .i64 (if n.d then 2 else 1), .int .i64 n'.mode, .int .i64 n'.links, .int .i64 n'.holds, dvi, evi, pvi] 120 (0, 0)) → FilesAt w' f (σ.put i (some n')) S p ∧ Fr S w w' := by
  obtain ⟨a, b, c, h1, h2⟩ := h.statD hn
  exact ⟨a, b, c, h1, fun w' n' x1 x2 x3 x4 x5 x6 x7 x8 x9 => h2 w' n' x1 x2 x3 x4 x5 (fun _ => x6) x7 x8 x9⟩
theorem ndI_some {σ : FSt} {i : Int} {n : Nd} (h : σ.ndI i = some n) : ∃ k : Nat, i = k ∧ σ.nd k = some n := by
  unfold FSt.ndI at h
  split at h
  · exact ⟨i.toNat, by omega, h⟩
  · cases h
theorem ptrI_none {σ : FSt} {p : Nat → Nat} {i : Int} (h : σ.ndI i = none) : ptrI σ p i = .pointer none := by unfold ptrI; rw [h]
theorem ptrI_nat {σ : FSt} {p : Nat → Nat} {k : Nat} {n : Nd} (h : σ.nd k = some n) : ptrI σ p (k : Int) = .pointer (some ⟨p k, 0, none⟩) := by unfold ptrI; rw [ndI_nat h]; simp
def holdR (σ : FSt) (i : Int) : Int × FSt := match σ.ndI i with | none => (9, σ) | some n => (0, σ.put i.toNat (some { n with holds := n.holds + 1 }))
theorem Live.meta {σ : FSt} (h : Live σ) {i : Nat} {n n' : Nd} (hn : σ.nd i = some n) (hd : n'.d = n.d) (hl : n'.links = n.links) (he : n'.ents = n.ents) (hp : n'.par = n.par) (hdt : n'.data = n.data) : Live (σ.put i (some n')) :=
  h.rel hn hd (fun e => by obtain ⟨r, h1, _, h2⟩ := h.root; rw [e, h1] at hn; cases hn; rw [hl, h2]) he hp (fun e => by rw [← hl]; exact e) hdt
set_option maxRecDepth 100000 in
set_option maxHeartbeats 1000000 in
theorem Hold_any (w : World) (f : Nat) (σ : FSt) (S : Nat → Prop) (p : Nat → Nat) (h : FilesAt w f σ S p) (hcap : CapB σ) (i : Int) (hi : -9223372036854775808 ≤ i ∧ i ≤ 9223372036854775807) :
    Calls Tryz.prog 24 #[.pointer (some ⟨f, 0, none⟩), .int .i64 i] w (MutPost f (holdR σ i).2 S p (.int .i64 (holdR σ i).1) w) := by
  have hget := hide (fget_any w f σ S p h i hi)
  cases hn : σ.ndI i with
  | none =>
    rw [show holdR σ i = (9, σ) by unfold holdR; rw [hn]]
    rw [ptrI_none hn] at hget
    have hres := hide (MutPost.still (v := .int .i64 9) h (Fr.refl _ w))
    clear hn
    go_enter Tryz.func24, Tryz.ntmps24
    go_wp2_with fail
    refine hget.out.mono ?_
    rintro e w1 ⟨rfl, rfl⟩
    clear hget
    go_wp2_with fail
    go_ret
    exact hres.out
  | some n =>
    obtain ⟨k, rfl, hk⟩ := ndI_some hn
    rw [show holdR σ k = (0, σ.put k (some { n with holds := n.holds + 1 })) by unfold holdR; rw [hn]; simp]
    rw [ptrI_nat hk] at hget
    obtain ⟨dvi, evi, pvi, hb, hnew⟩ := h.stat hk
    have hcp := (hcap k n hk).2.1
    obtain ⟨_, _, _, hN⟩ := h.node hk
    have hmd := hN.md
    have c2 : w.cell? ⟨p k, 4, none⟩ = some (.int .i64 n.holds) := by rw [blk_cell hb]; rfl
    have z2 := blk_frozen hb 4
    have hfin := hnew (w.setCell ⟨p k, 4, none⟩ (.int .i64 ((n.holds : Int) + 1))) { n with holds := n.holds + 1 } rfl rfl rfl rfl hmd id (h.live.meta hk rfl rfl rfl rfl rfl) (frSet _ _ _ _) (by rw [blk_set hb]; rfl)
    have hres := hide (show MutPost f (σ.put k (some { n with holds := n.holds + 1 })) S p (.int .i64 0) w (.returned (.int .i64 0)) (w.setCell ⟨p k, 4, none⟩ (.int .i64 ((n.holds : Int) + 1))) from ⟨rfl, hfin.1, hfin.2⟩)
    clear hn hk hnew hfin hb hN
    go_enter Tryz.func24, Tryz.ntmps24
    go_wp2_with fail
    refine hget.out.mono ?_
    rintro e w1 ⟨rfl, rfl⟩
    clear hget
    go_wp2_with fail
    go_ret
    exact hres.out
def dropR (σ : FSt) (i : Int) : Int × FSt := match σ.ndI i with | none => (9, σ) | some n => if n.holds = 0 then (22, σ) else (0, letS (σ.put i.toNat (some { n with holds := n.holds - 1 })) i.toNat)
end Go.Proofs.YtdnbfhcbcdodmaaGreatDoor

/- files.FS.gone, Unlink, Rmdir. Conditions: the contracts' own premises. -/
namespace Go.Proofs.YtdnbfhcbcdodmaaGreatDoor
open Go.RowKit

def goneS (σ : FSt) (a : Nat) (nm : List UInt8) : FSt := match lookS σ a nm with | none => σ | some k => letS (relS (cutS σ a nm) k less) k
theorem lookS_some {σ : FSt} {a : Nat} {n : Nd} (h : σ.nd a = some n) (nm : List UInt8) : lookS σ a nm = kget nm n.ents := by unfold lookS; rw [h]
theorem cutS_nd {σ : FSt} {a k : Nat} {n : Nd} {nm : List UInt8} (ha : σ.nd a = some n) (hne : k ≠ a) : (cutS σ a nm).nd k = σ.nd k := by
  unfold cutS
  rw [entS_some ha, put_nd ha, if_neg hne]
theorem CapB.cut {σ : FSt} (h : CapB σ) {a : Nat} {n : Nd} (ha : σ.nd a = some n) (nm : List UInt8) : CapB (cutS σ a nm) := fun j m hj => by
  unfold cutS at hj
  rw [entS_some ha, put_nd ha] at hj
  by_cases e : j = a
  · rw [if_pos e] at hj
    cases hj
    have := h a n ha
    exact ⟨this.1, this.2.1, Nat.le_trans (List.length_filter_le _ _) this.2.2⟩
  · rw [if_neg e] at hj; exact h j m hj
theorem CapB.put {σ : FSt} (h : CapB σ) {a : Nat} {n n' : Nd} (ha : σ.nd a = some n) (h1 : n'.links ≤ n.links) (h2 : n'.holds ≤ n.holds) (h3 : n'.ents.length ≤ n.ents.length) : CapB (σ.put a (some n')) := fun j m hj => by
  rw [put_nd ha] at hj
  by_cases e : j = a
  · rw [if_pos e] at hj
    cases hj
    have := h a n ha
    omega
  · rw [if_neg e] at hj; exact h j m hj
def dirS (σ : FSt) (i : Nat) : Bool := match σ.nd i with | none => false | some n => n.d
end Go.Proofs.YtdnbfhcbcdodmaaGreatDoor

/- The tree of files as plain data: what lies below a directory; a name is moved. No program in sight; no condition. -/
namespace Go.Proofs.YtdnbfhcbcdodmaaGreatDoor
open Go.RowKit

/-- Is k this directory, or above it? -/
def Under (σ : FSt) (k b : Nat) : Prop := ∃ m, Dep σ k k b m
theorem Dep.zero {σ : FSt} {fl e i k : Nat} (h : Dep σ fl e i k) (hk : k = 0) : i = e := by
  cases h with
  | base => rfl
  | up => cases hk
theorem Dep.det {σ : FSt} : ∀ {k i : Nat}, Dep σ 0 1 i k → ∀ {l : Nat}, Dep σ 0 1 i l → k = l
  | _, _, .base _, _, .base _ => rfl
  | _, _, .base _, _, .up h1 _ _ _ _ _ => absurd rfl h1
  | _, _, .up h1 _ _ _ _ _, _, .base _ => absurd rfl h1
  | _, _, .up _ _ h3 _ _ h6, _, .up _ _ g3 _ _ g6 => by
    rw [h3] at g3
    cases g3
    rw [Dep.det h6 g6]
theorem Under.self (σ : FSt) (k : Nat) : Under σ k k := ⟨0, .base (.inr rfl)⟩
theorem Under.root {σ : FSt} {k : Nat} (hk : k ≠ 1) : ¬ Under σ k 1 := by
  rintro ⟨m, hm⟩
  cases hm with
  | base => exact hk rfl
  | up h1 => exact h1 rfl
theorem Under.step {σ : FSt} {k i : Nat} {n : Nd} (hn : σ.nd i = some n) (hd : n.d = true) (hl : n.links ≠ 0) (h1 : i ≠ 1) (hk : i ≠ k) : Under σ k i ↔ Under σ k n.par := by
  constructor
  · rintro ⟨m, hm⟩
    cases hm with
    | base => exact absurd rfl hk
    | up _ _ h3 _ _ h6 =>
      rw [hn] at h3
      cases h3
      exact ⟨_, h6⟩
  · rintro ⟨m, hm⟩
    exact ⟨m + 1, .up h1 hk hn hd hl hm⟩
/-- One step up. -/
theorem Dep.go_up {σ : FSt} {i m : Nat} {n : Nd} (h : Dep σ 0 1 i m) (hn : σ.nd i = some n) (h1 : i ≠ 1) : ∃ k, m = k + 1 ∧ Dep σ 0 1 n.par k := by
  cases h with
  | base => exact absurd rfl h1
  | up _ _ h3 _ _ h6 =>
    rw [hn] at h3
    cases h3
    exact ⟨_, rfl, h6⟩
theorem nodup_le : ∀ (n : Nat) (l : List Nat), l.Nodup → (∀ x ∈ l, x < n) → l.length ≤ n
  | 0, [], _, _ => Nat.le_refl _
  | 0, x :: _, _, h => absurd (h x (List.mem_cons_self)) (Nat.not_lt_zero x)
  | n + 1, l, h, hl => by
    have h1 := nodup_le n (l.erase n) (h.erase n) fun x hx => by
      have h2 := (h.mem_erase_iff).1 hx
      have := hl x h2.2
      have := h2.1
      omega
    rw [List.length_erase] at h1
    split at h1 <;> omega
theorem Dep.chain {σ : FSt} : ∀ {m i : Nat}, Dep σ 0 1 i m → (σ.nd 1).isSome = true → ∃ l : List Nat, l.length = m + 1 ∧ l.Nodup ∧ ∀ x ∈ l, (σ.nd x).isSome = true ∧ ∃ k ≤ m, Dep σ 0 1 x k
  | 0, i, h, h1 => ⟨[i], rfl, List.nodup_cons.2 ⟨by simp, List.nodup_nil⟩, fun x hx => by
      rw [List.mem_singleton] at hx
      rw [hx]
      exact ⟨by rw [h.zero rfl]; exact h1, 0, Nat.le_refl _, h⟩⟩
  | m + 1, i, h, h1 => by
    have hh := h
    cases h with
    | up a1 a2 a3 a4 a5 a6 =>
      obtain ⟨l, b1, b2, b3⟩ := Dep.chain a6 h1
      refine ⟨i :: l, by rw [List.length_cons, b1], List.nodup_cons.2 ⟨fun hm => ?_, b2⟩, fun x hx => ?_⟩
      · obtain ⟨_, k, hk, hd⟩ := b3 i hm
        have := hh.det hd
        omega
      · rcases List.mem_cons.1 hx with rfl | hx
        · exact ⟨by rw [a3]; rfl, m + 1, Nat.le_refl _, hh⟩
        · obtain ⟨c1, k, hk, hd⟩ := b3 x hx
          exact ⟨c1, k, by omega, hd⟩
/-- No way up is longer than there are inodes. -/
theorem Dep.short {σ : FSt} {i m : Nat} (h : Dep σ 0 1 i m) (hL : Live σ) : m ≤ 100 := by
  obtain ⟨r, hr, _⟩ := hL.root
  obtain ⟨l, h1, h2, h3⟩ := h.chain (by rw [hr]; rfl)
  have h4 := nodup_le (σ.length + 1) l h2 fun x hx => by
    obtain ⟨a, b⟩ := FSt.nd_lt (h3 x hx).1
    omega
  have := hL.len
  omega
/-- A floating inode's own parent doesn't matter. -/
theorem Inv.par {σ : FSt} {k : Nat} (h : Inv σ k) {nk : Nd} (hk : σ.nd k = some nk) (b : Nat) : Inv (σ.put k (some { nk with par := b })) k := by
  have hnd := put_nd hk (some { nk with par := b })
  have hr : ∀ j, refs (σ.put k (some { nk with par := b })) j = refs σ j := fun j => by
    have := refs_put hk (some { nk with par := b }) j
    have e : refN j (some { nk with par := b }) = entN j nk.ents := rfl
    omega
  have cs : ∀ j m, (σ.put k (some { nk with par := b })).nd j = some m → ∃ m0, σ.nd j = some m0 ∧ m.d = m0.d ∧ m.links = m0.links ∧ m.ents = m0.ents ∧ m.holds = m0.holds ∧ (j ≠ k → m.par = m0.par) := fun j m hj => by
    rw [hnd] at hj
    by_cases e : j = k
    · rw [if_pos e] at hj; cases hj; exact ⟨nk, by rw [e]; exact hk, rfl, rfl, rfl, rfl, fun h => absurd e h⟩
    · rw [if_neg e] at hj; exact ⟨m, hj, rfl, rfl, rfl, rfl, fun _ => rfl⟩
  have cf : ∀ j m0, σ.nd j = some m0 → ∃ m, (σ.put k (some { nk with par := b })).nd j = some m ∧ m.d = m0.d ∧ m.links = m0.links ∧ m.ents = m0.ents ∧ (j ≠ k → m.par = m0.par) := fun j m0 hj => by
    by_cases e : j = k
    · rw [e, hk] at hj; cases hj; exact ⟨{ nk with par := b }, by rw [hnd, if_pos e], rfl, rfl, rfl, fun h => absurd e h⟩
    · exact ⟨m0, by rw [hnd, if_neg e]; exact hj, rfl, rfl, rfl, fun _ => rfl⟩
  refine ⟨fun j m hj h1 => ?_, by rw [hr]; exact h.root, fun j m hj h1 => ?_, fun j m hj h1 h2 => ?_, fun j m hj h1 h2 h3 h4 => ?_, fun j m hj h1 h2 => ?_, fun j m hj => ?_, fun j m hj h1 => ?_, fun j m hj => ?_, h.flat, fun m hj => ?_⟩
  · obtain ⟨m0, a1, a2, a3, a4, a5, a6⟩ := cs j m hj
    rw [a3, hr]; exact h.cnt j m0 a1 h1
  · obtain ⟨m0, a1, a2, a3, a4, a5, a6⟩ := cs j m hj
    rw [a3]; exact h.one j m0 a1 (a2 ▸ h1)
  · obtain ⟨m0, a1, a2, a3, a4, a5, a6⟩ := cs j m hj
    rw [a4]; exact h.dead j m0 a1 (a2 ▸ h1) (a3 ▸ h2)
  · obtain ⟨m0, a1, a2, a3, a4, a5, a6⟩ := cs j m hj
    obtain ⟨q, nm, b1, b2, b3⟩ := h.up j m0 a1 (a2 ▸ h1) (a3 ▸ h2) h3 h4
    obtain ⟨q', c1, c2, c3, c4, c5⟩ := cf _ q b1
    exact ⟨q', nm, by rw [a6 h4]; exact c1, c2.trans b2, by rw [c4]; exact b3⟩
  · obtain ⟨m0, a1, a2, a3, a4, a5, a6⟩ := cs j m hj
    obtain ⟨e, d, hd⟩ := h.deep j m0 a1 (a2 ▸ h1) (a3 ▸ h2)
    exact ⟨e, d, hd.same hd.end_ok fun i0 n0 b1 b2 b3 b4 b5 => ⟨b2, by
      obtain ⟨q', c1, c2, c3, c4, c5⟩ := cf _ n0 b3
      exact ⟨q', c1, c2.trans b4, by rw [c3]; exact b5, c5 b2⟩⟩⟩
  · obtain ⟨m0, a1, a2, a3, a4, a5, a6⟩ := cs j m hj
    rw [a4]; exact h.srt j m0 a1
  · obtain ⟨m0, a1, a2, a3, a4, a5, a6⟩ := cs j m hj
    rw [a4]; exact h.file j m0 a1 (a2 ▸ h1)
  · obtain ⟨m0, a1, a2, a3, a4, a5, a6⟩ := cs j m hj
    rw [a3, a5]; exact h.alive j m0 a1
  · rw [hnd, if_neg (fun e => h.flat e.symm)] at hj
    exact h.rootp m hj
/-- What goneS leaves of an inode. -/
theorem goneS_some {σ : FSt} {b o : Nat} {m : Nd} {y : List UInt8} (hb : σ.nd b = some m) (hy : kget y m.ents = some o) : goneS σ b y = letS (relS (cutS σ b y) o less) o := by
  unfold goneS
  rw [lookS_some hb, hy]
theorem goneS_nd {σ : FSt} {b o : Nat} {m no : Nd} {y : List UInt8} (hb : σ.nd b = some m) (hy : kget y m.ents = some o) (ho : σ.nd o = some no) (hob : o ≠ b) (j : Nat) :
    (goneS σ b y).nd j = if j = o then (if no.links - 1 = 0 ∧ no.holds = 0 then none else some (less no)) else if j = b then some { m with ents := kdel y m.ents } else σ.nd j := by
  have h1 : (cutS σ b y).nd o = some no := (cutS_nd hb hob).trans ho
  have h2 : ((cutS σ b y).put o (some (less no))).nd o = some (less no) := by rw [put_nd h1, if_pos rfl]
  rw [goneS_some hb hy, relS_some h1]
  unfold letS
  rw [h2]
  simp only
  by_cases hz : (less no).links = 0 ∧ (less no).holds = 0
  · rw [if_pos hz, put_nd h2, put_nd h1]
    rw [if_pos (show no.links - 1 = 0 ∧ no.holds = 0 from hz)]
    by_cases e : j = o
    · rw [if_pos e, if_pos e]
    · rw [if_neg e, if_neg e, if_neg e]
      unfold cutS
      rw [entS_some hb, put_nd hb]
  · rw [if_neg hz, put_nd h1]
    rw [if_neg (show ¬ (no.links - 1 = 0 ∧ no.holds = 0) from hz)]
    by_cases e : j = o
    · rw [if_pos e, if_pos e]
    · rw [if_neg e, if_neg e]
      unfold cutS
      rw [entS_some hb, put_nd hb]
theorem Inv.gone {σ : FSt} (h : Inv σ 0) (hL : Live σ) {b o : Nat} {m no : Nd} {y : List UInt8} (hb : σ.nd b = some m) (hd : m.d = true) (hy : kget y m.ents = some o) (ho : σ.nd o = some no) (he : no.d = true → no.ents = []) : Inv (goneS σ b y) 0 := by
  have hob : o ≠ b := fun e => by
    rw [e, hb] at ho
    cases ho
    exact kget_nil_none hy (he hd)
  have h1 : (cutS σ b y).nd o = some no := (cutS_nd hb hob).trans ho
  rw [goneS_some hb hy, relS_some h1]
  exact ((h.cut hb hy).fall (hL.cut hb y) h1 he).2.2
/-- Behind what was taken away the way up is what it was. -/
theorem Under.gone {σ : FSt} {b o : Nat} {m no : Nd} {y : List UInt8} (hb : σ.nd b = some m) (hy : kget y m.ents = some o) (ho : σ.nd o = some no) (hob : o ≠ b) {k j : Nat} (h : Under (goneS σ b y) k j) : Under σ k j := by
  obtain ⟨d, hd⟩ := h
  refine ⟨d, hd.same (.inr rfl) fun i n b1 b2 b3 b4 b5 => ⟨b2, ?_⟩⟩
  rw [goneS_nd hb hy ho hob] at b3
  split at b3
  · rename_i e
    split at b3
    · cases b3
    · cases b3
      exact ⟨no, by rw [e]; exact ho, b4, fun e2 => b5 (show no.links - 1 = 0 by omega), rfl⟩
  · split at b3
    · rename_i e
      cases b3
      exact ⟨m, by rw [e]; exact hb, b4, b5, rfl⟩
    · exact ⟨n, b3, b4, b5, rfl⟩
end Go.Proofs.YtdnbfhcbcdodmaaGreatDoor

/- The tree of files as plain data: the way to a directory, as a text. No program in sight; no condition. -/
namespace Go.Proofs.YtdnbfhcbcdodmaaGreatDoor
open Go.RowKit

/-- The text that leads to a directory (empty: the root). -/
inductive Up (σ : FSt) : Nat → List UInt8 → Prop
  | root : Up σ 1 []
  | step {i : Nat} {n m : Nd} {nm s : List UInt8} : i ≠ 1 → σ.nd i = some n → n.d = true → n.links ≠ 0 → σ.nd n.par = some m → m.d = true → kget nm m.ents = some i → Up σ n.par s → Up σ i (s ++ slashB :: nm)
open Classical in
noncomputable def wayT (σ : FSt) (i : Nat) : List UInt8 := if h : ∃ s, Up σ i s then Classical.choose h else []
theorem Inv.links_le {σ : FSt} (h : Inv σ 0) {i : Nat} {n : Nd} (hi : σ.nd i = some n) (hd : n.d = true) (h1 : i ≠ 1) : refs σ i ≤ 1 := by
  have h2 := h.cnt i n hi h1
  rw [if_neg (nd_pos hi)] at h2
  have := h.one i n hi hd
  omega
/-- A directory's name is one. -/
theorem Inv.name_one {σ : FSt} (h : Inv σ 0) {i a : Nat} {n m : Nd} (hi : σ.nd i = some n) (hd : n.d = true) (h1 : i ≠ 1) (ha : σ.nd a = some m) {s t : List UInt8} (hs : kget s m.ents = some i) (ht : kget t m.ents = some i) : s = t :=
  (refs_unique (h.links_le hi hd h1) ha ha (h.srt a m ha) hs ht).2
theorem Up.det {σ : FSt} (h : Inv σ 0) : ∀ {i : Nat} {s : List UInt8}, Up σ i s → ∀ {t : List UInt8}, Up σ i t → s = t
  | _, _, .root, _, .root => rfl
  | _, _, .root, _, .step h1 _ _ _ _ _ _ _ => absurd rfl h1
  | _, _, .step h1 _ _ _ _ _ _ _, _, .root => absurd rfl h1
  | _, _, .step h1 h2 h3 h4 h5 h6 h7 h8, _, .step g1 g2 g3 g4 g5 g6 g7 g8 => by
    rw [h2] at g2
    cases g2
    rw [h5] at g5
    cases g5
    rw [h.name_one h2 h3 h1 h5 h7 g7, h8.det h g8]
theorem Up.len {σ : FSt} (hL : Live σ) : ∀ {i : Nat} {s : List UInt8}, Up σ i s → ∀ {d : Nat}, Dep σ 0 1 i d → s.length ≤ 33 * d
  | _, _, .root, _, _ => Nat.zero_le _
  | _, _, .step h1 h2 h3 h4 h5 h6 h7 h8, d, hd => by
    obtain ⟨k, rfl, hk⟩ := hd.go_up h2 h1
    have h9 := h8.len hL hk
    have h10 := hL.names _ _ h5 _ (kget_mem h7)
    simp only [List.length_append, List.length_cons] at *
    omega
theorem Up.more {σ : FSt} (h : Inv σ 0) : ∀ {d i : Nat}, Dep σ 0 1 i d → (σ.nd i).isSome = true → ∃ s, Up σ i s
  | _, _, .base _, _ => ⟨[], .root⟩
  | _, _, .up h1 h2 h3 h4 h5 h6, _ => by
    obtain ⟨m, nm, a1, a2, a3, a4⟩ := h.above h3 h4 h5 h1 h2
    obtain ⟨s, hs⟩ := Up.more h h6 (by rw [a1]; rfl)
    exact ⟨_, .step h1 h3 h4 h5 a1 a2 a4 hs⟩
theorem Inv.path {σ : FSt} (h : Inv σ 0) {i : Nat} {n : Nd} (hn : σ.nd i = some n) (hd : n.d = true) (hl : n.links ≠ 0) : ∃ s, Up σ i s := by
  obtain ⟨k, hk⟩ := h.to_root hn hd hl
  exact Up.more h hk (by rw [hn]; rfl)
theorem Up.way {σ : FSt} (h : Inv σ 0) {i : Nat} {s : List UInt8} (hs : Up σ i s) : wayT σ i = s := by
  have h1 : ∃ s, Up σ i s := ⟨s, hs⟩
  unfold wayT
  rw [dif_pos h1]
  exact (Classical.choose_spec h1).det h hs
end Go.Proofs.YtdnbfhcbcdodmaaGreatDoor

/- The tree of files as plain data: all entries. No program in sight; no condition. -/
namespace Go.Proofs.YtdnbfhcbcdodmaaGreatDoor
open Go.RowKit

/-- An entry of the tree, as it is told. -/
structure EntQ where
  path : List UInt8
  kind : Int
  mode : Int
  data : List UInt8
def kindN (n : Nd) : Int := if n.d then 2 else 1
def entQ (P nm : List UInt8) (n : Nd) : EntQ := ⟨P ++ nm, kindN n, n.mode, n.data⟩
/-- What one entry and all that is below it are told as. -/
def entL (σ : FSt) (deeper : List UInt8 → Nat → List EntQ) (P : List UInt8) (q : List UInt8 × Nat) : List EntQ :=
  match σ.nd q.2 with
  | none => []
  | some m => entQ P q.1 m :: (if m.d then deeper (P ++ q.1 ++ [slashB]) q.2 else [])
def treeF (σ : FSt) : Nat → List UInt8 → Nat → List EntQ
  | 0, _, _ => []
  | fuel + 1, P, i => match σ.nd i with | none => [] | some n => (n.ents.map (entL σ (treeF σ fuel) P)).flatten
def treeL (σ : FSt) : List EntQ := treeF σ 101 [] 1
theorem treeF_succ {σ : FSt} {i : Nat} {n : Nd} (h : σ.nd i = some n) (fuel : Nat) (P : List UInt8) : treeF σ (fuel + 1) P i = (n.ents.map (entL σ (treeF σ fuel) P)).flatten := by
  show (match σ.nd i with | none => [] | some n => (n.ents.map (entL σ (treeF σ fuel) P)).flatten) = _
  rw [h]
theorem entL_file {σ : FSt} {g : List UInt8 → Nat → List EntQ} {P nm : List UInt8} {k : Nat} {m : Nd} (h : σ.nd k = some m) (hd : m.d = false) : entL σ g P (nm, k) = [entQ P nm m] := by
  unfold entL
  simp only [h, hd]
  rfl
theorem entL_dir {σ : FSt} {g : List UInt8 → Nat → List EntQ} {P nm : List UInt8} {k : Nat} {m : Nd} (h : σ.nd k = some m) (hd : m.d = true) : entL σ g P (nm, k) = entQ P nm m :: g (P ++ nm ++ [slashB]) k := by
  unfold entL
  simp only [h, hd]
  rfl
/-- The directory above is the one in which it stands. -/
theorem Inv.par_of {σ : FSt} (h : Inv σ 0) {a k : Nat} {n m : Nd} {nm : List UInt8} (ha : σ.nd a = some n) (hk : kget nm n.ents = some k) (hm : σ.nd k = some m) (hd : m.d = true) : k ≠ 1 ∧ m.links ≠ 0 ∧ m.par = a := by
  have h1 := refs_pos ha hk
  have hk1 : k ≠ 1 := fun e => by
    have := h.root
    rw [e] at h1
    omega
  have h2 := h.cnt k m hm hk1
  rw [if_neg (nd_pos hm)] at h2
  have hl : m.links ≠ 0 := by omega
  obtain ⟨q, nm', b1, b2, b3⟩ := h.up k m hm hd hl hk1 (nd_pos hm)
  exact ⟨hk1, hl, (refs_unique (h.links_le hm hd hk1) b1 ha (h.srt _ q b1) b3 hk).1⟩
/-- What stands in a directory is one deeper. -/
theorem Inv.deeper {σ : FSt} (h : Inv σ 0) {a k d : Nat} {n m : Nd} {nm : List UInt8} (hdep : Dep σ 0 1 a d) (ha : σ.nd a = some n) (hk : kget nm n.ents = some k) (hm : σ.nd k = some m) (hd : m.d = true) : Dep σ 0 1 k (d + 1) := by
  obtain ⟨h1, h2, h3⟩ := h.par_of ha hk hm hd
  exact .up h1 (nd_pos hm) hm hd h2 (h3 ▸ hdep)
theorem kget_of_mem {α : Type} {L : KA α} (h : KSorted L) {q : List UInt8 × α} (hq : q ∈ L) : kget q.1 L = some q.2 := by
  induction L with
  | nil => cases hq
  | cons y r ih =>
    obtain ⟨h1, h2⟩ := List.pairwise_cons.1 h
    rw [kget_cons]
    rcases List.mem_cons.1 hq with rfl | hq
    · rw [if_pos (by simp)]
    · have h3 := h1 q hq
      rw [if_neg, ih h2 hq]
      intro e
      rw [beq_iff_eq.1 e, WideAt.bytes_irrefl] at h3
      cases h3
end Go.Proofs.YtdnbfhcbcdodmaaGreatDoor

/- shyardlaw08.ask, joined: over whatever the methods do. Conditions: the contracts' own premises. -/
namespace Go.Proofs.YtdnbfhcbcdodmaaGreatDoor
open Go.RowKit

structure StQ where
  ino : Int
  kind : Int
  mode : Int
  links : Int
  size : Int
def noSt : StQ := ⟨0, 0, 0, 0, 0⟩
end Go.Proofs.YtdnbfhcbcdodmaaGreatDoor

/- files.FS.Stat, List. Conditions: the contracts' own premises. -/
namespace Go.Proofs.YtdnbfhcbcdodmaaGreatDoor
open Go.RowKit

def statT (σ : FSt) (i : Int) : StQ := match σ.ndI i with | none => noSt | some n => ⟨i, if n.d then 2 else 1, n.mode, n.links, (n.data.length : Int) + (n.ents.length : Int)⟩
end Go.Proofs.YtdnbfhcbcdodmaaGreatDoor

/- A range over a function, by an invariant over ghost states: the caller and the iterator share a relation on steps. Conditions: the premises. -/
namespace Go.Proofs.YtdnbfhcbcdodmaaGreatDoor
open Go.RowKit

abbrev FW : Fence := Fence.wide

/-- What a round's body must come to. -/
def rfPost {σ : Type} (D : Nat) (I : σ → World → Prop) (Ix : Code → World → Prop) (s' : σ) (W : World) : Exit → Act → World → Prop
  | .normal, _, W' => (W'.heap[D]? = W.heap[D]? ∧ W'.heap[D + 1]? = W.heap[D + 1]?) ∧ I s' W'
  | .ret, _, W' => (W'.heap[D]? = W.heap[D]? ∧ W'.heap[D + 1]? = W.heap[D + 1]?) ∧ Ix .ret W'
  | .exit id, _, W' => (W'.heap[D]? = W.heap[D]? ∧ W'.heap[D + 1]? = W.heap[D + 1]?) ∧ Ix (.exit id) W'
  | .goto t, _, W' => (W'.heap[D]? = W.heap[D]? ∧ W'.heap[D + 1]? = W.heap[D + 1]?) ∧ Ix (.goto t) W'
  | .panic _, _, _ => False
  | .outgrown, _, _ => False

theorem fr_putObj {S : Nat → Prop} {W : World} {r : Nat} (o : Obj) (hS : S r) : Fr S W (W.putObj r o) :=
  ⟨rfl, rfl, rfl, by simp, fun k _ hk => World.putObj_heap_other (fun e => hk (e ▸ hS))⟩

theorem rf_law {P : Program} {α σ : Type} {n : Nat} {g : Operand} {ps : Array Tmp} {assign body : Code} {Q : Exit → Act → World → Prop} {a : Act} {w : World}
    (gf : Nat) (lb : Array Value) (hg : a.eval g = .func (.func gf) #[] lb) (eg : ∀ args w, (callFunc gf args).run P w = .ok (.enter gf args) w)
    (encs : α → Array Value) (hps : ∀ x, (encs x).size = ps.size)
    (Step : σ → α → σ → World → Prop) (Fin : σ → Prop) (s0 : σ) (I : σ → World → Prop) (Ix : Code → World → Prop)
    (hI : ∀ s W W', I s W → Fr (fun k => k = w.heap.size ∨ k = w.heap.size + 1) W W' → I s W')
    (hIx : ∀ c W W', Ix c W → Fr (fun k => k = w.heap.size ∨ k = w.heap.size + 1) W W' → Ix c W')
    (hStep : ∀ s x s' W W', Step s x s' W → I s W → Fr (fun k => k = w.heap.size ∨ k = w.heap.size + 1) W W' → Step s x s' W')
    (h0 : I s0 w)
    (hiter : ∀ (l : Nat) (J : σ → World → Prop) (Jx : World → Prop) (W : World), (∀ s W, J s W → I s W) →
      (∀ s W W', J s W → Fr (fun _ => False) W W' → J s W') → (∀ W W', Jx W → Fr (fun _ => False) W W' → Jx W') →
      (∀ s x s' W, Step s x s' W → J s W → YieldAt FW (n - 1 - 1) P l (encs x) W fun e W' => (e = .returned (.bool true) ∧ J s' W') ∨ (e = .returned (.bool false) ∧ Jx W')) →
      J s0 W → CallsIn FW (n - 1) P gf (#[.func (.yield l) #[] #[]] ++ lb) W fun e W' => (∃ v, e = .returned v) ∧ ((∃ s, Fin s ∧ J s W') ∨ Jx W'))
    (a₁ : α → Act)
    (hassign : ∀ (l : Nat) (x : α) (W : World) (K : Act → World → Prop), K (a₁ x) W →
      assign.wpIn (FW.inRound l) (n - 1 - 1) P (Exit.then K (fun _ _ _ => False)) { tmps := (ps.zip (encs x)).foldl (fun t (p, v) => t.setIfInBounds p v) a.tmps, defers := [] } W)
    (hbody : ∀ (l : Nat) (s : σ) (x : α) (s' : σ) (W : World), Step s x s' W → I s W → w.heap.size + 2 ≤ W.heap.size → body.wpIn (FW.inRound l) (n - 1 - 1) P (rfPost w.heap.size I Ix s' W) (a₁ x) W)
    (hdone : ∀ (s : σ) (W : World), Fin s → I s W → W.heap[w.heap.size]? = some (.deferred (some [])) → Q .normal { a with defers := { target := .collected w.heap.size, args := #[] } :: a.defers } W)
    (hstop : ∀ (c : Code) (W : World), Ix c W → W.heap[w.heap.size]? = some (.deferred (some [])) → c.wpIn FW n P Q { a with defers := { target := .collected w.heap.size, args := #[] } :: a.defers } W) :
    (Code.rangeFunc g ps assign body).wpIn FW n P Q a w := by
  refine wpIn_rangeFunc fun fn hfn => ?_
  obtain ⟨rec, hrec⟩ : ∃ rec : LoopState → Option Code → Loop, rec = fun st pd => { state := st, pending := pd, fn := fn, tmps := a.tmps, params := ps, assign := assign, body := body, defers := w.heap.size } := ⟨_, rfl⟩
  obtain ⟨W1, hW1⟩ : ∃ W1, W1 = (w.alloc (.deferred (some []))).alloc (.loop (rec .ready none)) := ⟨_, rfl⟩
  have hf1 : Fr (fun _ => False) w W1 := by rw [hW1]; exact ((Fr.refl _ _).alloc _).alloc _
  have hL1 : W1.heap[w.heap.size + 1]? = some (.loop (rec .ready none)) := by rw [hW1]; exact blk_new' _ _ _ (by simp)
  have hK1 : W1.heap[w.heap.size]? = some (.deferred (some [])) := by rw [hW1]; exact blk_alloc (blk_new _ _) _
  have hI1 : I s0 W1 := hI _ _ _ h0 (hf1.mono fun _ _ h => h.elim)
  have hR : ∀ {A B : World}, Fr (fun _ => False) A B → Fr (fun k => k = w.heap.size ∨ k = w.heap.size + 1) A B := fun h => h.mono fun _ _ h => h.elim
  have hput : ∀ (A : World) (o : Obj), Fr (fun k => k = w.heap.size ∨ k = w.heap.size + 1) A (A.putObj (w.heap.size + 1) o) := fun A o => fr_putObj o (.inr rfl)
  refine ⟨w.heap.size + 1, [{ target := .collected w.heap.size, args := #[] }], W1, { target := .fn (.func gf) lb, args := #[.func (.yield (w.heap.size + 1)) #[] #[]] }, W1, gf,
    #[.func (.yield (w.heap.size + 1)) #[] #[]] ++ lb, W1, ?_, ?_, ?_, ?_, fun h => (by cases h), ?_⟩
  · rw [hW1, hrec]; exact run_enterLoop_outer _ _ _ _ _
  · simp only [resolve, hg]
    simp [go_sem]
  · intro f' hf'; trivial
  · simp [invoke, go_sem, eg]
  · refine (hiter (w.heap.size + 1)
      (fun s W => I s W ∧ W.heap[w.heap.size + 1]? = some (.loop (rec .ready none)) ∧ W.heap[w.heap.size]? = some (.deferred (some [])))
      (fun W => ∃ c, Ix c W ∧ W.heap[w.heap.size + 1]? = some (.loop (rec .done (some c))) ∧ W.heap[w.heap.size]? = some (.deferred (some [])))
      W1 (fun _ _ h => h.1)
      (fun s A B hs hg' => ⟨hI s A B hs.1 (hR hg'), hg'.get hs.2.1 (fun h => h), hg'.get hs.2.2 (fun h => h)⟩)
      (fun A B hs hg' => by
        obtain ⟨c, hc, hl, hk⟩ := hs
        exact ⟨c, hIx c A B hc (hR hg'), hg'.get hl (fun h => h), hg'.get hk (fun h => h)⟩)
      ?_ ⟨hI1, hL1, hK1⟩).mono ?_
    · rintro s x s' W hst ⟨hi, hl, hk⟩
      have hlt : w.heap.size + 1 < W.heap.size := blk_lt hl
      have hy := run_yield (P := P) (args := encs x) hl (by rw [hrec]; exact hps x)
      rw [hrec] at hy
      refine ⟨fn, _, assign, body, hy, roundIn_of_wpIn hfn (hassign _ x W _ ⟨_, run_beginRound hl (by rw [hrec]), ?_⟩)⟩
      have hl2 : (W.putObj (w.heap.size + 1) (.loop { rec .ready none with state := .busy })).heap[w.heap.size + 1]? = some (.loop { rec .ready none with state := .busy }) := World.putObj_heap_same hlt
      have hk2 : (W.putObj (w.heap.size + 1) (.loop { rec .ready none with state := .busy })).heap[w.heap.size]? = some (.deferred (some [])) := (World.putObj_heap_other (by omega)).trans hk
      refine wpIn_mono (hbody _ s x s' _ (hStep _ _ _ _ _ hst hi (hput _ _)) (hI _ _ _ hi (hput _ _)) (by simp; omega)) ?_
      have fin : ∀ (jump : Option Code) (W3 : World), (W3.heap[w.heap.size]? = (W.putObj (w.heap.size + 1) (.loop { rec .ready none with state := .busy })).heap[w.heap.size]? ∧ W3.heap[w.heap.size + 1]? = (W.putObj (w.heap.size + 1) (.loop { rec .ready none with state := .busy })).heap[w.heap.size + 1]?) →
          (Instr.endRound (w.heap.size + 1) jump).run P W3 = .ok (.bool jump.isNone) (W3.putObj (w.heap.size + 1) (.loop (rec (if jump.isNone then .ready else .done) jump))) ∧
          (W3.putObj (w.heap.size + 1) (.loop (rec (if jump.isNone then .ready else .done) jump))).heap[w.heap.size + 1]? = some (.loop (rec (if jump.isNone then .ready else .done) jump)) ∧
          (W3.putObj (w.heap.size + 1) (.loop (rec (if jump.isNone then .ready else .done) jump))).heap[w.heap.size]? = some (.deferred (some [])) := fun jump W3 hk3 => by
        have hl3 : W3.heap[w.heap.size + 1]? = some (.loop { rec .ready none with state := .busy }) := hk3.2.trans hl2
        have := run_endRound (P := P) jump hl3
        rw [hrec] at this ⊢
        exact ⟨this, World.putObj_heap_same (blk_lt hl3), (World.putObj_heap_other (by omega)).trans (hk3.1.trans hk2)⟩
      rintro e a3 W3 hp
      cases e with
      | normal =>
        obtain ⟨hk3, hi3⟩ := hp
        obtain ⟨hr, hl4, hk4⟩ := fin none W3 hk3
        exact ⟨_, _, hr, .inl ⟨rfl, hI _ _ _ hi3 (hput _ _), hl4, hk4⟩⟩
      | ret =>
        obtain ⟨hk3, hi3⟩ := hp
        obtain ⟨hr, hl4, hk4⟩ := fin (some .ret) W3 hk3
        exact ⟨_, _, hr, .inr ⟨rfl, .ret, hIx _ _ _ hi3 (hput _ _), hl4, hk4⟩⟩
      | exit id =>
        obtain ⟨hk3, hi3⟩ := hp
        obtain ⟨hr, hl4, hk4⟩ := fin (some (.exit id)) W3 hk3
        exact ⟨_, _, hr, .inr ⟨rfl, .exit id, hIx _ _ _ hi3 (hput _ _), hl4, hk4⟩⟩
      | goto t =>
        obtain ⟨hk3, hi3⟩ := hp
        obtain ⟨hr, hl4, hk4⟩ := fin (some (.goto t)) W3 hk3
        exact ⟨_, _, hr, .inr ⟨rfl, .goto t, hIx _ _ _ hi3 (hput _ _), hl4, hk4⟩⟩
      | panic chain => exact hp.elim
      | outgrown => exact hp.elim
    · rintro e W' ⟨⟨v, rfl⟩, hend⟩
      rcases hend with ⟨s, hfin, hi, hl, hk⟩ | ⟨c, hc, hl, hk⟩
      · have he := run_endLoop (P := P) hl (by rw [hrec]; simp)
        rw [show (rec .ready none).pending = none by rw [hrec]] at he
        refine ⟨none, _, he, ?_⟩
        exact hdone s _ hfin (hI _ _ _ hi (hput _ _)) ((World.putObj_heap_other (by omega)).trans hk)
      · have he := run_endLoop (P := P) hl (by rw [hrec]; simp)
        rw [show (rec .done (some c)).pending = some c by rw [hrec]] at he
        refine ⟨some c, _, he, ?_⟩
        exact hstop c _ (hIx _ _ _ hc (hput _ _)) ((World.putObj_heap_other (by omega)).trans hk)
theorem wpIn_of_wp_op {P : Program} {o : Oper} {a : Act} {w : World} {K : Act → World → Prop} {Q : Exit → Act → World → Prop} (l n : Nat) (hd : ∀ c, o.op ≠ .defer c) (h : o.wp P a w K Q) :
    o.wpIn (Fence.wide.inRound l) n P a w K Q := by
  refine ⟨fun _ _ => trivial, ?_⟩
  rw [Oper.semAt_eq _ _ _ hd]
  unfold Oper.wp at h
  generalize (execOp a.eval o).run P w = r at *
  cases r with
  | ok x w' =>
    cases x <;> simp only [Oper.upon] at h <;> simp only [Oper.uponIn] <;>
      first
        | exact h
        | exact h.elim
        | skip
    case enter f args =>
      exact ⟨fun h0 => (by cases h0), CallsIn.inRound l (callsIn_wide.2 (h.mono fun e w' he => by cases e <;> exact he))⟩
    case row row args =>
      refine ⟨fun h0 => (by cases h0), fun c cs _ => ?_⟩
      obtain ⟨v, w2, hR, hs⟩ := h c cs
      exact ⟨v, w2, hR, stepsIn_wide.2 hs⟩
  | halt x w' => cases x <;> simp only [Oper.upon] at h <;> simp only [Oper.uponIn] <;> exact h

theorem wpIn_of_wpOp {P : Program} {ops : Array Oper} {i : Nat} {a : Act} {w : World} {K : Act → World → Prop} {Q : Exit → Act → World → Prop} (l n : Nat) (hd : ∀ o ∈ ops, ∀ c, o.op ≠ .defer c) (hlo : ¬ LetsOut Q) (h : wpOp P ops Q i K a w) :
    wpOpIn (Fence.wide.inRound l) n P ops Q i K a w := by
  unfold wpOp at h
  unfold wpOpIn
  split
  · rename_i ho; simpa [ho] using h
  · rename_i o ho
    simp only [ho] at h
    split
    · rename_i hw
      rw [if_pos hw] at h
      rcases h with h | h
      · exact wpIn_of_wp_op l n (hd o (Array.mem_of_getElem? ho)) h
      · exact absurd h.2 hlo
    · rename_i hw
      rw [if_neg hw] at h
      exact ⟨fun _ _ => trivial, h⟩
theorem wpIn_of_wpAny {P : Program} {ops : Array Oper} {md : Region.Mode} {Q : Exit → Act → World → Prop} (l n : Nat) (hd : ∀ o ∈ ops, ∀ c, o.op ≠ .defer c) (hlo : ¬ LetsOut Q) :
    ∀ (f : Nat) (listed : Array Bool) (a : Act) (w : World), wpAny P md ops Q f listed a w → wpAnyIn (Fence.wide.inRound l) n P md ops Q f listed a w
  | 0, _, _, _, h => h
  | f + 1, _, _, _, h => ⟨h.1, fun i hi => wpOpIn_mono (fun a' w' h' => wpIn_of_wpAny l n hd hlo f _ a' w' h') (wpIn_of_wpOp l n hd hlo (h.2 i hi))⟩
def noDefer (ops : Array Oper) : Bool := ops.all fun o => match o.op with | .defer _ => false | _ => true
theorem noDefer_spec {ops : Array Oper} (h : noDefer ops = true) : ∀ o ∈ ops, ∀ c, o.op ≠ .defer c := by
  intro o ho c heq
  have := Array.all_eq_true_iff_forall_mem.1 h o ho
  simp [heq] at this
/-- A region that draws its order, in a round of a range over a function. -/
theorem round_any {P : Program} {id : Nat} {a : Act} {w : World} {ops : Array Oper} {Q : Exit → Act → World → Prop} {l n : Nat} (hm : P.follows .mixedOrders = true) (hd : noDefer ops = true) (hlo : ¬ LetsOut Q)
    (h : wpAny P .any ops Q ops.size (Array.replicate ops.size false) a w.drew) : (Code.region id ops true).wpIn (Fence.wide.inRound l) n P Q a w :=
  wpIn_region_any hm (wpIn_of_wpAny l n (noDefer_spec hd) hlo _ _ _ _ h)
end Go.Proofs.YtdnbfhcbcdodmaaGreatDoor

/- A region that draws its order, inside the wide fence: what looks at no world first, what only reads next, then a tail in a forced order that may hand a value to a loop's body. Conditions: closed facts on the region, by the kernel. -/
namespace Go.Proofs.YtdnbfhcbcdodmaaGreatDoor
open Go.RowKit

section
variable {P : Program} {ops : Array Oper} {w : World}

theorem valueOp_plain {o : Oper} (h : valueOp o = true) : ∀ c, o.op ≠ .defer c := by
  intro c hc
  unfold valueOp at h
  rw [hc] at h
  cases h
theorem valueOp_about {o : Oper} (h : valueOp o = true) (w : World) (ρ : Operand → Value) : o.about P w ρ = none := by
  obtain ⟨dst, op, ty, pos, aft, grd⟩ := o
  cases op <;> first | rfl | (simp [valueOp] at h)
theorem opIn_of_stOp {n i : Nat} {o : Oper} (ho : ops[i]? = some o) (hv : valueOp o = true) {K : Act → Prop} {K' : Act → World → Prop} {Q : Exit → Act → World → Prop} {a : Act} (h : ∀ a', K a' → K' a' w) (hh : stOp P ops w i K a) : wpOpIn FW n P ops Q i K' a w := by
  unfold stOp at hh
  unfold wpOpIn
  simp only [ho] at hh ⊢
  split
  · rename_i hw
    rw [if_pos hw] at hh
    refine ⟨fun _ _ => trivial, ?_⟩
    rw [Oper.semAt_plain _ _ _ (valueOp_plain hv)]
    unfold Oper.still at hh
    cases hr : (execOp a.eval o).run P w with
    | ok nx w' =>
      obtain ⟨v, rfl⟩ := valueOp_value hv hr
      rw [hr] at hh
      simp only [Oper.stillUpon] at hh
      obtain ⟨rfl, hk⟩ := hh
      exact h _ hk
    | halt x w' =>
      rw [hr] at hh
      exact hh.elim
  · rename_i hw
    rw [if_neg hw] at hh
    exact ⟨fun _ _ => trivial, h _ hh⟩
theorem anyIn_of_head {n m g : Nat} {L : Array Bool → Act → Prop} {Q : Exit → Act → World → Prop} (hv : ∀ i o, i < m → ops[i]? = some o → valueOp o = true) (hL : ∀ listed a, L listed a → wpAnyIn FW n P .any ops Q g listed a w) :
    ∀ (f : Nat) (listed : Array Bool) (a : Act), wpAnyL P .any ops w m L f listed a → wpAnyIn FW n P .any ops Q (f + g) listed a w
  | 0, listed, a, h => by rw [Nat.zero_add]; exact hL _ _ h
  | f + 1, listed, a, h => by
    rw [show f + 1 + g = (f + g) + 1 by omega]
    refine ⟨fun h0 => absurd h0 h.1, fun i hi => ?_⟩
    obtain ⟨hin, hst⟩ := h.2 i hi
    obtain ⟨_, o, ho, _⟩ := mem_ready.1 hi
    exact opIn_of_stOp ho (hv i o hin ho) (fun a' h' => anyIn_of_head hv hL f _ a' h') hst
theorem anyIn_of_seq {n : Nat} {Q : Exit → Act → World → Prop} : ∀ (l : List Oper) (k : Nat) (listed : Array Bool) (a : Act) (w : World), (∀ j, l[j]? = ops[k + j]?) →
    Region.seqB .any ops l.length k listed = true → wpListIn FW n P ops Q l a w → wpAnyIn FW n P .any ops Q l.length listed a w
  | [], _, _, _, _, _, hB, h => ⟨by simpa [Region.seqB] using hB, h⟩
  | o :: l, k, listed, a, w, hl, hB, h => by
    have h0 : ops[k]? = some o := by simpa using (hl 0).symm
    simp only [List.length_cons, Region.seqB, Bool.and_eq_true, decide_eq_true_eq] at hB
    refine ⟨fun h1 => (by rw [hB.1] at h1; cases h1), fun i hi => ?_⟩
    rw [hB.1] at hi
    have hik : i = k := by simpa using hi
    subst hik
    have hw : wpOpIn FW n P ops Q i (wpListIn FW n P ops Q l) a w := by unfold wpOpIn; simp only [h0]; exact h
    exact wpOpIn_mono (fun a' w' h' => anyIn_of_seq l (i + 1) _ a' w' (fun j => by have := hl (j + 1); simpa [Nat.add_assoc, Nat.add_comm 1 j] using this) hB.2 h') hw
theorem anyIn_blind {n : Nat} {Q : Exit → Act → World → Prop} (hs : Region.noSelect ops = true) (hQ : ∀ c a d v w, Q (.panic c) (Act.put a d v) w → Q (.panic c) a w) {K : Act → Prop} {g : Nat} :
    ∀ (is : List Nat) (listed : Array Bool) (a : Act), lexList ops is listed = true → (∀ a', K a' → wpAnyIn FW n P .any ops Q g (listAll is listed) a' w) →
    wpQuiet P ops (fun _ => True) K (pickOps ops is) a → (∀ i ∈ is, ∀ o, ops[i]? = some o → valueOp o = true) → wpAnyIn FW n P .any ops Q (is.length + g) listed a w
  | [], listed, a, _, hk, h, _ => by simpa [listAll] using hk a h
  | i :: is, listed, a, hl, hk, h, hcall => by
    simp only [lexList, Bool.and_eq_true, decide_eq_true_eq] at hl
    obtain ⟨⟨⟨hlt, hr⟩, hf⟩, hl'⟩ := hl
    obtain ⟨o, ho⟩ : ∃ o, ops[i]? = some o := ⟨_, Array.getElem?_eq_getElem hlt⟩
    have hpk : pickOps ops (i :: is) = o :: pickOps ops is := by simp [pickOps, ho]
    rw [hpk] at h
    unfold wpQuiet at h
    rw [List.length_cons, show is.length + 1 + g = (is.length + g) + 1 by omega]
    have hvo := hcall i (by simp) o ho
    by_cases hw : Region.wanted o (yielded ops a.tmps) = true
    · rw [if_pos hw] at h
      obtain ⟨v, h1, h2⟩ := h
      have hv : ∀ w, (execOp a.eval o).run P w = .ok (.value v) w := fun w0 => by
        have h3 := h1 w0 trivial
        unfold Oper.quietAt at h3
        cases hrun : (execOp a.eval o).run P w0 with
        | ok nx w' =>
          obtain ⟨u, rfl⟩ := valueOp_value hvo hrun
          rw [hrun] at h3
          simp only [Oper.quietUpon] at h3
          rw [h3.1, h3.2]
        | halt x w' => rw [hrun] at h3; simp only [Oper.quietUpon] at h3
      exact wpAnyIn_take rfl ho hs hf (by simpa using hr) (fun c a w => hQ c a _ _ w) ⟨.inl ⟨hw, hv⟩, fun w => valueOp_about hvo w _⟩ (anyIn_blind hs hQ is _ _ hl' hk h2 (fun j hj => hcall j (List.mem_cons_of_mem _ hj)))
    · rw [if_neg hw] at h
      exact wpAnyIn_take rfl ho hs hf (by simpa using hr) (fun c a w => hQ c a _ _ w) ⟨.inr ⟨by simpa using hw, rfl⟩, fun w => valueOp_about hvo w _⟩ (anyIn_blind hs hQ is _ _ hl' hk h (fun j hj => hcall j (List.mem_cons_of_mem _ hj)))
theorem region_mix_in {n id : Nat} {Q : Exit → Act → World → Prop} {a : Act} {l : List Oper} (bl rd : List Nat) (m : Nat) (hm : P.follows .mixedOrders = true) (hB : mixB l.toArray bl rd m = true) (hV : (List.range m).all (fun i => (l.toArray[i]?.map valueOp).getD false) = true)
    (hQ : ∀ c a d v w, Q (.panic c) (Act.put a d v) w → Q (.panic c) a w)
    (h0 : wpQuiet P l.toArray (fun _ => True) (fun a1 => wpQuiet P l.toArray (fun w' => w' = w.drew) (fun a2 => wpListIn FW n P l.toArray Q (l.drop m) a2 w.drew) (rd.map (fun i => l.getD i default)) a1) (bl.map (fun i => l.getD i default)) a) :
    (Code.region id l.toArray true).wpIn FW n P Q a w := by
  simp only [mixB, Bool.and_eq_true, decide_eq_true_eq, List.all_eq_true] at hB
  obtain ⟨⟨⟨⟨⟨⟨⟨⟨hs, hn⟩, hc⟩, hlen⟩, hbl⟩, hl1⟩, hrd⟩, hl2⟩, hq⟩ := hB
  have hn2 : m < l.length := by simpa using hn
  have h := h0
  rw [← pickOps_map l bl (fun i hi => by have := (hbl i hi).1; omega), ← pickOps_map l rd (fun i hi => by have := (hrd i hi).1; omega)] at h
  have inv0 : MixInv l.toArray m (Array.replicate l.toArray.size false) :=
    ⟨by simp, fun j oj _ hl => (by rw [getD_replicate_false] at hl; cases hl), fun t _ ht => getD_in (by simpa using ht) (getD_replicate_false _ _)⟩
  have inv1 := lexList_inv bl _ inv0 hl1 (fun i hi => (hbl i hi).1)
  have hsz : l.toArray.size = bl.length + (rd.length + (l.drop m).length) := by simp at hn ⊢; omega
  have hg : l.toArray.size - m = (l.drop m).length := by simp
  refine wpIn_region_any hm ?_
  have key : wpAnyIn FW n P .any l.toArray Q (bl.length + (rd.length + (l.drop m).length)) (Array.replicate l.toArray.size false) a w.drew := by
    refine anyIn_blind hs hQ bl _ a hl1 ?_ h (fun i hi o ho => by have := (hbl i hi).2; rw [ho] at this; simpa using this)
    intro a1 h1
    refine anyIn_of_head (m := m) (L := fun listed' a' => Region.seqB .any l.toArray (l.drop m).length m listed' = true ∧ wpListIn FW n P l.toArray Q (l.drop m) a' w.drew) ?_ ?_ rd.length _ _ ?_
    · intro i o hi ho
      have h9 := List.all_eq_true.1 hV i (List.mem_range.2 hi)
      rw [ho] at h9
      simpa using h9
    · intro listed a' hL
      exact anyIn_of_seq (l.drop m) m listed a' w.drew (fun j => by simp) hL.1 hL.2
    · exact any_reads hs hc hn rd _ a1 inv1 (fun i hi => by have := hrd i hi; exact ⟨this.1, by simpa using this.2⟩) hl2 (by rw [← hg]; exact hq) (still_of_quiet _ _ h1)
  rw [← hsz] at key
  exact key
end
end Go.Proofs.YtdnbfhcbcdodmaaGreatDoor
