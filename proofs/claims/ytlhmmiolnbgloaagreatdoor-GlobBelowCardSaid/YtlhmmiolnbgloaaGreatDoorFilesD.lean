/- pattern.one, Match. Conditions: the contracts' own premises. -/
import Derived.Test.YtlhmmiolnbgloaaGreatDoorGlobF
import Derived.Test.YtlhmmiolnbgloaaGreatDoorStrs
import Derived.Test.YtlhmmiolnbgloaaGreatDoorRegionQ
namespace Go.Proofs.YtlhmmiolnbgloaaGreatDoor
open Go.RowKit

def OnePost (w : World) (T : Nat → Prop) (p : List Ch) (c : UInt8) (e : Ending) (w' : World) : Prop :=
  ∃ rv, e = .returned (.tuple #[.bool (oneL p c).1, rv]) ∧ ChV w' T rv (oneL p c).2 ∧ Fr (fun _ => False) w w'
theorem oneL_qm {x : Ch} {r : List Ch} {c : UInt8} (h : x = un qmB) : oneL (x :: r) c = (true, r) := by show (if x = un qmB then (true, r) else if x = un opB then (match bracketL (x :: r) c with | some y => y | none => (x.b == c, r)) else (x.b == c, r)) = _; rw [if_pos h]
theorem oneL_op {x : Ch} {r : List Ch} {c : UInt8} (h1 : ¬ x = un qmB) (h : x = un opB) {b : Bool} {q : List Ch} (hb : bracketL (x :: r) c = some (b, q)) : oneL (x :: r) c = (b, q) := by show (if x = un qmB then (true, r) else if x = un opB then (match bracketL (x :: r) c with | some y => y | none => (x.b == c, r)) else (x.b == c, r)) = _; rw [if_neg h1, if_pos h, hb]
theorem oneL_op0 {x : Ch} {r : List Ch} {c : UInt8} (h1 : ¬ x = un qmB) (h : x = un opB) (hb : bracketL (x :: r) c = none) : oneL (x :: r) c = (x.b == c, r) := by show (if x = un qmB then (true, r) else if x = un opB then (match bracketL (x :: r) c with | some y => y | none => (x.b == c, r)) else (x.b == c, r)) = _; rw [if_neg h1, if_pos h, hb]
theorem oneL_pl {x : Ch} {r : List Ch} {c : UInt8} (h1 : ¬ x = un qmB) (h : ¬ x = un opB) : oneL (x :: r) c = (x.b == c, r) := by show (if x = un qmB then (true, r) else if x = un opB then (match bracketL (x :: r) c with | some y => y | none => (x.b == c, r)) else (x.b == c, r)) = _; rw [if_neg h1, if_neg h]
theorem beq_int (a b : UInt8) : (a == b) = ((a.toNat : Int) == (b.toNat : Int)) := by
  rw [Bool.eq_iff_iff, beq_iff_eq, beq_iff_eq]
  exact ⟨fun e => by rw [e], fun e => UInt8.toNat_inj.1 (by omega)⟩
/-- The rest behind the first. -/
theorem ChV.rest {w : World} {T : Nat → Prop} {g o n c : Nat} {x : Ch} {r : List Ch} (h : ChV w T (.slice (some ⟨g, o, none⟩) n c) (x :: r)) : ∃ X, (if c = 1 then some (⟨g, o, none⟩ : Addr) else some ⟨g, o + 2, none⟩) = X ∧ ChV w T (.slice X r.length (c - 1)) r := by
  have hcut := h.cut (l := 1) (k := (x :: r).length) (by simp) (Nat.le_refl _) (m := r.length) (by simp)
  rw [List.take_length, List.drop_succ_cons, List.drop_zero] at hcut
  exact ⟨_, rfl, hcut⟩
set_option maxRecDepth 100000 in
set_option maxHeartbeats 4000000 in
theorem one_any (w : World) (T : Nat → Prop) (v : Value) (x : Ch) (r : List Ch) (h : ChV w T v (x :: r)) (hlen : r.length ≤ 1000000) (c : UInt8) : Calls Tryz.prog 91 #[v, .int .u8 c.toNat] w (OnePost w T (x :: r) c) := by
  have h0 := h
  obtain ⟨a, pc, rfl⟩ := h.form
  obtain ⟨g, o, rfl, hg, c0, c1⟩ := h.head
  obtain ⟨-, hpc, hpc2, -⟩ := h.at
  obtain ⟨X, hX, hrest⟩ := h0.rest
  have hs1 := hide (starts_any w _ _ (x :: r) h0 ⟨#[63]⟩)
  have e1 : startsL (x :: r) (ByteArray.mk #[63]).data.toList = decide (x = un qmB) := starts_one x r 63
  have e2 : startsL (x :: r) (ByteArray.mk #[91]).data.toList = decide (x = un opB) := starts_one x r 91
  have hs2 := hide (fun (W : World) (hf : Fr (fun _ => False) w W) => starts_any W _ _ (x :: r) (h0.still hf) ⟨#[91]⟩)
  have hbr := hide (fun (W : World) (hf : Fr (fun _ => False) w W) => bracket_any W _ _ x r (h0.still hf) hlen c)
  rw [e1] at hs1
  rw [e2] at hs2
  have hlx : (x :: r).length = r.length + 1 := rfl
  have hpc1 : r.length + 1 ≤ pc := hpc
  have Hrest := hide hrest
  have Hc0 := hide c0
  clear e1 e2 hrest h h0 hpc c0 c1
  by_cases hq : x = un qmB
  · rw [decide_eq_true hq] at hs1
    have hL := hide (oneL_qm (r := r) (c := c) hq)
    clear hs2 hbr hq
    go_enter Tryz.func91, Tryz.ntmps91
    go_wp2_with fail
    refine hs1.out.mono ?_
    rintro e w2 ⟨rfl, hf2⟩
    have hfin := hide (show OnePost w T (x :: r) c (.returned (.tuple #[.bool true, .slice X r.length (pc - 1)])) w2.drew from ⟨_, by rw [hL.out], by rw [hL.out]; exact Hrest.out.still hf2.drew, hf2.drew⟩)
    clear hs1 hf2 hL
    go_wp2_with fail
    refine region_still (by kernel_rfl) (by kernel_rfl) ?_
    repeat go_big_quiet_step (fail)
    refine wpQuiet_nil ?_
    go_wp2_with fail
    go_returns
    exact hfin.out
  · rw [decide_eq_false hq] at hs1
    have hfin : ∀ W2 : World, Fr (fun _ => False) w W2 → oneL (x :: r) c = (x.b == c, r) → OnePost w T (x :: r) c (.returned (.tuple #[.bool ((x.b.toNat : Int) == (c.toNat : Int)), .slice X r.length (pc - 1)])) W2 := fun W2 hf hL => ⟨_, by rw [hL, ← beq_int], by rw [hL]; exact Hrest.out.still hf, hf⟩
    have hfin := hide hfin
    by_cases ho : x = un opB
    · rw [decide_eq_true ho] at hs2
      cases hb : bracketL (x :: r) c with
      | some y =>
        obtain ⟨b, q⟩ := y
        have hL := hide (oneL_op hq ho hb)
        have Hb := hide hb
        clear hq ho hfin hb
        go_enter Tryz.func91, Tryz.ntmps91
        go_wp2_with fail
        refine hs1.out.mono ?_
        rintro e w2 ⟨rfl, hf2⟩
        clear hs1
        go_wp2_with fail
        refine (hs2.out w2 hf2).mono ?_
        rintro e w3 ⟨rfl, hf3⟩
        have hf23 := hf2.trans hf3
        clear hs2 hf2 hf3
        go_wp2_with fail
        refine (hbr.out w3 hf23).mono ?_
        rintro e w4 ⟨hf4, hp4⟩
        rw [Hb.out] at hp4
        obtain ⟨rv, rfl, hrv⟩ := hp4
        obtain ⟨va, vc, rfl⟩ := hrv.form
        have hout := hide (show OnePost w T (x :: r) c (.returned (.tuple #[.bool b, .slice va q.length vc])) w4 from ⟨_, by rw [hL.out], by rw [hL.out]; exact hrv, hf23.trans hf4⟩)
        clear hbr hf23 hf4 hrv hL
        go_wp2_with fail
        go_returns
        exact hout.out
      | none =>
        have hL := hide (oneL_op0 hq ho hb)
        have Hb := hide hb
        clear hq ho hb
        go_enter Tryz.func91, Tryz.ntmps91
        go_wp2_with fail
        refine hs1.out.mono ?_
        rintro e w2 ⟨rfl, hf2⟩
        clear hs1
        go_wp2_with fail
        refine (hs2.out w2 hf2).mono ?_
        rintro e w3 ⟨rfl, hf3⟩
        have hf23 := hf2.trans hf3
        clear hs2 hf2 hf3
        go_wp2_with fail
        refine (hbr.out w3 hf23).mono ?_
        rintro e w4 ⟨hf4, hp4⟩
        rw [Hb.out] at hp4
        simp only at hp4
        subst hp4
        have hf9 : Fr (fun _ => False) w w4.drew := (hf23.trans hf4).drew
        have c4 : w4.drew.cell? ⟨g, o, none⟩ = some (.int .u8 x.b.toNat) := (World.cell?_of_block (w := w) (a := ⟨g, o, none⟩) (hf9.block g hg (fun e => e))).trans Hc0.out
        have hout := hide (hfin.out _ hf9 hL.out)
        clear hbr hf23 hf4 hL hfin hf9
        go_wp2_with fail
        refine region_still (by kernel_rfl) (by kernel_rfl) ?_
        repeat go_big_quiet_step (fail)
        refine wpQuiet_nil ?_
        go_wp2_with fail
        go_returns
        exact hout.out
    · rw [decide_eq_false ho] at hs2
      have hL := hide (oneL_pl (r := r) (c := c) hq ho)
      clear hq ho hbr
      go_enter Tryz.func91, Tryz.ntmps91
      go_wp2_with fail
      refine hs1.out.mono ?_
      rintro e w2 ⟨rfl, hf2⟩
      clear hs1
      go_wp2_with fail
      refine (hs2.out w2 hf2).mono ?_
      rintro e w3 ⟨rfl, hf3⟩
      have hf9 : Fr (fun _ => False) w w3.drew := (hf2.trans hf3).drew
      have c4 : w3.drew.cell? ⟨g, o, none⟩ = some (.int .u8 x.b.toNat) := (World.cell?_of_block (w := w) (a := ⟨g, o, none⟩) (hf9.block g hg (fun e => e))).trans Hc0.out
      have hout := hide (hfin.out _ hf9 hL.out)
      clear hs2 hf2 hf3 hL hfin hf9
      go_wp2_with fail
      refine region_still (by kernel_rfl) (by kernel_rfl) ?_
      repeat go_big_quiet_step (fail)
      refine wpQuiet_nil ?_
      go_wp2_with fail
      go_returns
      exact hout.out
end Go.Proofs.YtlhmmiolnbgloaaGreatDoor

/- Match comes to an end, in so many rounds. No program in sight; no condition. -/
namespace Go.Proofs.YtlhmmiolnbgloaaGreatDoor
open Go.RowKit

/-- In so many rounds. -/
inductive Mtn : Nat → MSt → Bool → Prop
  | fin {t : MSt} {r : Bool} : mstep t = .inl r → Mtn 0 t r
  | go {k : Nat} {t u : MSt} {r : Bool} : mstep t = .inr u → Mtn k u r → Mtn (k + 1) t r
theorem Mtn.mt {k : Nat} {t : MSt} {r : Bool} (h : Mtn k t r) : Mt t r := by
  induction h with
  | fin e => exact .fin e
  | go e _ ih => exact .go e ih
theorem br_len {x : Ch} {q : List Ch} {c : UInt8} {b : Bool} {r : List Ch} (h : bracketL (x :: q) c = some (b, r)) : r.length ≤ q.length := by
  rw [bracketL_eq] at h
  have key : ∀ (q : List Ch) (nb : Bool), brRest q c nb = some (b, r) → r.length ≤ q.length := by
    intro q nb h
    unfold brRest at h
    cases hd : q.drop (offs q (membersL q.length true q).length) with
    | nil => rw [hd] at h; cases h
    | cons d r' =>
      rw [hd] at h
      simp only at h
      split at h
      · cases h
        have := congrArg List.length hd
        rw [List.length_drop, List.length_cons] at this
        omega
      · cases h
  split at h
  · have := key _ _ h
    rw [List.length_drop] at this
    omega
  · exact key _ _ h
theorem one_len (x : Ch) (q : List Ch) (c : UInt8) : (oneL (x :: q) c).2.length ≤ q.length := by
  show (if x = un qmB then (true, q) else if x = un opB then (match bracketL (x :: q) c with | some y => y | none => (x.b == c, q)) else (x.b == c, q)).2.length ≤ q.length
  split
  · exact Nat.le_refl _
  · split
    · cases hb : bracketL (x :: q) c with
      | none => exact Nat.le_refl _
      | some y => exact br_len (b := y.1) (r := y.2) (by rw [hb])
    · exact Nat.le_refl _
theorem mstep_fin {t : MSt} (h1 : t.s = []) (h2 : t.p = []) : mstep t = .inl true := by unfold mstep; rw [if_pos ⟨h1, h2⟩]
theorem mstep_star {t : MSt} {x : Ch} {q : List Ch} (h2 : t.p = x :: q) (h : x = un starB) : mstep t = .inr ⟨q, t.s, q, t.s, true⟩ := by
  unfold mstep
  rw [if_neg (by rw [h2]; simp), h2, starts_one, decide_eq_true h, if_pos rfl]
  rfl
def backM (t : MSt) : Bool ⊕ MSt := if t.star = false ∨ t.fr = [] then .inl false else .inr ⟨t.again, t.fr.drop 1, t.again, t.fr.drop 1, t.star⟩
theorem mstep_take {t : MSt} {x : Ch} {q : List Ch} {c : UInt8} {s : List UInt8} (h2 : t.p = x :: q) (hs : t.s = c :: s) (h : ¬ x = un starB) (ho : (oneL (x :: q) c).1 = true) : mstep t = .inr ⟨(oneL (x :: q) c).2, s, t.again, t.fr, t.star⟩ := by
  unfold mstep
  rw [if_neg (by rw [h2]; simp), h2, starts_one, decide_eq_false h, if_neg (by simp), hs]
  simp only
  rw [if_pos ⟨by simp, ho⟩]
theorem mstep_no {t : MSt} {x : Ch} {q : List Ch} {c : UInt8} {s : List UInt8} (h2 : t.p = x :: q) (hs : t.s = c :: s) (h : ¬ x = un starB) (ho : (oneL (x :: q) c).1 = false) : mstep t = backM t := by
  unfold mstep
  rw [if_neg (by rw [h2]; simp), h2, starts_one, decide_eq_false h, if_neg (by simp), hs]
  simp only
  rw [if_neg (by simp [ho])]
  rfl
theorem mstep_end {t : MSt} {x : Ch} {q : List Ch} (h2 : t.p = x :: q) (hs : t.s = []) (h : ¬ x = un starB) : mstep t = backM t := by
  unfold mstep
  rw [if_neg (by rw [h2]; simp), h2, starts_one, decide_eq_false h, if_neg (by simp), hs]
  rfl
theorem mstep_nil {t : MSt} {c : UInt8} {s : List UInt8} (h2 : t.p = []) (hs : t.s = c :: s) : mstep t = backM t := by
  unfold mstep
  rw [if_neg (by rw [hs]; simp), h2]
  rw [if_neg (by simp [startsL]), hs]
  simp only
  rw [if_neg (by simp)]
  rfl
/-- What a round can be. -/
theorem mstep_cases (t : MSt) : mstep t = .inl true ∨ (∃ x q, t.p = x :: q ∧ mstep t = .inr ⟨q, t.s, q, t.s, true⟩) ∨ (∃ q s, q.length + s.length < t.p.length + t.s.length ∧ q.length ≤ t.p.length ∧ mstep t = .inr ⟨q, s, t.again, t.fr, t.star⟩) ∨ mstep t = backM t := by
  cases hp : t.p with
  | nil =>
    cases hs : t.s with
    | nil => exact .inl (mstep_fin hs hp)
    | cons c s => exact .inr (.inr (.inr (mstep_nil hp hs)))
  | cons x q =>
    by_cases hx : x = un starB
    · exact .inr (.inl ⟨x, q, rfl, mstep_star hp hx⟩)
    · cases hs : t.s with
      | nil => exact .inr (.inr (.inr (mstep_end hp hs hx)))
      | cons c s =>
        cases ho : (oneL (x :: q) c).1 with
        | true =>
          have := one_len x q c
          exact .inr (.inr (.inl ⟨_, s, by simp only [List.length_cons]; omega, by simp only [List.length_cons]; omega, mstep_take hp hs hx ho⟩))
        | false => exact .inr (.inr (.inr (mstep_no hp hs hx ho)))
theorem Mtn.star_ends : ∀ (t : MSt), t.star = true → t.p.length ≤ t.again.length → ∃ k r, Mtn k t r := fun t hs hp => by
  rcases mstep_cases t with h | ⟨x, q, h1, h⟩ | ⟨q, s, h1, h2, h⟩ | h
  · exact ⟨0, true, .fin h⟩
  · have hl : q.length < t.again.length := by rw [h1, List.length_cons] at hp; omega
    obtain ⟨k, r, hk⟩ := Mtn.star_ends ⟨q, t.s, q, t.s, true⟩ rfl (Nat.le_refl _)
    exact ⟨k + 1, r, .go h hk⟩
  · obtain ⟨k, r, hk⟩ := Mtn.star_ends ⟨q, s, t.again, t.fr, t.star⟩ hs (Nat.le_trans h2 hp)
    exact ⟨k + 1, r, .go h hk⟩
  · unfold backM at h
    by_cases e : t.star = false ∨ t.fr = []
    · rw [if_pos e] at h
      exact ⟨0, false, .fin h⟩
    · rw [if_neg e] at h
      have hf : (t.fr.drop 1).length < t.fr.length := by
        have : t.fr ≠ [] := fun e2 => e (.inr e2)
        have := List.length_pos_iff.2 this
        rw [List.length_drop]
        omega
      obtain ⟨k, r, hk⟩ := Mtn.star_ends ⟨t.again, t.fr.drop 1, t.again, t.fr.drop 1, t.star⟩ hs (Nat.le_refl _)
      exact ⟨k + 1, r, .go h hk⟩
termination_by t => (t.again.length, t.fr.length, t.p.length + t.s.length)
decreasing_by
  all_goals simp_wf
  · exact .left _ _ hl
  · exact .right _ (.right _ h1)
  · exact .right _ (.left _ _ (by simpa using hf))
theorem Mtn.ends : ∀ (t : MSt), t.star = false → ∃ k r, Mtn k t r := fun t hs => by
  rcases mstep_cases t with h | ⟨x, q, h1, h⟩ | ⟨q, s, h1, h2, h⟩ | h
  · exact ⟨0, true, .fin h⟩
  · obtain ⟨k, r, hk⟩ := Mtn.star_ends ⟨q, t.s, q, t.s, true⟩ rfl (Nat.le_refl _)
    exact ⟨k + 1, r, .go h hk⟩
  · obtain ⟨k, r, hk⟩ := Mtn.ends ⟨q, s, t.again, t.fr, t.star⟩ hs
    exact ⟨k + 1, r, .go h hk⟩
  · unfold backM at h
    rw [if_pos (.inl hs)] at h
    exact ⟨0, false, .fin h⟩
termination_by t => t.p.length + t.s.length
end Go.Proofs.YtlhmmiolnbgloaaGreatDoor

/- files.FS.start. Conditions: the contract's own premises. -/
namespace Go.Proofs.YtlhmmiolnbgloaaGreatDoor
open Go.RowKit

def StartPost (σ : FSt) (p : Nat → Nat) (dir : Int) (s : List UInt8) (w : World) (e : Ending) (w' : World) : Prop :=
  ∃ (atv pv : Value) (sl : Bool), e = .returned (.tuple #[.agg #[atv, pv, .bool sl], .int .i64 (startE σ dir s).1]) ∧ Fr (fun _ => False) w w' ∧
    ((startE σ dir s).1 = 0 → atv = .pointer (some ⟨p (startE σ dir s).2, 0, none⟩) ∧ sl = slashS s ∧ (σ.nd (startE σ dir s).2).isSome = true ∧ ∃ l, ArgsV w' (fun k => w.heap.size ≤ k) pv l ∧ l.map (·.data.toList) = piecesS s ∧ l.length ≤ 1000 ∧ ∀ x ∈ l, x.size ≤ 1000) ∧
    ((startE σ dir s).1 ≠ 0 → atv = .pointer none ∧ pv = .slice none 0 0 ∧ sl = false)
theorem startPost_err {σ : FSt} {p : Nat → Nat} {dir : Int} {s : List UInt8} {w w' : World} {E : Int} (h : (startE σ dir s).1 = E) (h0 : E ≠ 0) (hf : Fr (fun _ => False) w w') :
    StartPost σ p dir s w (.returned (.tuple #[.agg #[.pointer none, .slice none 0 0, .bool false], .int .i64 E])) w' :=
  ⟨_, _, _, by rw [h], hf, fun e => absurd (h ▸ e) h0, fun _ => ⟨rfl, rfl, rfl⟩⟩
theorem pieces_eq (s : ByteArray) : ((Lib.splitB slashBA 0 (Lib.countB s slashBA) s).filter fun x => !x.data.toList.isEmpty).map (·.data.toList) = piecesS s.data.toList := by
  unfold piecesS
  rw [← splitB_eq, List.filter_map]
  rfl
theorem pieces_small (s : ByteArray) (hs : s.size ≤ 256) : ((Lib.splitB slashBA 0 (Lib.countB s slashBA) s).length ≤ 257) ∧ ∀ x ∈ Lib.splitB slashBA 0 (Lib.countB s slashBA) s, x.size ≤ 256 := by
  have h := splitB_eq s
  constructor
  · have h1 := split_count s.data.toList
    rw [← h, List.length_map, ba_len] at h1
    omega
  · intro x hx
    have h1 := piece_len s.data.toList x.data.toList (by rw [← h]; exact List.mem_map_of_mem hx)
    rw [ba_len, ba_len] at h1
    omega
set_option maxRecDepth 100000 in
set_option maxHeartbeats 4000000 in
theorem start_any (w : World) (f : Nat) (σ : FSt) (S : Nat → Prop) (p : Nat → Nat) (h : FilesAt w f σ S p) (hml : Ml w) (dir : Int) (hd : -9223372036854775808 ≤ dir ∧ dir ≤ 9223372036854775807) (s : ByteArray) (hs : s.size ≤ 9223372036854775807) :
    Calls Tryz.prog 45 #[.pointer (some ⟨f, 0, none⟩), .int .i64 dir, .string s] w (StartPost σ p dir s.data.toList w) := by
  obtain ⟨w1, hw1⟩ : ∃ w1, w1 = w.alloc (.cells #[.pointer none, .slice none 0 0, .bool false] 96 (0, 0)) := ⟨_, rfl⟩
  have hf1 : Fr (fun _ => False) w w1 := by rw [hw1]; exact (Fr.refl _ _).alloc _
  have hA := h.frame hf1 (fun _ _ _ e => e)
  have hget := fget_any w1 f σ S p hA dir hd
  cases hn : σ.ndI dir with
  | none =>
    have hfin : ∀ w', Fr (fun _ => False) w w' → StartPost σ p dir s.data.toList w (.returned (.tuple #[.agg #[.pointer none, .slice none 0 0, .bool false], .int .i64 9])) w' := fun w' h' => startPost_err (by unfold startE; rw [hn]) (by decide) h'
    have hfin := hide hfin
    rw [show ptrI σ p dir = .pointer none by unfold ptrI; rw [hn]] at hget
    clear hn
    subst hw1
    go_enter Tryz.func45, Tryz.ntmps45
    go_wp2_with fail
    refine hget.mono ?_
    rintro e w' ⟨rfl, rfl⟩
    go_wp2_with fail
    go_returns
    exact hfin.out _ ((Fr.refl _ _).alloc _)
  | some n =>
    obtain ⟨i, rfl, hi⟩ : ∃ i : Nat, dir = i ∧ σ.nd i = some n := by
      unfold FSt.ndI at hn
      split at hn
      · exact ⟨dir.toNat, by omega, hn⟩
      · cases hn
    rw [show ptrI σ p (i : Int) = .pointer (some ⟨p i, 0, none⟩) by unfold ptrI; rw [hn]; simp] at hget
    obtain ⟨dvn, evn, pvn, hnd⟩ := hA.node hi
    have hdir := dir_any w1 p (p i) i n dvn evn pvn hnd
    have herr := hide (show ∀ (E : Int) w', (startE σ i s.data.toList).1 = E → E ≠ 0 → Fr (fun _ => False) w w' → StartPost σ p i s.data.toList w (.returned (.tuple #[.agg #[.pointer none, .slice none 0 0, .bool false], .int .i64 E])) w' from fun E w' h1 h2 h3 => startPost_err h1 h2 h3)
    have hst : startE σ i s.data.toList = if n.d = false then (9, 0) else if s.data.toList = [] then (2, 0) else if 256 < s.data.toList.length then (36, 0) else (0, if s.data.toList.head? = some slashB then 1 else i) := by
      unfold startE
      rw [hn]
      simp only [Int.toNat_natCast]
    cases hnd' : n.d with
    | false =>
      have hfin := hide (herr.out 9 _ (by rw [hst, if_pos hnd']) (by decide) hf1)
      rw [hnd'] at hdir
      clear hst hnd' hn hi herr
      subst hw1
      go_enter Tryz.func45, Tryz.ntmps45
      go_wp2_with fail
      refine hget.mono ?_
      rintro e w' ⟨rfl, rfl⟩
      go_wp2_with fail
      refine hdir.mono ?_
      rintro e w' ⟨rfl, rfl⟩
      go_wp2_with fail
      go_returns
      exact hfin.out
    | true =>
      rw [if_neg (by simp [hnd'])] at hst
      rw [hnd'] at hdir
      by_cases h0 : s.data.toList = []
      · have hfin := hide (herr.out 2 _ (by rw [hst, if_pos h0]) (by decide) hf1)
        have h1 := ba_empty h0
        clear hst hn hi herr h0
        subst hw1
        go_enter Tryz.func45, Tryz.ntmps45
        go_wp2_with fail
        refine hget.mono ?_
        rintro e w' ⟨rfl, rfl⟩
        go_wp2_with fail
        refine hdir.mono ?_
        rintro e w' ⟨rfl, rfl⟩
        go_wp2_with fail
        go_returns
        exact hfin.out
      rw [if_neg h0] at hst
      have hne := ba_nonempty h0
      by_cases h256 : (256 : Int) < (s.size : Int)
      · have hfin := hide (herr.out 36 _ (by rw [hst, if_pos (by rw [ba_len]; omega)]) (by decide) hf1)
        clear hst hn hi herr h0
        subst hw1
        go_enter Tryz.func45, Tryz.ntmps45
        go_wp2_with fail
        refine hget.mono ?_
        rintro e w' ⟨rfl, rfl⟩
        go_wp2_with fail
        refine hdir.mono ?_
        rintro e w' ⟨rfl, rfl⟩
        go_wp2_with fail
        go_returns
        exact hfin.out
      rw [if_neg (by rw [ba_len]; omega)] at hst
      have hpos : 0 < s.size := by
        rw [← ba_len]; exact List.length_pos_iff.2 h0
      have hposI : (0 : Int) < (s.size : Int) := by omega
      clear herr
      have hm1 := hml.frame hf1 (fun h => h)
      obtain ⟨dvF, evF, pvF, lvF, hF⟩ := id hA
      have hroot : w1.cell? ⟨f, 2, none⟩ = some (.pointer (some ⟨p 1, 0, none⟩)) := by rw [blk_cell hF.hb]; rfl
      have hlive := h.live
      have hhd : s.data.toList.head? = some s[0] := by
        rw [List.head?_eq_getElem?, List.getElem?_eq_getElem (by rw [ba_len]; exact hpos)]
        rfl
      rw [hhd] at hst
      clear hF
      by_cases hq : s[0] = slashB
      · rw [if_pos (by rw [hq])] at hst
        have hqb : ((s[0].toNat : Int) == 47) = true := by rw [hq]; rfl
        have HL : (σ.nd 1).isSome = true := by obtain ⟨n1, h1, _⟩ := hlive.root; rw [h1]; rfl
        subst hw1
        go_enter Tryz.func45, Tryz.ntmps45
        go_wp2_with fail
        refine hget.mono ?_
        rintro e w' ⟨rfl, rfl⟩
        go_wp2_with fail
        refine hdir.mono ?_
        rintro e w' ⟨rfl, rfl⟩
        clear hget hdir
        go_wp2_with fail
        refine (split_any s _ (by omega) hm1).mono ?_
        rintro e w2 ⟨rfl, hw2⟩
        have hf2 : Fr (fun _ => False) (w.alloc (.cells #[.pointer none, .slice none 0 0, .bool false] 96 (0, 0))) w2 := by rw [hw2]; exact (Fr.refl _ _).alloc _
        have hb2 : w2.heap[w.heap.size + 1]? = some (.cells ((Lib.splitB slashBA 0 (Lib.countB s slashBA) s).map Value.string).toArray 9 (0, 0)) := by rw [hw2]; exact blk_new' _ _ _ (by simp)
        have hb0 : w2.heap[w.heap.size]? = some (.cells #[.pointer none, .slice none 0 0, .bool false] 96 (0, 0)) := hf2.get (blk_new _ _) (fun h => h)
        have hps := pieces_small s (by omega)
        have hpe := pieces_eq s
        have Hw2 := hide hw2
        clear hw2
        generalize Lib.splitB slashBA 0 (Lib.countB s slashBA) s = l0 at *
        have hsz0 : (w.alloc (.cells #[.pointer none, .slice none 0 0, .bool false] 96 (0, 0))).heap.size = w.heap.size + 1 := by simp
        rw [hsz0]
        go_wp2_with fail
        refine (del_any w2 _ l0 hb2 (by omega)).mono ?_
        rintro e w3 ⟨c3, rfl, ha3, hf3⟩
        have hb3 := hf3.get hb0 (by omega)
        have hfin := hide (show ∀ W, Fr (fun k => k = w.heap.size) w3 W → StartPost σ p i s.data.toList w (.returned (.tuple #[.agg #[.pointer (some ⟨p 1, 0, none⟩), .slice (some ⟨w.heap.size + 1, 0, none⟩) (l0.filter fun x => !x.data.toList.isEmpty).length c3, .bool (slashS s.data.toList)], .int .i64 0])) W from fun W hW => by
          have hW9 : Fr (fun _ => False) w W := (((Fr.refl (fun _ => False) w).alloc _).trans hf2).trans' (hf3.mono (S' := fun k => w.heap.size ≤ k) (fun k _ e => by omega)) (fun i hi e => by omega) |>.trans' hW (fun i hi e => by omega)
          refine ⟨_, _, _, by rw [hst], hW9, fun _ => ⟨by rw [hst], rfl, by rw [hst]; exact HL, ⟨_, ?_, hpe, ?_, ?_⟩⟩, fun e => absurd (by rw [hst]) e⟩
          · exact (ha3.frame hW (fun k _ e e2 => by omega)).mono (fun k _ e => by omega)
          · have := List.length_filter_le (fun x : ByteArray => !x.data.toList.isEmpty) l0; omega
          · intro x hx; have := hps.2 x (List.mem_filter.1 hx).1; omega)
        generalize (l0.filter fun x => !x.data.toList.isEmpty) = r0 at *
        clear ha3 hf3 hb2 hb0 hf2 hps hpe hst
        go_wp2_with fail
        refine (suffix_any s _ hs).mono ?_
        rintro e w4 ⟨rfl, rfl⟩
        have z3 := blk_frozen hb3
        have c30 : w4.cell? ⟨w.heap.size, 0, none⟩ = some (.pointer none) := by rw [blk_cell hb3]; rfl
        have c31 : w4.cell? ⟨w.heap.size, 1, none⟩ = some (.slice none 0 0) := by rw [blk_cell hb3]; rfl
        have c32 : w4.cell? ⟨w.heap.size, 2, none⟩ = some (.bool false) := by rw [blk_cell hb3]; rfl
        have hb7 := blk_set hb3 0 (.pointer (some ⟨p 1, 0, none⟩))
        have hb8 := blk_set hb7 1 (.slice (some ⟨w.heap.size + 1, 0, none⟩) r0.length c3)
        have hb9 := blk_set hb8 2 (.bool (slashS s.data.toList))
        have hfin := hide (hfin.out _ (((frSet w4 w.heap.size 0 (.pointer (some ⟨p 1, 0, none⟩))).trans (frSet _ w.heap.size 1 (.slice (some ⟨w.heap.size + 1, 0, none⟩) r0.length c3))).trans (frSet _ w.heap.size 2 (.bool (slashS s.data.toList)))))
        go_wp2_with fail
        have c90 := blk_cell hb7 0
        have c91 := blk_cell hb8 1
        have c92 := blk_cell hb9 2
        simp only [List.setIfInBounds_toArray, List.set_cons_zero, List.set_cons_succ, List.getElem?_toArray, List.getElem?_cons_zero, List.getElem?_cons_succ] at c90 c91 c92
        refine bodyPost_ret (by simp [results, Tryz.results45, go_sem, c90, c91, c92]; try rfl) rfl ?_
        exact hfin.out
      · rw [if_neg (by simpa using hq)] at hst
        have hqb : ((s[0].toNat : Int) == 47) = false := by
          rw [beq_eq_false_iff_ne]
          intro e
          exact hq (UInt8.toNat_inj.1 (by show s[0].toNat = 47; omega))
        have HL : (σ.nd i).isSome = true := by rw [hi]; rfl
        subst hw1
        go_enter Tryz.func45, Tryz.ntmps45
        go_wp2_with fail
        refine hget.mono ?_
        rintro e w' ⟨rfl, rfl⟩
        go_wp2_with fail
        refine hdir.mono ?_
        rintro e w' ⟨rfl, rfl⟩
        clear hget hdir
        go_wp2_with fail
        refine (split_any s _ (by omega) hm1).mono ?_
        rintro e w2 ⟨rfl, hw2⟩
        have hf2 : Fr (fun _ => False) (w.alloc (.cells #[.pointer none, .slice none 0 0, .bool false] 96 (0, 0))) w2 := by rw [hw2]; exact (Fr.refl _ _).alloc _
        have hb2 : w2.heap[w.heap.size + 1]? = some (.cells ((Lib.splitB slashBA 0 (Lib.countB s slashBA) s).map Value.string).toArray 9 (0, 0)) := by rw [hw2]; exact blk_new' _ _ _ (by simp)
        have hb0 : w2.heap[w.heap.size]? = some (.cells #[.pointer none, .slice none 0 0, .bool false] 96 (0, 0)) := hf2.get (blk_new _ _) (fun h => h)
        have hps := pieces_small s (by omega)
        have hpe := pieces_eq s
        have Hw2 := hide hw2
        clear hw2
        generalize Lib.splitB slashBA 0 (Lib.countB s slashBA) s = l0 at *
        have hsz0 : (w.alloc (.cells #[.pointer none, .slice none 0 0, .bool false] 96 (0, 0))).heap.size = w.heap.size + 1 := by simp
        rw [hsz0]
        go_wp2_with fail
        refine (del_any w2 _ l0 hb2 (by omega)).mono ?_
        rintro e w3 ⟨c3, rfl, ha3, hf3⟩
        have hb3 := hf3.get hb0 (by omega)
        have hfin := hide (show ∀ W, Fr (fun k => k = w.heap.size) w3 W → StartPost σ p i s.data.toList w (.returned (.tuple #[.agg #[.pointer (some ⟨p i, 0, none⟩), .slice (some ⟨w.heap.size + 1, 0, none⟩) (l0.filter fun x => !x.data.toList.isEmpty).length c3, .bool (slashS s.data.toList)], .int .i64 0])) W from fun W hW => by
          have hW9 : Fr (fun _ => False) w W := (((Fr.refl (fun _ => False) w).alloc _).trans hf2).trans' (hf3.mono (S' := fun k => w.heap.size ≤ k) (fun k _ e => by omega)) (fun i hi e => by omega) |>.trans' hW (fun i hi e => by omega)
          refine ⟨_, _, _, by rw [hst], hW9, fun _ => ⟨by rw [hst], rfl, by rw [hst]; exact HL, ⟨_, ?_, hpe, ?_, ?_⟩⟩, fun e => absurd (by rw [hst]) e⟩
          · exact (ha3.frame hW (fun k _ e e2 => by omega)).mono (fun k _ e => by omega)
          · have := List.length_filter_le (fun x : ByteArray => !x.data.toList.isEmpty) l0; omega
          · intro x hx; have := hps.2 x (List.mem_filter.1 hx).1; omega)
        generalize (l0.filter fun x => !x.data.toList.isEmpty) = r0 at *
        clear ha3 hf3 hb2 hb0 hf2 hps hpe hst
        go_wp2_with fail
        refine (suffix_any s _ hs).mono ?_
        rintro e w4 ⟨rfl, rfl⟩
        have z3 := blk_frozen hb3
        have c30 : w4.cell? ⟨w.heap.size, 0, none⟩ = some (.pointer none) := by rw [blk_cell hb3]; rfl
        have c31 : w4.cell? ⟨w.heap.size, 1, none⟩ = some (.slice none 0 0) := by rw [blk_cell hb3]; rfl
        have c32 : w4.cell? ⟨w.heap.size, 2, none⟩ = some (.bool false) := by rw [blk_cell hb3]; rfl
        have hb7 := blk_set hb3 0 (.pointer (some ⟨p i, 0, none⟩))
        have hb8 := blk_set hb7 1 (.slice (some ⟨w.heap.size + 1, 0, none⟩) r0.length c3)
        have hb9 := blk_set hb8 2 (.bool (slashS s.data.toList))
        have hfin := hide (hfin.out _ (((frSet w4 w.heap.size 0 (.pointer (some ⟨p i, 0, none⟩))).trans (frSet _ w.heap.size 1 (.slice (some ⟨w.heap.size + 1, 0, none⟩) r0.length c3))).trans (frSet _ w.heap.size 2 (.bool (slashS s.data.toList)))))
        go_wp2_with fail
        have c90 := blk_cell hb7 0
        have c91 := blk_cell hb8 1
        have c92 := blk_cell hb9 2
        simp only [List.setIfInBounds_toArray, List.set_cons_zero, List.set_cons_succ, List.getElem?_toArray, List.getElem?_cons_zero, List.getElem?_cons_succ] at c90 c91 c92
        refine bodyPost_ret (by simp [results, Tryz.results45, go_sem, c90, c91, c92]; try rfl) rfl ?_
        exact hfin.out
end Go.Proofs.YtlhmmiolnbgloaaGreatDoor
