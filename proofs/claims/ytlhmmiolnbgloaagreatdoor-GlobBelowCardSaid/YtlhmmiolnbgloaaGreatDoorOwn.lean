/- Regions that draw their order and hold two calls that may come in either order: what only reads is taken first, in every world of a class S. Conditions: closed facts on the region, by the kernel. -/
import Derived.Test.YtlhmmiolnbgloaaGreatDoorRegion
import Derived.OrdersHeld
import Derived.Test.YtlhmmiolnbgloaaGreatDoorSizedLift
import Derived.OwnWalk
import Derived.Deep.AppendLies
namespace Go.Proofs.YtlhmmiolnbgloaaGreatDoor
open Go.RowKit

section
variable {P : Program} {ops : Array Oper} {Q : Exit → Act → World → Prop} {S : World → Prop}

/-- So many operations, in whatever order, S behind each; then L. -/
def anyT (P : Program) (ops : Array Oper) (Q : Exit → Act → World → Prop) (S : World → Prop) (n : Nat) (L : Array Bool → Act → World → Prop) : Nat → Array Bool → Act → World → Prop
  | 0, listed, a, w => L listed a w
  | f + 1, listed, a, w => Region.ready .any ops listed ≠ [] ∧ ∀ i ∈ Region.ready .any ops listed, i < n ∧ wpOp P ops Q i (fun a' w' => S w' ∧ anyT P ops Q S n L f (listed.setIfInBounds i true) a' w') a w

theorem any_of_anyT {n g : Nat} {L : Array Bool → Act → World → Prop} (hL : ∀ listed a w, L listed a w → wpAny P .any ops Q g listed a w) :
    ∀ (f : Nat) (listed : Array Bool) (a : Act) (w : World), anyT P ops Q S n L f listed a w → wpAny P .any ops Q (f + g) listed a w
  | 0, listed, a, w, h => by rw [Nat.zero_add]; exact hL _ _ _ h
  | f + 1, listed, a, w, h => by
    rw [show f + 1 + g = (f + g) + 1 by omega]
    exact ⟨fun h0 => absurd h0 h.1, fun i hi => wpOp_mono (fun a' w' h' => any_of_anyT hL f _ a' w' h'.2) (h.2 i hi).2⟩

theorem anyT_first {n i : Nat} {oi : Oper} {v : Value} {L : Array Bool → Act → World → Prop} {Inv : Array Bool → Prop} (hi : ops[i]? = some oi) (hs : Region.noSelect ops = true)
    (hQ : ∀ c a w, Q (.panic c) (Act.put a oi.dst v) w → Q (.panic c) a w)
    (hin : i < n) (hdone : ∀ listed a w, L listed a w → ∀ j ∈ Region.ready .any ops listed, n ≤ j)
    (hInv : ∀ listed j, Inv listed → j ∈ Region.ready .any ops listed → j < n → Inv (listed.setIfInBounds j true))
    (hnt : ∀ listed, Inv listed → listed.getD i true = false → ∀ t, n ≤ t → t ∉ Region.ready .any ops listed) :
    ∀ (f : Nat) (listed : Array Bool) (a : Act) (w : World), Inv listed →
      (∀ j oj, ops[j]? = some oj → j ≠ i → listed.getD j true = false → (∀ e ∈ oj.after, Region.binds .any e = true → e.on ≠ i) → oi.apart ops oj = true) →
      i ∈ Region.ready .any ops listed → YieldsIf P ops S oi v a → S w →
      anyT P ops Q S n L f (listed.setIfInBounds i true) (a.put oi.dst v) w → anyT P ops Q S n L (f + 1) listed a w := by
  intro f
  induction f with
  | zero =>
    intro listed a w inv _ hr hy hS H
    have hun := (mem_ready.1 hr).1
    refine ⟨List.ne_nil_of_mem hr, fun j hj => ?_⟩
    have hjn : j < n := Nat.lt_of_not_le fun h => hnt listed inv hun j h hj
    by_cases hji : j = i
    · subst hji; exact ⟨hjn, hy.wpOp hi hS ⟨hS, H⟩⟩
    · exact absurd (hdone _ _ _ H j (ready_mono hj hji)) (by omega)
  | succ f ih =>
    intro listed a w inv hfree hr hy hS H
    have hun := (mem_ready.1 hr).1
    refine ⟨List.ne_nil_of_mem hr, fun j hj => ?_⟩
    have hjn : j < n := Nat.lt_of_not_le fun h => hnt listed inv hun j h hj
    refine ⟨hjn, ?_⟩
    by_cases hji : j = i
    · subst hji; exact hy.wpOp hi hS ⟨hS, H⟩
    obtain ⟨hjun, oj, hoj, hall⟩ := mem_ready.1 hj
    have hno : ∀ e ∈ oj.after, Region.binds .any e = true → e.on ≠ i := fun e he hb heq => by
      have h1 := hall e he hb
      rw [heq, getD_both hun] at h1
      cases h1
    have h2 := wpOp_putIf hoj (hfree j oj hoj hji hjun hno) (fun cs b => Region.noSelect_spec hs i oi cs b hi) (fun cs b => Region.noSelect_spec hs j oj cs b hoj) hQ hy (H.2 j (ready_mono hj hji)).2
    refine wpOp_mono (fun a' w' h3 => ⟨h3.2.1, ih (listed.setIfInBounds j true) a' w' (hInv _ _ inv hj hjn) ?_ (ready_mono hr (Ne.symm hji)) h3.1 h3.2.1 ?_⟩) h2
    · intro k ok hk hki hun' hno'
      refine hfree k ok hk hki ?_ hno'
      by_cases hjk : j = k
      · subst hjk; exact hjun
      · rw [getD_set_ne true hjk] at hun'; exact hun'
    · rw [Array.setIfInBounds_comm _ _ hji]
      exact h3.2.2

theorem yieldsIf_of_quiet {o : Oper} {a : Act} {K : Act → Prop} (hb : valueOp o = true) (hw : Region.wanted o (yielded ops a.tmps) = true) (hex : ∃ w, S w) (h : o.quiet P a S K) : ∃ v, YieldsIf P ops S o v a ∧ K (a.put o.dst v) := by
  obtain ⟨v, h1, h2⟩ := h
  refine ⟨v, .inl ⟨hw, fun w0 hS => ?_⟩, h2⟩
  have h3 := h1 w0 hS
  unfold Oper.quietAt at h3
  cases hrun : (execOp a.eval o).run P w0 with
  | ok nx w' =>
    obtain ⟨u, rfl⟩ := valueOp_value hb hrun
    rw [hrun] at h3
    simp only [Oper.quietUpon] at h3
    rw [h3.1, h3.2]
  | halt x w' => rw [hrun] at h3; simp only [Oper.quietUpon] at h3

theorem anyT_heads {n d f : Nat} {L : Array Bool → Act → World → Prop} {w : World} (hs : Region.noSelect ops = true) (hQ : ∀ c a d v w, Q (.panic c) (Act.put a d v) w → Q (.panic c) a w) (hc : Region.chainB .any ops n = true) (hn : n < ops.size) (hS : S w)
    (hdone : ∀ listed a w, L listed a w → ∀ j ∈ Region.ready .any ops listed, n ≤ j) {K : Act → Prop} :
    ∀ (is : List Nat) (listed : Array Bool) (a : Act), MixInv ops n listed → (∀ i ∈ is, i < n ∧ i ∈ mustOf ops n d ∧ (ops[i]?.map valueOp).getD false = true) → lexList ops is listed = true →
    (∀ a', K a' → anyT P ops Q S n L f (listAll is listed) a' w) → wpQuiet P ops S K (pickOps ops is) a → anyT P ops Q S n L (is.length + f) listed a w
  | [], listed, a, _, _, _, hk, h => by simpa [listAll] using hk a h
  | i :: is, listed, a, inv, hm, hl, hk, h => by
    simp only [lexList, Bool.and_eq_true, decide_eq_true_eq] at hl
    obtain ⟨⟨⟨hlt, hr⟩, hf⟩, hl'⟩ := hl
    obtain ⟨o, ho⟩ : ∃ o, ops[i]? = some o := ⟨_, Array.getElem?_eq_getElem hlt⟩
    have hr' : i ∈ Region.ready .any ops listed := by simpa using hr
    obtain ⟨hin, hmust, hval⟩ := hm i (by simp)
    rw [ho] at hval
    have hpk : pickOps ops (i :: is) = o :: pickOps ops is := by simp [pickOps, ho]
    rw [hpk] at h
    unfold wpQuiet at h
    rw [List.length_cons, show is.length + 1 + f = (is.length + f) + 1 by omega]
    have key : ∃ v, YieldsIf P ops S o v a ∧ wpQuiet P ops S K (pickOps ops is) (a.put o.dst v) := by
      by_cases hw : Region.wanted o (yielded ops a.tmps) = true
      · rw [if_pos hw] at h
        exact yieldsIf_of_quiet (by simpa using hval) hw ⟨w, hS⟩ h
      · rw [if_neg hw] at h
        exact ⟨undef, .inr ⟨by simpa using hw, rfl⟩, h⟩
    obtain ⟨v, hy, hK⟩ := key
    refine anyT_first (Inv := MixInv ops n) ho hs (fun c a w => hQ c a _ _ w) hin hdone (fun _ _ h1 h2 h3 => h1.set h2 h3)
      (fun _ h1 h2 => h1.waits hc hn _ i rfl hmust hin h2) (is.length + f) listed a w inv (Region.free_spec ho hf) hr' hy hS ?_
    exact anyT_heads hs hQ hc hn hS hdone is _ _ (inv.set hr' hin) (fun j hj => hm j (List.mem_cons_of_mem _ hj)) hl' hk hK

/-- The closed facts: hd: what only reads; i, j: the two calls; from n on: the tail. -/
def twoB (ops : Array Oper) (hd : List Nat) (i j n : Nat) : Bool :=
  let l0 := Array.replicate ops.size false
  let l1 := listAll hd l0
  Region.noSelect ops && decide (n < ops.size) && Region.chainB .any ops n && decide (hd.length + 2 = n) && decide (i < n) && decide (j < n) && decide (i ≠ j) &&
  hd.all (fun k => decide (k < n) && (mustOf ops n n).contains k && (ops[k]?.map valueOp).getD false) && lexList ops hd l0 &&
  (Region.ready .any ops l1 == [i, j]) && (Region.ready .any ops (l1.setIfInBounds i true) == [j]) && (Region.ready .any ops (l1.setIfInBounds j true) == [i]) &&
  Region.seqB .any ops (ops.size - n) n ((l1.setIfInBounds i true).setIfInBounds j true)

/-- One operation, wanted. -/
def wpOne (P : Program) (ops : Array Oper) (Q : Exit → Act → World → Prop) (o : Oper) (K : Act → World → Prop) (a : Act) (w : World) : Prop :=
  if Region.wanted o (yielded ops a.tmps) then o.wp P a w K Q else K (a.put o.dst undef) w

theorem wpOp_of_one {i : Nat} {o : Oper} {K : Act → World → Prop} {a : Act} {w : World} (ho : ops[i]? = some o) (h : wpOne P ops Q o K a w) : wpOp P ops Q i K a w := by
  unfold wpOp
  simp only [ho]
  unfold wpOne at h
  split
  · rename_i hw; rw [if_pos hw] at h; exact .inl h
  · rename_i hw; rw [if_neg hw] at h; exact h

/-- A load of one cell in every world of the class. -/
theorem quiet_of_run {o : Oper} {a : Act} {K : Act → Prop} (v : Value) (h : ∀ w, S w → (execOp a.eval o).run P w = .ok (.value v) w) (hK : K (a.put o.dst v)) : o.quiet P a S K :=
  ⟨v, fun w hw => by unfold Oper.quietAt; rw [h w hw]; exact ⟨rfl, rfl⟩, hK⟩
theorem wpQuiet_val {o : Oper} {rest : List Oper} {a : Act} {K : Act → Prop} (v : Value) (hw : Region.wanted o (yielded ops a.tmps) = true) (h : ∀ w, S w → (execOp a.eval o).run P w = .ok (.value v) w) (hK : wpQuiet P ops S K rest (a.put o.dst v)) : wpQuiet P ops S K (o :: rest) a := by
  unfold wpQuiet
  rw [if_pos hw]
  exact quiet_of_run v h hK
theorem cond_mono {o : Oper} {a : Act} {w : World} {K K' : Act → World → Prop} {c : Bool} (h : ∀ a w, K a w → K' a w) (hh : if c = true then o.wp P a w K Q else K (a.put o.dst undef) w) : if c = true then o.wp P a w K' Q else K' (a.put o.dst undef) w := by
  cases c
  · exact h _ _ hh
  · exact Oper.wp_mono h hh

theorem region_two {id : Nat} {a : Act} {w : World} {l : List Oper} (S : World → Prop) (hd : List Nat) (i j n : Nat) (hm : P.follows .mixedOrders = true) (hB : twoB l.toArray hd i j n = true)
    (hQ : ∀ c a d v w, Q (.panic c) (Act.put a d v) w → Q (.panic c) a w) (hS : S w.drew)
    (h0 : wpQuiet P l.toArray S (fun a1 =>
      wpOne P l.toArray Q (l.getD i default) (fun a2 w2 => S w2 ∧ wpOne P l.toArray Q (l.getD j default) (fun a3 w3 => S w3 ∧ wpList P l.toArray Q (l.drop n) a3 w3) a2 w2) a1 w.drew ∧
      wpOne P l.toArray Q (l.getD j default) (fun a2 w2 => S w2 ∧ wpOne P l.toArray Q (l.getD i default) (fun a3 w3 => S w3 ∧ wpList P l.toArray Q (l.drop n) a3 w3) a2 w2) a1 w.drew) (hd.map (fun k => l.getD k default)) a) :
    (Code.region id l.toArray true).wp P Q a w := by
  simp only [twoB, Bool.and_eq_true, decide_eq_true_eq, beq_iff_eq, List.all_eq_true] at hB
  obtain ⟨⟨⟨⟨⟨⟨⟨⟨⟨⟨⟨⟨hs, hn⟩, hc⟩, hlen⟩, hin⟩, hjn⟩, hij⟩, hhd⟩, hlex⟩, hr0⟩, hri⟩, hrj⟩, hq⟩ := hB
  have hn2 : n < l.length := by simpa using hn
  have h := h0
  rw [← pickOps_map l hd (fun k hk => by have := (hhd k hk).1.1; omega)] at h
  have inv0 : MixInv l.toArray n (Array.replicate l.toArray.size false) :=
    ⟨by simp, fun j oj _ hl => (by rw [getD_replicate_false] at hl; cases hl), fun t _ ht => getD_in (by simpa using ht) (getD_replicate_false _ _)⟩
  have hgi : l.toArray[i]? = some (l.getD i default) := by simp [List.getD_eq_getElem?_getD, show i < l.length by omega]
  have hgj : l.toArray[j]? = some (l.getD j default) := by simp [List.getD_eq_getElem?_getD, show j < l.length by omega]
  have hg : l.toArray.size - n = (l.drop n).length := by simp
  rw [hg] at hq
  refine wp_region_any hm ?_
  show wpAny P .any l.toArray Q l.toArray.size _ a w.drew
  have hsz : l.toArray.size = (hd.length + 2) + (l.drop n).length := by simp at hn ⊢; omega
  have key : wpAny P .any l.toArray Q ((hd.length + 2) + (l.drop n).length) (Array.replicate l.toArray.size false) a w.drew := by
    refine any_of_anyT (S := S) (n := n) (L := fun listed' a' w' => Region.seqB .any l.toArray (l.drop n).length n listed' = true ∧ wpList P l.toArray Q (l.drop n) a' w') ?_ (hd.length + 2) _ _ _ ?_
    · intro listed a w hL
      exact wpAny_of_seq (l.drop n) n listed a w (fun j => by simp) hL.1 hL.2
    · refine anyT_heads (d := n) hs hQ hc hn hS (fun listed a w hL => seqB_ready hL.1) hd _ a inv0 (fun k hk => by have := hhd k hk; exact ⟨this.1.1, by simpa using this.1.2, this.2⟩) hlex ?_ h
      intro a1 ⟨hA, hB⟩
      refine ⟨by rw [hr0]; simp, fun k hk => ?_⟩
      rw [hr0] at hk
      simp only [List.mem_cons, List.not_mem_nil, or_false] at hk
      rcases hk with rfl | rfl
      · refine ⟨hin, wpOp_of_one hgi ?_⟩
        unfold wpOne at hA ⊢
        refine cond_mono ?_ hA
        intro a2 w2 ⟨hS2, h2⟩
        refine ⟨hS2, by rw [hri]; simp, fun k2 hk2 => ?_⟩
        rw [hri] at hk2
        simp only [List.mem_cons, List.not_mem_nil, or_false] at hk2
        subst hk2
        refine ⟨hjn, wpOp_of_one hgj ?_⟩
        unfold wpOne
        exact cond_mono (fun a3 w3 ⟨hS3, h3⟩ => ⟨hS3, hq, h3⟩) h2
      · refine ⟨hjn, wpOp_of_one hgj ?_⟩
        unfold wpOne at hB ⊢
        refine cond_mono ?_ hB
        intro a2 w2 ⟨hS2, h2⟩
        refine ⟨hS2, by rw [hrj]; simp, fun k2 hk2 => ?_⟩
        rw [hrj] at hk2
        simp only [List.mem_cons, List.not_mem_nil, or_false] at hk2
        subst hk2
        refine ⟨hin, wpOp_of_one hgi ?_⟩
        unfold wpOne
        exact cond_mono (fun a3 w3 ⟨hS3, h3⟩ => ⟨hS3, by rw [Array.setIfInBounds_comm _ _ (Ne.symm hij)]; exact hq, h3⟩) h2
  rw [← hsz] at key
  exact key

/-- Calls in a forced order, S behind each; then the tail. -/
def chainS (P : Program) (ops : Array Oper) (Q : Exit → Act → World → Prop) (S : World → Prop) (L : Act → World → Prop) : List Oper → Act → World → Prop
  | [], a, w => L a w
  | o :: rest, a, w => wpOne P ops Q o (fun a' w' => S w' ∧ chainS P ops Q S L rest a' w') a w

theorem chainS_step {L : Act → World → Prop} {o : Oper} {rest : List Oper} {a : Act} {w : World} (hg : o.guard = none)
    (h : ∀ K : Act → World → Prop, (∀ a' w', S w' → chainS P ops Q S L rest a' w' → K a' w') → o.wp P a w K Q) : chainS P ops Q S L (o :: rest) a w := by
  unfold chainS wpOne
  rw [if_pos (by simp [Region.wanted, hg])]
  exact h _ (fun _ _ h1 h2 => ⟨h1, h2⟩)
theorem chainS_nil {L : Act → World → Prop} {a : Act} {w : World} (h : L a w) : chainS P ops Q S L [] a w := h

def midB (ops : Array Oper) (n g : Nat) : List Nat → Array Bool → Bool
  | [], listed => Region.seqB .any ops g n listed
  | i :: is, listed => decide (i < n) && (Region.ready .any ops listed == [i]) && midB ops n g is (listed.setIfInBounds i true)

theorem anyT_mid {n g : Nat} {L : Act → World → Prop} : ∀ (is : List Nat) (listed : Array Bool) (a : Act) (w : World), (∀ i ∈ is, i < ops.size) → midB ops n g is listed = true → chainS P ops Q S L (pickOps ops is) a w →
    anyT P ops Q S n (fun listed' a' w' => Region.seqB .any ops g n listed' = true ∧ L a' w') is.length listed a w
  | [], listed, a, w, _, hB, h => ⟨hB, h⟩
  | i :: is, listed, a, w, hlt, hB, h => by
    simp only [midB, Bool.and_eq_true, decide_eq_true_eq, beq_iff_eq] at hB
    obtain ⟨⟨hin, hr⟩, hB'⟩ := hB
    obtain ⟨o, ho⟩ : ∃ o, ops[i]? = some o := ⟨_, Array.getElem?_eq_getElem (hlt i (by simp))⟩
    have hpk : pickOps ops (i :: is) = o :: pickOps ops is := by simp [pickOps, ho]
    rw [hpk] at h
    refine ⟨by rw [hr]; simp, fun k hk => ?_⟩
    rw [hr] at hk
    simp only [List.mem_cons, List.not_mem_nil, or_false] at hk
    subst hk
    refine ⟨hin, wpOp_of_one ho ?_⟩
    unfold chainS wpOne at h
    unfold wpOne
    exact cond_mono (fun a' w' ⟨hS, h'⟩ => ⟨hS, anyT_mid is _ a' w' (fun j hj => hlt j (List.mem_cons_of_mem _ hj)) hB' h'⟩) h

def callsB (ops : Array Oper) (hd mid : List Nat) (n : Nat) : Bool :=
  let l0 := Array.replicate ops.size false
  Region.noSelect ops && decide (n < ops.size) && Region.chainB .any ops n && decide (hd.length + mid.length = n) && mid.all (fun k => decide (k < n)) &&
  hd.all (fun k => decide (k < n) && (mustOf ops n n).contains k && (ops[k]?.map valueOp).getD false) && lexList ops hd l0 && midB ops n (ops.size - n) mid (listAll hd l0)

theorem region_calls {id : Nat} {a : Act} {w : World} {l : List Oper} (S : World → Prop) (hd mid : List Nat) (n : Nat) (hm : P.follows .mixedOrders = true) (hB : callsB l.toArray hd mid n = true)
    (hQ : ∀ c a d v w, Q (.panic c) (Act.put a d v) w → Q (.panic c) a w) (hS : S w.drew)
    (h0 : wpQuiet P l.toArray S (fun a1 => chainS P l.toArray Q S (fun a2 w2 => wpList P l.toArray Q (l.drop n) a2 w2) (mid.map (fun k => l.getD k default)) a1 w.drew) (hd.map (fun k => l.getD k default)) a) :
    (Code.region id l.toArray true).wp P Q a w := by
  simp only [callsB, Bool.and_eq_true, decide_eq_true_eq, List.all_eq_true] at hB
  obtain ⟨⟨⟨⟨⟨⟨⟨hs, hn⟩, hc⟩, hlen⟩, hmid⟩, hhd⟩, hlex⟩, hq⟩ := hB
  have hn2 : n < l.length := by simpa using hn
  have h := h0
  rw [← pickOps_map l hd (fun k hk => by have := (hhd k hk).1.1; omega), ← pickOps_map l mid (fun k hk => by have := hmid k hk; omega)] at h
  have inv0 : MixInv l.toArray n (Array.replicate l.toArray.size false) :=
    ⟨by simp, fun j oj _ hl => (by rw [getD_replicate_false] at hl; cases hl), fun t _ ht => getD_in (by simpa using ht) (getD_replicate_false _ _)⟩
  have hg : l.toArray.size - n = (l.drop n).length := by simp
  rw [hg] at hq
  refine wp_region_any hm ?_
  show wpAny P .any l.toArray Q l.toArray.size _ a w.drew
  have hsz : l.toArray.size = (hd.length + mid.length) + (l.drop n).length := by simp at hn ⊢; omega
  have key : wpAny P .any l.toArray Q ((hd.length + mid.length) + (l.drop n).length) (Array.replicate l.toArray.size false) a w.drew := by
    refine any_of_anyT (S := S) (n := n) (L := fun listed' a' w' => Region.seqB .any l.toArray (l.drop n).length n listed' = true ∧ wpList P l.toArray Q (l.drop n) a' w') ?_ (hd.length + mid.length) _ _ _ ?_
    · intro listed a w hL
      exact wpAny_of_seq (l.drop n) n listed a w (fun j => by simp) hL.1 hL.2
    · refine anyT_heads (d := n) hs hQ hc hn hS (fun listed a w hL => seqB_ready hL.1) hd _ a inv0 (fun k hk => by have := hhd k hk; exact ⟨this.1.1, by simpa using this.1.2, this.2⟩) hlex ?_ h
      intro a1 hA
      exact anyT_mid mid _ a1 w.drew (fun k hk => by have := hmid k hk; omega) hq hA
  rw [← hsz] at key
  exact key
end
end Go.Proofs.YtlhmmiolnbgloaaGreatDoor

/- Small lemmas on rows of the call's own: they stand where their block isn't touched; their cells. No condition. -/
namespace Go.Proofs.YtlhmmiolnbgloaaGreatDoor
open Go.RowKit

theorem own_frame {w w' : World} {base e size : Nat} {v : Value} {n : Nat} {xs : List Value} {S : Nat → Prop} (h : w.ownsRow base e size v n xs) (hf : Fr S w w') (hn : ∀ g, v.ownBlock = some g → ¬ S g) : w'.ownsRow base e size v n xs := by
  refine ⟨h.1, ?_⟩
  rcases h.2 with h1 | ⟨g, cap, cur, rfl, hb, hg, rest⟩
  · exact .inl h1
  · exact .inr ⟨g, cap, cur, rfl, hb, hf.get hg (hn g rfl), rest⟩
theorem own_base {w : World} {base base' e size : Nat} {v : Value} {n : Nat} {xs : List Value} (h : w.ownsRow base e size v n xs) (hb : ∀ g, v.ownBlock = some g → base' ≤ g) : w.ownsRow base' e size v n xs := by
  refine ⟨h.1, ?_⟩
  rcases h.2 with h1 | ⟨g, cap, cur, rfl, _, rest⟩
  · exact .inl h1
  · exact .inr ⟨g, cap, cur, rfl, hb g rfl, rest⟩
theorem own_form {w : World} {base e size : Nat} {v : Value} {n : Nat} {xs : List Value} (h : w.ownsRow base e size v n xs) : ∃ a cap, v = .slice a n cap := by
  rcases h.2 with ⟨h1, h2⟩ | ⟨g, cap, cur, h1, _⟩
  · exact ⟨none, 0, by rw [h1, h2]⟩
  · exact ⟨_, _, h1⟩
/-- Its cells, one cell an element. -/
theorem own_cells {w : World} {base e : Nat} {a : Option Addr} {n cap : Nat} {xs : List Value} (h : w.ownsRow base e 1 (.slice a n cap) n xs) (hn : 0 < n) : ∃ g, a = some ⟨g, 0, none⟩ ∧ base ≤ g ∧ g < w.heap.size ∧ ∀ k u, xs[k]? = some u → w.cell? ⟨g, k, none⟩ = some u := by
  rcases h.2 with ⟨h1, h2⟩ | ⟨g, cap', cur, h1, hb, hg, h2, h3, h4, h5⟩
  · omega
  · cases h1
    refine ⟨g, rfl, hb, blk_lt hg, fun k u hk => ?_⟩
    rw [blk_cell hg, ← hk, ← h5, Nat.mul_one]
    have hl := h.1
    have hk' : k < xs.length := (List.getElem?_eq_some_iff.1 hk).1
    rw [List.getElem?_take_of_lt (by omega), Array.getElem?_toList]
theorem frSet (w : World) (r i : Nat) (u : Value) : Fr (fun k => k = r) w (w.setCell ⟨r, i, none⟩ u) := (Fr.refl (fun k => k = r) w).setCell (p := ⟨r, i, none⟩) (.inl rfl) u
end Go.Proofs.YtlhmmiolnbgloaaGreatDoor
