/- A region that draws its order, inside the wide fence: what looks at no world first, what only reads next, then a tail in a forced order that may hand a value to a loop's body. Conditions: closed facts on the region, by the kernel. -/
import Derived.Test.YtlhmmiolnbgloaaGreatDoorStrs
import Derived.Test.YtlhmmiolnbgloaaGreatDoorRangeFunc
import Derived.OwnWalkIn
import Derived.Test.YtlhmmiolnbgloaaGreatDoorRegionQ
namespace Go.Proofs.YtlhmmiolnbgloaaGreatDoor
open Go.RowKit

section
variable {P : Program} {ops : Array Oper} {w : World}

theorem valueOp_plain {o : Oper} (h : valueOp o = true) : ∀ c, o.op ≠ .defer c := by
  intro c hc
  unfold valueOp at h
  rw [hc] at h
  cases h
theorem valueOp_about {o : Oper} (h : valueOp o = true) (w : World) (ρ : Operand → Value) : o.about P w ρ = none := by
  obtain ⟨dst, op, ty, pos, aft, grd⟩ := o
  cases op <;> first | rfl | (simp [valueOp] at h)
theorem opIn_of_stOp {n i : Nat} {o : Oper} (ho : ops[i]? = some o) (hv : valueOp o = true) {K : Act → Prop} {K' : Act → World → Prop} {Q : Exit → Act → World → Prop} {a : Act} (h : ∀ a', K a' → K' a' w) (hh : stOp P ops w i K a) : wpOpIn FW n P ops Q i K' a w := by
  unfold stOp at hh
  unfold wpOpIn
  simp only [ho] at hh ⊢
  split
  · rename_i hw
    rw [if_pos hw] at hh
    refine ⟨fun _ _ => trivial, ?_⟩
    rw [Oper.semAt_plain _ _ _ (valueOp_plain hv)]
    unfold Oper.still at hh
    cases hr : (execOp a.eval o).run P w with
    | ok nx w' =>
      obtain ⟨v, rfl⟩ := valueOp_value hv hr
      rw [hr] at hh
      simp only [Oper.stillUpon] at hh
      obtain ⟨rfl, hk⟩ := hh
      exact h _ hk
    | halt x w' =>
      rw [hr] at hh
      exact hh.elim
  · rename_i hw
    rw [if_neg hw] at hh
    exact ⟨fun _ _ => trivial, h _ hh⟩
theorem anyIn_of_head {n m g : Nat} {L : Array Bool → Act → Prop} {Q : Exit → Act → World → Prop} (hv : ∀ i o, i < m → ops[i]? = some o → valueOp o = true) (hL : ∀ listed a, L listed a → wpAnyIn FW n P .any ops Q g listed a w) :
    ∀ (f : Nat) (listed : Array Bool) (a : Act), wpAnyL P .any ops w m L f listed a → wpAnyIn FW n P .any ops Q (f + g) listed a w
  | 0, listed, a, h => by rw [Nat.zero_add]; exact hL _ _ h
  | f + 1, listed, a, h => by
    rw [show f + 1 + g = (f + g) + 1 by omega]
    refine ⟨fun h0 => absurd h0 h.1, fun i hi => ?_⟩
    obtain ⟨hin, hst⟩ := h.2 i hi
    obtain ⟨_, o, ho, _⟩ := mem_ready.1 hi
    exact opIn_of_stOp ho (hv i o hin ho) (fun a' h' => anyIn_of_head hv hL f _ a' h') hst
theorem anyIn_of_seq {n : Nat} {Q : Exit → Act → World → Prop} : ∀ (l : List Oper) (k : Nat) (listed : Array Bool) (a : Act) (w : World), (∀ j, l[j]? = ops[k + j]?) →
    Region.seqB .any ops l.length k listed = true → wpListIn FW n P ops Q l a w → wpAnyIn FW n P .any ops Q l.length listed a w
  | [], _, _, _, _, _, hB, h => ⟨by simpa [Region.seqB] using hB, h⟩
  | o :: l, k, listed, a, w, hl, hB, h => by
    have h0 : ops[k]? = some o := by simpa using (hl 0).symm
    simp only [List.length_cons, Region.seqB, Bool.and_eq_true, decide_eq_true_eq] at hB
    refine ⟨fun h1 => (by rw [hB.1] at h1; cases h1), fun i hi => ?_⟩
    rw [hB.1] at hi
    have hik : i = k := by simpa using hi
    subst hik
    have hw : wpOpIn FW n P ops Q i (wpListIn FW n P ops Q l) a w := by unfold wpOpIn; simp only [h0]; exact h
    exact wpOpIn_mono (fun a' w' h' => anyIn_of_seq l (i + 1) _ a' w' (fun j => by have := hl (j + 1); simpa [Nat.add_assoc, Nat.add_comm 1 j] using this) hB.2 h') hw
theorem anyIn_blind {n : Nat} {Q : Exit → Act → World → Prop} (hs : Region.noSelect ops = true) (hQ : ∀ c a d v w, Q (.panic c) (Act.put a d v) w → Q (.panic c) a w) {K : Act → Prop} {g : Nat} :
    ∀ (is : List Nat) (listed : Array Bool) (a : Act), lexList ops is listed = true → (∀ a', K a' → wpAnyIn FW n P .any ops Q g (listAll is listed) a' w) →
    wpQuiet P ops (fun _ => True) K (pickOps ops is) a → (∀ i ∈ is, ∀ o, ops[i]? = some o → valueOp o = true) → wpAnyIn FW n P .any ops Q (is.length + g) listed a w
  | [], listed, a, _, hk, h, _ => by simpa [listAll] using hk a h
  | i :: is, listed, a, hl, hk, h, hcall => by
    simp only [lexList, Bool.and_eq_true, decide_eq_true_eq] at hl
    obtain ⟨⟨⟨hlt, hr⟩, hf⟩, hl'⟩ := hl
    obtain ⟨o, ho⟩ : ∃ o, ops[i]? = some o := ⟨_, Array.getElem?_eq_getElem hlt⟩
    have hpk : pickOps ops (i :: is) = o :: pickOps ops is := by simp [pickOps, ho]
    rw [hpk] at h
    unfold wpQuiet at h
    rw [List.length_cons, show is.length + 1 + g = (is.length + g) + 1 by omega]
    have hvo := hcall i (by simp) o ho
    by_cases hw : Region.wanted o (yielded ops a.tmps) = true
    · rw [if_pos hw] at h
      obtain ⟨v, h1, h2⟩ := h
      have hv : ∀ w, (execOp a.eval o).run P w = .ok (.value v) w := fun w0 => by
        have h3 := h1 w0 trivial
        unfold Oper.quietAt at h3
        cases hrun : (execOp a.eval o).run P w0 with
        | ok nx w' =>
          obtain ⟨u, rfl⟩ := valueOp_value hvo hrun
          rw [hrun] at h3
          simp only [Oper.quietUpon] at h3
          rw [h3.1, h3.2]
        | halt x w' => rw [hrun] at h3; simp only [Oper.quietUpon] at h3
      exact wpAnyIn_take rfl ho hs hf (by simpa using hr) (fun c a w => hQ c a _ _ w) ⟨.inl ⟨hw, hv⟩, fun w => valueOp_about hvo w _⟩ (anyIn_blind hs hQ is _ _ hl' hk h2 (fun j hj => hcall j (List.mem_cons_of_mem _ hj)))
    · rw [if_neg hw] at h
      exact wpAnyIn_take rfl ho hs hf (by simpa using hr) (fun c a w => hQ c a _ _ w) ⟨.inr ⟨by simpa using hw, rfl⟩, fun w => valueOp_about hvo w _⟩ (anyIn_blind hs hQ is _ _ hl' hk h (fun j hj => hcall j (List.mem_cons_of_mem _ hj)))
theorem region_mix_in {n id : Nat} {Q : Exit → Act → World → Prop} {a : Act} {l : List Oper} (bl rd : List Nat) (m : Nat) (hm : P.follows .mixedOrders = true) (hB : mixB l.toArray bl rd m = true) (hV : (List.range m).all (fun i => (l.toArray[i]?.map valueOp).getD false) = true)
    (hQ : ∀ c a d v w, Q (.panic c) (Act.put a d v) w → Q (.panic c) a w)
    (h0 : wpQuiet P l.toArray (fun _ => True) (fun a1 => wpQuiet P l.toArray (fun w' => w' = w.drew) (fun a2 => wpListIn FW n P l.toArray Q (l.drop m) a2 w.drew) (rd.map (fun i => l.getD i default)) a1) (bl.map (fun i => l.getD i default)) a) :
    (Code.region id l.toArray true).wpIn FW n P Q a w := by
  simp only [mixB, Bool.and_eq_true, decide_eq_true_eq, List.all_eq_true] at hB
  obtain ⟨⟨⟨⟨⟨⟨⟨⟨hs, hn⟩, hc⟩, hlen⟩, hbl⟩, hl1⟩, hrd⟩, hl2⟩, hq⟩ := hB
  have hn2 : m < l.length := by simpa using hn
  have h := h0
  rw [← pickOps_map l bl (fun i hi => by have := (hbl i hi).1; omega), ← pickOps_map l rd (fun i hi => by have := (hrd i hi).1; omega)] at h
  have inv0 : MixInv l.toArray m (Array.replicate l.toArray.size false) :=
    ⟨by simp, fun j oj _ hl => (by rw [getD_replicate_false] at hl; cases hl), fun t _ ht => getD_in (by simpa using ht) (getD_replicate_false _ _)⟩
  have inv1 := lexList_inv bl _ inv0 hl1 (fun i hi => (hbl i hi).1)
  have hsz : l.toArray.size = bl.length + (rd.length + (l.drop m).length) := by simp at hn ⊢; omega
  have hg : l.toArray.size - m = (l.drop m).length := by simp
  refine wpIn_region_any hm ?_
  have key : wpAnyIn FW n P .any l.toArray Q (bl.length + (rd.length + (l.drop m).length)) (Array.replicate l.toArray.size false) a w.drew := by
    refine anyIn_blind hs hQ bl _ a hl1 ?_ h (fun i hi o ho => by have := (hbl i hi).2; rw [ho] at this; simpa using this)
    intro a1 h1
    refine anyIn_of_head (m := m) (L := fun listed' a' => Region.seqB .any l.toArray (l.drop m).length m listed' = true ∧ wpListIn FW n P l.toArray Q (l.drop m) a' w.drew) ?_ ?_ rd.length _ _ ?_
    · intro i o hi ho
      have h9 := List.all_eq_true.1 hV i (List.mem_range.2 hi)
      rw [ho] at h9
      simpa using h9
    · intro listed a' hL
      exact anyIn_of_seq (l.drop m) m listed a' w.drew (fun j => by simp) hL.1 hL.2
    · exact any_reads hs hc hn rd _ a1 inv1 (fun i hi => by have := hrd i hi; exact ⟨this.1, by simpa using this.2⟩) hl2 (by rw [← hg]; exact hq) (still_of_quiet _ _ h1)
  rw [← hsz] at key
  exact key
end
end Go.Proofs.YtlhmmiolnbgloaaGreatDoor

/- Regions that draw their order and call, inside the wide fence and in a round of a range over a function. Conditions: closed facts on the region, by the kernel. -/
namespace Go.Proofs.YtlhmmiolnbgloaaGreatDoor
open Go.RowKit

section
variable {P : Program} {Q : Exit → Act → World → Prop}
theorem any_calls {a : Act} {w : World} {l : List Oper} (S : World → Prop) (hd mid : List Nat) (n : Nat) (hB : callsB l.toArray hd mid n = true)
    (hQ : ∀ c a d v w, Q (.panic c) (Act.put a d v) w → Q (.panic c) a w) (hS : S w.drew)
    (h0 : wpQuiet P l.toArray S (fun a1 => chainS P l.toArray Q S (fun a2 w2 => wpList P l.toArray Q (l.drop n) a2 w2) (mid.map (fun k => l.getD k default)) a1 w.drew) (hd.map (fun k => l.getD k default)) a) :
    wpAny P .any l.toArray Q l.toArray.size (Array.replicate l.toArray.size false) a w.drew := by
  simp only [callsB, Bool.and_eq_true, decide_eq_true_eq, List.all_eq_true] at hB
  obtain ⟨⟨⟨⟨⟨⟨⟨hs, hn⟩, hc⟩, hlen⟩, hmid⟩, hhd⟩, hlex⟩, hq⟩ := hB
  have hn2 : n < l.length := by simpa using hn
  have h := h0
  rw [← pickOps_map l hd (fun k hk => by have := (hhd k hk).1.1; omega), ← pickOps_map l mid (fun k hk => by have := hmid k hk; omega)] at h
  have inv0 : MixInv l.toArray n (Array.replicate l.toArray.size false) :=
    ⟨by simp, fun j oj _ hl => (by rw [getD_replicate_false] at hl; cases hl), fun t _ ht => getD_in (by simpa using ht) (getD_replicate_false _ _)⟩
  have hg : l.toArray.size - n = (l.drop n).length := by simp
  rw [hg] at hq
  show wpAny P .any l.toArray Q l.toArray.size _ a w.drew
  have hsz : l.toArray.size = (hd.length + mid.length) + (l.drop n).length := by simp at hn ⊢; omega
  have key : wpAny P .any l.toArray Q ((hd.length + mid.length) + (l.drop n).length) (Array.replicate l.toArray.size false) a w.drew := by
    refine any_of_anyT (S := S) (n := n) (L := fun listed' a' w' => Region.seqB .any l.toArray (l.drop n).length n listed' = true ∧ wpList P l.toArray Q (l.drop n) a' w') ?_ (hd.length + mid.length) _ _ _ ?_
    · intro listed a w hL
      exact wpAny_of_seq (l.drop n) n listed a w (fun j => by simp) hL.1 hL.2
    · refine anyT_heads (d := n) hs hQ hc hn hS (fun listed a w hL => seqB_ready hL.1) hd _ a inv0 (fun k hk => by have := hhd k hk; exact ⟨this.1.1, by simpa using this.1.2, this.2⟩) hlex ?_ h
      intro a1 hA
      exact anyT_mid mid _ a1 w.drew (fun k hk => by have := hmid k hk; omega) hq hA
  rw [← hsz] at key
  exact key
theorem any_calls_q {a : Act} {w : World} {l : List Oper} (S : World → Prop) (hd mid : List Nat) (n : Nat) (hB : callsQ l.toArray hd mid n = true)
    (hQ : ∀ c a d v w, Q (.panic c) (Act.put a d v) w → Q (.panic c) a w) (hS : S w.drew)
    (h0 : wpQuiet P l.toArray S (fun a1 => chainS P l.toArray Q S (fun a2 w2 => ∃ C : World → Prop, C w2 ∧ wpQuiet P l.toArray C (fun a' => ∀ w', C w' → Q .normal a' w') (l.drop n) a2) (mid.map (fun k => l.getD k default)) a1 w.drew) (hd.map (fun k => l.getD k default)) a) :
    wpAny P .any l.toArray Q l.toArray.size (Array.replicate l.toArray.size false) a w.drew := by
  simp only [callsQ, Bool.and_eq_true, decide_eq_true_eq, List.all_eq_true] at hB
  obtain ⟨⟨⟨⟨⟨⟨⟨hs, hn⟩, hc⟩, hlen⟩, hmid⟩, hhd⟩, hlex⟩, hq⟩ := hB
  have hn2 : n < l.length := by simpa using hn
  have h := h0
  rw [← pickOps_map l hd (fun k hk => by have := (hhd k hk).1.1; omega), ← pickOps_map l mid (fun k hk => by have := hmid k hk; omega)] at h
  have inv0 : MixInv l.toArray n (Array.replicate l.toArray.size false) :=
    ⟨by simp, fun j oj _ hl => (by rw [getD_replicate_false] at hl; cases hl), fun t _ ht => getD_in (by simpa using ht) (getD_replicate_false _ _)⟩
  have hg : l.toArray.size - n = (l.drop n).length := by simp
  rw [hg] at hq
  show wpAny P .any l.toArray Q l.toArray.size _ a w.drew
  have hsz : l.toArray.size = (hd.length + mid.length) + (l.drop n).length := by simp at hn ⊢; omega
  have key : wpAny P .any l.toArray Q ((hd.length + mid.length) + (l.drop n).length) (Array.replicate l.toArray.size false) a w.drew := by
    refine any_of_anyT (S := S) (n := n) (L := fun listed' a' w' => restQ l.toArray n (l.drop n).length listed' = true ∧ ∃ C : World → Prop, C w' ∧ wpQuiet P l.toArray C (fun a'' => ∀ w'', C w'' → Q .normal a'' w'') (l.drop n) a') ?_ (hd.length + mid.length) _ _ _ ?_
    · rintro listed a w ⟨hL, C, hC, hq⟩
      simp only [restQ, Bool.and_eq_true] at hL
      exact wpAny_of_quiet (Q := fun a' => ∀ w', C w' → Q .normal a' w') (fun _ w' hw' h => h w' hw') _ _ _ _ hC (wpAnyQ_lex (md := .any) hs (l.drop n) n listed a (fun j => by simp) hL.1 hq)
    · refine anyT_headsW (d := n) hs hQ hc hn hS (fun listed a w hL => ?_) hd _ a inv0 (fun k hk => by have := hhd k hk; exact ⟨this.1.1, by simpa using this.1.2, this.2⟩) hlex ?_ h
      · have h1 := hL.1
        simp only [restQ, Bool.and_eq_true, List.all_eq_true, decide_eq_true_eq] at h1
        exact h1.2
      · intro a1 hA
        exact anyT_midq mid _ a1 w.drew (fun k hk => by have := hmid k hk; omega) hq hA
  rw [← hsz] at key
  exact key
theorem wideOp {o : Oper} {a : Act} {w : World} {K : Act → World → Prop} (n : Nat) (hd : ∀ c, o.op ≠ .defer c) (h : o.wp P a w K Q) : o.wpIn FW n P a w K Q := by
  refine ⟨fun _ _ => trivial, ?_⟩
  rw [Oper.semAt_eq _ _ _ hd]
  unfold Oper.wp at h
  generalize (execOp a.eval o).run P w = r at *
  cases r with
  | ok x w' =>
    cases x <;> simp only [Oper.upon] at h <;> simp only [Oper.uponIn] <;>
      first
        | exact h
        | exact h.elim
        | skip
    case enter f args =>
      exact ⟨fun h0 => (by cases h0), callsIn_wide.2 (h.mono fun e w' he => by cases e <;> exact he)⟩
    case row row args =>
      refine ⟨fun h0 => (by cases h0), fun c cs _ => ?_⟩
      obtain ⟨v, w2, hR, hs⟩ := h c cs
      exact ⟨v, w2, hR, stepsIn_wide.2 hs⟩
  | halt x w' => cases x <;> simp only [Oper.upon] at h <;> simp only [Oper.uponIn] <;> exact h
theorem wideWpOp {ops : Array Oper} {i : Nat} {a : Act} {w : World} {K : Act → World → Prop} (n : Nat) (hd : ∀ o ∈ ops, ∀ c, o.op ≠ .defer c) (hlo : ¬ LetsOut Q) (h : wpOp P ops Q i K a w) : wpOpIn FW n P ops Q i K a w := by
  unfold wpOp at h
  unfold wpOpIn
  split
  · rename_i ho; simpa [ho] using h
  · rename_i o ho
    simp only [ho] at h
    split
    · rename_i hw
      rw [if_pos hw] at h
      rcases h with h | h
      · exact wideOp n (hd o (Array.mem_of_getElem? ho)) h
      · exact absurd h.2 hlo
    · rename_i hw
      rw [if_neg hw] at h
      exact ⟨fun _ _ => trivial, h⟩
theorem wideAny {ops : Array Oper} {md : Region.Mode} (n : Nat) (hd : ∀ o ∈ ops, ∀ c, o.op ≠ .defer c) (hlo : ¬ LetsOut Q) :
    ∀ (f : Nat) (listed : Array Bool) (a : Act) (w : World), wpAny P md ops Q f listed a w → wpAnyIn FW n P md ops Q f listed a w
  | 0, _, _, _, h => h
  | f + 1, _, _, _, h => ⟨h.1, fun i hi => wpOpIn_mono (fun a' w' h' => wideAny n hd hlo f _ a' w' h') (wideWpOp n hd hlo (h.2 i hi))⟩
/-- A region that draws its order, inside the wide fence. -/
theorem wide_any {id : Nat} {a : Act} {w : World} {ops : Array Oper} {n : Nat} (hm : P.follows .mixedOrders = true) (hd : noDefer ops = true) (hlo : ¬ LetsOut Q)
    (h : wpAny P .any ops Q ops.size (Array.replicate ops.size false) a w.drew) : (Code.region id ops true).wpIn FW n P Q a w :=
  wpIn_region_any hm (wideAny n (noDefer_spec hd) hlo _ _ _ _ h)
end
end Go.Proofs.YtlhmmiolnbgloaaGreatDoor

/- A range over a function, where the loop's variable is boxed: the assignment makes memory. Conditions: the premises. -/
namespace Go.Proofs.YtlhmmiolnbgloaaGreatDoor
open Go.RowKit

theorem rf_law2 {P : Program} {α σ : Type} {n : Nat} {g : Operand} {ps : Array Tmp} {assign body : Code} {Q : Exit → Act → World → Prop} {a : Act} {w : World}
    (gf : Nat) (lb : Array Value) (hg : a.eval g = .func (.func gf) #[] lb) (eg : ∀ args w, (callFunc gf args).run P w = .ok (.enter gf args) w)
    (encs : α → Array Value) (hps : ∀ x, (encs x).size = ps.size)
    (Step : σ → α → σ → World → Prop) (Fin : σ → Prop) (s0 : σ) (I : σ → World → Prop) (Ix : Code → World → Prop)
    (hI : ∀ s W W', I s W → Fr (fun k => k = w.heap.size ∨ k = w.heap.size + 1) W W' → I s W')
    (hIx : ∀ c W W', Ix c W → Fr (fun k => k = w.heap.size ∨ k = w.heap.size + 1) W W' → Ix c W')
    (hStep : ∀ s x s' W W', Step s x s' W → I s W → Fr (fun k => k = w.heap.size ∨ k = w.heap.size + 1) W W' → Step s x s' W')
    (h0 : I s0 w)
    (hiter : ∀ (l : Nat) (J : σ → World → Prop) (Jx : World → Prop) (W : World), (∀ s W, J s W → I s W) →
      (∀ s W W', J s W → Fr (fun _ => False) W W' → J s W') → (∀ W W', Jx W → Fr (fun _ => False) W W' → Jx W') →
      (∀ s x s' W, Step s x s' W → J s W → YieldAt FW (n - 1 - 1) P l (encs x) W fun e W' => (e = .returned (.bool true) ∧ J s' W') ∨ (e = .returned (.bool false) ∧ Jx W')) →
      J s0 W → CallsIn FW (n - 1) P gf (#[.func (.yield l) #[] #[]] ++ lb) W fun e W' => (∃ v, e = .returned v) ∧ ((∃ s, Fin s ∧ J s W') ∨ Jx W'))
    (Ax : α → Act → World → Prop) (hAx : ∀ x a' W W', Ax x a' W → Fr (fun k => k = w.heap.size ∨ k = w.heap.size + 1) W W' → Ax x a' W')
    (hassign : ∀ (l : Nat) (s : σ) (x : α) (s' : σ) (W : World) (K : Act → World → Prop), Step s x s' W → I s W → w.heap.size + 2 ≤ W.heap.size → (∀ a' W', Fr (fun _ => False) W W' → Ax x a' W' → K a' W') →
      assign.wpIn (FW.inRound l) (n - 1 - 1) P (Exit.then K (fun _ _ _ => False)) { tmps := (ps.zip (encs x)).foldl (fun t (p, v) => t.setIfInBounds p v) a.tmps, defers := [] } W)
    (hbody : ∀ (l : Nat) (s : σ) (x : α) (s' : σ) (a' : Act) (W : World), Step s x s' W → I s W → Ax x a' W → w.heap.size + 2 ≤ W.heap.size → body.wpIn (FW.inRound l) (n - 1 - 1) P (rfPost w.heap.size I Ix s' W) a' W)
    (hdone : ∀ (s : σ) (W : World), Fin s → I s W → W.heap[w.heap.size]? = some (.deferred (some [])) → Q .normal { a with defers := { target := .collected w.heap.size, args := #[] } :: a.defers } W)
    (hstop : ∀ (c : Code) (W : World), Ix c W → W.heap[w.heap.size]? = some (.deferred (some [])) → c.wpIn FW n P Q { a with defers := { target := .collected w.heap.size, args := #[] } :: a.defers } W) :
    (Code.rangeFunc g ps assign body).wpIn FW n P Q a w := by
  refine wpIn_rangeFunc fun fn hfn => ?_
  obtain ⟨rec, hrec⟩ : ∃ rec : LoopState → Option Code → Loop, rec = fun st pd => { state := st, pending := pd, fn := fn, tmps := a.tmps, params := ps, assign := assign, body := body, defers := w.heap.size } := ⟨_, rfl⟩
  obtain ⟨W1, hW1⟩ : ∃ W1, W1 = (w.alloc (.deferred (some []))).alloc (.loop (rec .ready none)) := ⟨_, rfl⟩
  have hf1 : Fr (fun _ => False) w W1 := by rw [hW1]; exact ((Fr.refl _ _).alloc _).alloc _
  have hL1 : W1.heap[w.heap.size + 1]? = some (.loop (rec .ready none)) := by rw [hW1]; exact blk_new' _ _ _ (by simp)
  have hK1 : W1.heap[w.heap.size]? = some (.deferred (some [])) := by rw [hW1]; exact blk_alloc (blk_new _ _) _
  have hI1 : I s0 W1 := hI _ _ _ h0 (hf1.mono fun _ _ h => h.elim)
  have hR : ∀ {A B : World}, Fr (fun _ => False) A B → Fr (fun k => k = w.heap.size ∨ k = w.heap.size + 1) A B := fun h => h.mono fun _ _ h => h.elim
  have hput : ∀ (A : World) (o : Obj), Fr (fun k => k = w.heap.size ∨ k = w.heap.size + 1) A (A.putObj (w.heap.size + 1) o) := fun A o => fr_putObj o (.inr rfl)
  refine ⟨w.heap.size + 1, [{ target := .collected w.heap.size, args := #[] }], W1, { target := .fn (.func gf) lb, args := #[.func (.yield (w.heap.size + 1)) #[] #[]] }, W1, gf,
    #[.func (.yield (w.heap.size + 1)) #[] #[]] ++ lb, W1, ?_, ?_, ?_, ?_, fun h => (by cases h), ?_⟩
  · rw [hW1, hrec]; exact run_enterLoop_outer _ _ _ _ _
  · simp only [resolve, hg]
    simp [go_sem]
  · intro f' hf'; trivial
  · simp [invoke, go_sem, eg]
  · refine (hiter (w.heap.size + 1)
      (fun s W => I s W ∧ W.heap[w.heap.size + 1]? = some (.loop (rec .ready none)) ∧ W.heap[w.heap.size]? = some (.deferred (some [])))
      (fun W => ∃ c, Ix c W ∧ W.heap[w.heap.size + 1]? = some (.loop (rec .done (some c))) ∧ W.heap[w.heap.size]? = some (.deferred (some [])))
      W1 (fun _ _ h => h.1)
      (fun s A B hs hg' => ⟨hI s A B hs.1 (hR hg'), hg'.get hs.2.1 (fun h => h), hg'.get hs.2.2 (fun h => h)⟩)
      (fun A B hs hg' => by
        obtain ⟨c, hc, hl, hk⟩ := hs
        exact ⟨c, hIx c A B hc (hR hg'), hg'.get hl (fun h => h), hg'.get hk (fun h => h)⟩)
      ?_ ⟨hI1, hL1, hK1⟩).mono ?_
    · rintro s x s' W0 hst0 ⟨hi0, hl0, hk0⟩
      have hlt0 : w.heap.size + 1 < W0.heap.size := blk_lt hl0
      have hy := run_yield (P := P) (args := encs x) hl0 (by rw [hrec]; exact hps x)
      rw [hrec] at hy
      refine ⟨fn, _, assign, body, hy, roundIn_of_wpIn hfn (hassign _ s x s' W0 _ hst0 hi0 (by omega) fun a' W hfW hax => ?_)⟩
      have hi := hI _ _ _ hi0 (hR hfW)
      have hst := hStep _ _ _ _ _ hst0 hi0 (hR hfW)
      have hl := hfW.get hl0 (fun h => h)
      have hk := hfW.get hk0 (fun h => h)
      have hlt : w.heap.size + 1 < W.heap.size := blk_lt hl
      refine ⟨_, run_beginRound hl (by rw [hrec]), ?_⟩
      have hl2 : (W.putObj (w.heap.size + 1) (.loop { rec .ready none with state := .busy })).heap[w.heap.size + 1]? = some (.loop { rec .ready none with state := .busy }) := World.putObj_heap_same hlt
      have hk2 : (W.putObj (w.heap.size + 1) (.loop { rec .ready none with state := .busy })).heap[w.heap.size]? = some (.deferred (some [])) := (World.putObj_heap_other (by omega)).trans hk
      refine wpIn_mono (hbody _ s x s' a' _ (hStep _ _ _ _ _ hst hi (hput _ _)) (hI _ _ _ hi (hput _ _)) (hAx _ _ _ _ hax (hput _ _)) (by simp; omega)) ?_
      have fin : ∀ (jump : Option Code) (W3 : World), (W3.heap[w.heap.size]? = (W.putObj (w.heap.size + 1) (.loop { rec .ready none with state := .busy })).heap[w.heap.size]? ∧ W3.heap[w.heap.size + 1]? = (W.putObj (w.heap.size + 1) (.loop { rec .ready none with state := .busy })).heap[w.heap.size + 1]?) →
          (Instr.endRound (w.heap.size + 1) jump).run P W3 = .ok (.bool jump.isNone) (W3.putObj (w.heap.size + 1) (.loop (rec (if jump.isNone then .ready else .done) jump))) ∧
          (W3.putObj (w.heap.size + 1) (.loop (rec (if jump.isNone then .ready else .done) jump))).heap[w.heap.size + 1]? = some (.loop (rec (if jump.isNone then .ready else .done) jump)) ∧
          (W3.putObj (w.heap.size + 1) (.loop (rec (if jump.isNone then .ready else .done) jump))).heap[w.heap.size]? = some (.deferred (some [])) := fun jump W3 hk3 => by
        have hl3 : W3.heap[w.heap.size + 1]? = some (.loop { rec .ready none with state := .busy }) := hk3.2.trans hl2
        have := run_endRound (P := P) jump hl3
        rw [hrec] at this ⊢
        exact ⟨this, World.putObj_heap_same (blk_lt hl3), (World.putObj_heap_other (by omega)).trans (hk3.1.trans hk2)⟩
      rintro e a3 W3 hp
      cases e with
      | normal =>
        obtain ⟨hk3, hi3⟩ := hp
        obtain ⟨hr, hl4, hk4⟩ := fin none W3 hk3
        exact ⟨_, _, hr, .inl ⟨rfl, hI _ _ _ hi3 (hput _ _), hl4, hk4⟩⟩
      | ret =>
        obtain ⟨hk3, hi3⟩ := hp
        obtain ⟨hr, hl4, hk4⟩ := fin (some .ret) W3 hk3
        exact ⟨_, _, hr, .inr ⟨rfl, .ret, hIx _ _ _ hi3 (hput _ _), hl4, hk4⟩⟩
      | exit id =>
        obtain ⟨hk3, hi3⟩ := hp
        obtain ⟨hr, hl4, hk4⟩ := fin (some (.exit id)) W3 hk3
        exact ⟨_, _, hr, .inr ⟨rfl, .exit id, hIx _ _ _ hi3 (hput _ _), hl4, hk4⟩⟩
      | goto t =>
        obtain ⟨hk3, hi3⟩ := hp
        obtain ⟨hr, hl4, hk4⟩ := fin (some (.goto t)) W3 hk3
        exact ⟨_, _, hr, .inr ⟨rfl, .goto t, hIx _ _ _ hi3 (hput _ _), hl4, hk4⟩⟩
      | panic chain => exact hp.elim
      | outgrown => exact hp.elim
    · rintro e W' ⟨⟨v, rfl⟩, hend⟩
      rcases hend with ⟨s, hfin, hi, hl, hk⟩ | ⟨c, hc, hl, hk⟩
      · have he := run_endLoop (P := P) hl (by rw [hrec]; simp)
        rw [show (rec .ready none).pending = none by rw [hrec]] at he
        refine ⟨none, _, he, ?_⟩
        exact hdone s _ hfin (hI _ _ _ hi (hput _ _)) ((World.putObj_heap_other (by omega)).trans hk)
      · have he := run_endLoop (P := P) hl (by rw [hrec]; simp)
        rw [show (rec .done (some c)).pending = some c by rw [hrec]] at he
        refine ⟨some c, _, he, ?_⟩
        exact hstop c _ (hIx _ _ _ hc (hput _ _)) ((World.putObj_heap_other (by omega)).trans hk)
end Go.Proofs.YtlhmmiolnbgloaaGreatDoor
