/- A region that draws its order, inside the wide fence: what looks at no world first, what only reads next, then a tail in a forced order that may hand a value to a loop's body. Conditions: closed facts on the region, by the kernel. -/
import Derived.Test.YthikjdpnlahkfaaGreatDoorRegionTree
import Derived.Test.YthikjdpnlahkfaaGreatDoorRangeFuncC
import Derived.OwnWalkIn
namespace Go.Proofs.YthikjdpnlahkfaaGreatDoor
open Go.RowKit

section
variable {P : Program} {ops : Array Oper} {w : World}

theorem valueOp_plain {o : Oper} (h : valueOp o = true) : ∀ c, o.op ≠ .defer c := by
  intro c hc
  unfold valueOp at h
  rw [hc] at h
  cases h
theorem valueOp_about {o : Oper} (h : valueOp o = true) (w : World) (ρ : Operand → Value) : o.about P w ρ = none := by
  obtain ⟨dst, op, ty, pos, aft, grd⟩ := o
  cases op <;> first | rfl | (simp [valueOp] at h)
theorem opIn_of_stOp {n i : Nat} {o : Oper} (ho : ops[i]? = some o) (hv : valueOp o = true) {K : Act → Prop} {K' : Act → World → Prop} {Q : Exit → Act → World → Prop} {a : Act} (h : ∀ a', K a' → K' a' w) (hh : stOp P ops w i K a) : wpOpIn FW n P ops Q i K' a w := by
  unfold stOp at hh
  unfold wpOpIn
  simp only [ho] at hh ⊢
  split
  · rename_i hw
    rw [if_pos hw] at hh
    refine ⟨fun _ _ => trivial, ?_⟩
    rw [Oper.semAt_plain _ _ _ (valueOp_plain hv)]
    unfold Oper.still at hh
    cases hr : (execOp a.eval o).run P w with
    | ok nx w' =>
      obtain ⟨v, rfl⟩ := valueOp_value hv hr
      rw [hr] at hh
      simp only [Oper.stillUpon] at hh
      obtain ⟨rfl, hk⟩ := hh
      exact h _ hk
    | halt x w' =>
      rw [hr] at hh
      exact hh.elim
  · rename_i hw
    rw [if_neg hw] at hh
    exact ⟨fun _ _ => trivial, h _ hh⟩
theorem anyIn_of_head {n m g : Nat} {L : Array Bool → Act → Prop} {Q : Exit → Act → World → Prop} (hv : ∀ i o, i < m → ops[i]? = some o → valueOp o = true) (hL : ∀ listed a, L listed a → wpAnyIn FW n P .any ops Q g listed a w) :
    ∀ (f : Nat) (listed : Array Bool) (a : Act), wpAnyL P .any ops w m L f listed a → wpAnyIn FW n P .any ops Q (f + g) listed a w
  | 0, listed, a, h => by rw [Nat.zero_add]; exact hL _ _ h
  | f + 1, listed, a, h => by
    rw [show f + 1 + g = (f + g) + 1 by omega]
    refine ⟨fun h0 => absurd h0 h.1, fun i hi => ?_⟩
    obtain ⟨hin, hst⟩ := h.2 i hi
    obtain ⟨_, o, ho, _⟩ := mem_ready.1 hi
    exact opIn_of_stOp ho (hv i o hin ho) (fun a' h' => anyIn_of_head hv hL f _ a' h') hst
theorem anyIn_of_seq {n : Nat} {Q : Exit → Act → World → Prop} : ∀ (l : List Oper) (k : Nat) (listed : Array Bool) (a : Act) (w : World), (∀ j, l[j]? = ops[k + j]?) →
    Region.seqB .any ops l.length k listed = true → wpListIn FW n P ops Q l a w → wpAnyIn FW n P .any ops Q l.length listed a w
  | [], _, _, _, _, _, hB, h => ⟨by simpa [Region.seqB] using hB, h⟩
  | o :: l, k, listed, a, w, hl, hB, h => by
    have h0 : ops[k]? = some o := by simpa using (hl 0).symm
    simp only [List.length_cons, Region.seqB, Bool.and_eq_true, decide_eq_true_eq] at hB
    refine ⟨fun h1 => (by rw [hB.1] at h1; cases h1), fun i hi => ?_⟩
    rw [hB.1] at hi
    have hik : i = k := by simpa using hi
    subst hik
    have hw : wpOpIn FW n P ops Q i (wpListIn FW n P ops Q l) a w := by unfold wpOpIn; simp only [h0]; exact h
    exact wpOpIn_mono (fun a' w' h' => anyIn_of_seq l (i + 1) _ a' w' (fun j => by have := hl (j + 1); simpa [Nat.add_assoc, Nat.add_comm 1 j] using this) hB.2 h') hw
theorem anyIn_blind {n : Nat} {Q : Exit → Act → World → Prop} (hs : Region.noSelect ops = true) (hQ : ∀ c a d v w, Q (.panic c) (Act.put a d v) w → Q (.panic c) a w) {K : Act → Prop} {g : Nat} :
    ∀ (is : List Nat) (listed : Array Bool) (a : Act), lexList ops is listed = true → (∀ a', K a' → wpAnyIn FW n P .any ops Q g (listAll is listed) a' w) →
    wpQuiet P ops (fun _ => True) K (pickOps ops is) a → (∀ i ∈ is, ∀ o, ops[i]? = some o → valueOp o = true) → wpAnyIn FW n P .any ops Q (is.length + g) listed a w
  | [], listed, a, _, hk, h, _ => by simpa [listAll] using hk a h
  | i :: is, listed, a, hl, hk, h, hcall => by
    simp only [lexList, Bool.and_eq_true, decide_eq_true_eq] at hl
    obtain ⟨⟨⟨hlt, hr⟩, hf⟩, hl'⟩ := hl
    obtain ⟨o, ho⟩ : ∃ o, ops[i]? = some o := ⟨_, Array.getElem?_eq_getElem hlt⟩
    have hpk : pickOps ops (i :: is) = o :: pickOps ops is := by simp [pickOps, ho]
    rw [hpk] at h
    unfold wpQuiet at h
    rw [List.length_cons, show is.length + 1 + g = (is.length + g) + 1 by omega]
    have hvo := hcall i (by simp) o ho
    by_cases hw : Region.wanted o (yielded ops a.tmps) = true
    · rw [if_pos hw] at h
      obtain ⟨v, h1, h2⟩ := h
      have hv : ∀ w, (execOp a.eval o).run P w = .ok (.value v) w := fun w0 => by
        have h3 := h1 w0 trivial
        unfold Oper.quietAt at h3
        cases hrun : (execOp a.eval o).run P w0 with
        | ok nx w' =>
          obtain ⟨u, rfl⟩ := valueOp_value hvo hrun
          rw [hrun] at h3
          simp only [Oper.quietUpon] at h3
          rw [h3.1, h3.2]
        | halt x w' => rw [hrun] at h3; simp only [Oper.quietUpon] at h3
      exact wpAnyIn_take rfl ho hs hf (by simpa using hr) (fun c a w => hQ c a _ _ w) ⟨.inl ⟨hw, hv⟩, fun w => valueOp_about hvo w _⟩ (anyIn_blind hs hQ is _ _ hl' hk h2 (fun j hj => hcall j (List.mem_cons_of_mem _ hj)))
    · rw [if_neg hw] at h
      exact wpAnyIn_take rfl ho hs hf (by simpa using hr) (fun c a w => hQ c a _ _ w) ⟨.inr ⟨by simpa using hw, rfl⟩, fun w => valueOp_about hvo w _⟩ (anyIn_blind hs hQ is _ _ hl' hk h (fun j hj => hcall j (List.mem_cons_of_mem _ hj)))
theorem region_mix_in {n id : Nat} {Q : Exit → Act → World → Prop} {a : Act} {l : List Oper} (bl rd : List Nat) (m : Nat) (hm : P.follows .mixedOrders = true) (hB : mixB l.toArray bl rd m = true) (hV : (List.range m).all (fun i => (l.toArray[i]?.map valueOp).getD false) = true)
    (hQ : ∀ c a d v w, Q (.panic c) (Act.put a d v) w → Q (.panic c) a w)
    (h0 : wpQuiet P l.toArray (fun _ => True) (fun a1 => wpQuiet P l.toArray (fun w' => w' = w.drew) (fun a2 => wpListIn FW n P l.toArray Q (l.drop m) a2 w.drew) (rd.map (fun i => l.getD i default)) a1) (bl.map (fun i => l.getD i default)) a) :
    (Code.region id l.toArray true).wpIn FW n P Q a w := by
  simp only [mixB, Bool.and_eq_true, decide_eq_true_eq, List.all_eq_true] at hB
  obtain ⟨⟨⟨⟨⟨⟨⟨⟨hs, hn⟩, hc⟩, hlen⟩, hbl⟩, hl1⟩, hrd⟩, hl2⟩, hq⟩ := hB
  have hn2 : m < l.length := by simpa using hn
  have h := h0
  rw [← pickOps_map l bl (fun i hi => by have := (hbl i hi).1; omega), ← pickOps_map l rd (fun i hi => by have := (hrd i hi).1; omega)] at h
  have inv0 : MixInv l.toArray m (Array.replicate l.toArray.size false) :=
    ⟨by simp, fun j oj _ hl => (by rw [getD_replicate_false] at hl; cases hl), fun t _ ht => getD_in (by simpa using ht) (getD_replicate_false _ _)⟩
  have inv1 := lexList_inv bl _ inv0 hl1 (fun i hi => (hbl i hi).1)
  have hsz : l.toArray.size = bl.length + (rd.length + (l.drop m).length) := by simp at hn ⊢; omega
  have hg : l.toArray.size - m = (l.drop m).length := by simp
  refine wpIn_region_any hm ?_
  have key : wpAnyIn FW n P .any l.toArray Q (bl.length + (rd.length + (l.drop m).length)) (Array.replicate l.toArray.size false) a w.drew := by
    refine anyIn_blind hs hQ bl _ a hl1 ?_ h (fun i hi o ho => by have := (hbl i hi).2; rw [ho] at this; simpa using this)
    intro a1 h1
    refine anyIn_of_head (m := m) (L := fun listed' a' => Region.seqB .any l.toArray (l.drop m).length m listed' = true ∧ wpListIn FW n P l.toArray Q (l.drop m) a' w.drew) ?_ ?_ rd.length _ _ ?_
    · intro i o hi ho
      have h9 := List.all_eq_true.1 hV i (List.mem_range.2 hi)
      rw [ho] at h9
      simpa using h9
    · intro listed a' hL
      exact anyIn_of_seq (l.drop m) m listed a' w.drew (fun j => by simp) hL.1 hL.2
    · exact any_reads hs hc hn rd _ a1 inv1 (fun i hi => by have := hrd i hi; exact ⟨this.1, by simpa using this.2⟩) hl2 (by rw [← hg]; exact hq) (still_of_quiet _ _ h1)
  rw [← hsz] at key
  exact key
end
end Go.Proofs.YthikjdpnlahkfaaGreatDoor
