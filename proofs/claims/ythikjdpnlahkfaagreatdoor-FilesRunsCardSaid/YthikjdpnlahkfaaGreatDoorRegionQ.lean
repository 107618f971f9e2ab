/- Regions that draw their order: what only reads first, then calls in a forced order, then a rest that is quiet in a class of worlds (one walk of the text's order). Conditions: closed facts on the region, by the kernel; the laws' premises. -/
import Derived.Test.YthikjdpnlahkfaaGreatDoorRegionTree
import Derived.Deep.Quiet
namespace Go.Proofs.YthikjdpnlahkfaaGreatDoor
open Go.RowKit

section
variable {P : Program} {ops : Array Oper} {Q : Exit → Act → World → Prop} {S : World → Prop}
def midQ (ops : Array Oper) (n : Nat) (R : Array Bool → Bool) : List Nat → Array Bool → Bool
  | [], listed => R listed
  | i :: is, listed => decide (i < n) && (Region.ready .any ops listed == [i]) && midQ ops n R is (listed.setIfInBounds i true)
def restQ (ops : Array Oper) (n g : Nat) (listed : Array Bool) : Bool := Region.lexFrom .any ops g n listed && (Region.ready .any ops listed).all (fun j => decide (n ≤ j))
theorem anyT_midq {n : Nat} {R : Array Bool → Bool} {L : Act → World → Prop} : ∀ (is : List Nat) (listed : Array Bool) (a : Act) (w : World), (∀ i ∈ is, i < ops.size) → midQ ops n R is listed = true → chainS P ops Q S L (pickOps ops is) a w →
    anyT P ops Q S n (fun listed' a' w' => R listed' = true ∧ L a' w') is.length listed a w
  | [], listed, a, w, _, hB, h => ⟨hB, h⟩
  | i :: is, listed, a, w, hlt, hB, h => by
    simp only [midQ, Bool.and_eq_true, decide_eq_true_eq, beq_iff_eq] at hB
    obtain ⟨⟨hin, hr⟩, hB'⟩ := hB
    obtain ⟨o, ho⟩ : ∃ o, ops[i]? = some o := ⟨_, Array.getElem?_eq_getElem (hlt i (by simp))⟩
    have hpk : pickOps ops (i :: is) = o :: pickOps ops is := by simp [pickOps, ho]
    rw [hpk] at h
    refine ⟨by rw [hr]; simp, fun k hk => ?_⟩
    rw [hr] at hk
    simp only [List.mem_cons, List.not_mem_nil, or_false] at hk
    subst hk
    refine ⟨hin, wpOp_of_one ho ?_⟩
    unfold chainS wpOne at h
    unfold wpOne
    exact cond_mono (fun a' w' ⟨hS, h'⟩ => ⟨hS, anyT_midq is _ a' w' (fun j hj => hlt j (List.mem_cons_of_mem _ hj)) hB' h'⟩) h
/-- Whatever stands behind n waits for something from n on. -/
def chainW (ops : Array Oper) (n : Nat) : Bool := (List.range ops.size).all fun t => decide (t ≤ n) || (List.range t).any (fun j => decide (n ≤ j) && Region.waitsFor .any ops t j)
theorem MixInv.waitsW {n d : Nat} {listed : Array Bool} (inv : MixInv ops n listed) (hc : chainW ops n = true) (hn : n < ops.size) :
    ∀ (m i : Nat), n - i = m → i ∈ mustOf ops n d → i < n → listed.getD i true = false → ∀ t, n ≤ t → t ∉ Region.ready .any ops listed := by
  intro m
  induction m using Nat.strongRecOn with
  | _ m ih =>
    intro i hm hi hin hun t ht hr
    obtain ⟨_, ot, hot, hall⟩ := mem_ready.1 hr
    have htlt : t < ops.size := (Array.getElem?_eq_some_iff.1 hot).1
    by_cases htn : t = n
    · subst htn
      obtain ⟨j, hj, hij, hw⟩ := (mustOf_spec t d i hi).2 (by omega)
      have hjt := (mustOf_spec t d j hj).1
      obtain ⟨oj, hoj, e, he, hb, hon⟩ := Region.waitsFor_spec hw
      by_cases hjt' : j = t
      · subst hjt'
        obtain rfl : oj = ot := Option.some.inj (hoj.symm.trans hot)
        have h2 := hall e he hb
        rw [hon, getD_both hun] at h2
        cases h2
      · cases hl : listed.getD j false with
        | true =>
          have h2 := inv.closed j oj hoj hl e he hb
          rw [hon, getD_both hun] at h2
          cases h2
        | false =>
          have hjs : j < listed.size := by rw [inv.size]; omega
          exact ih (t - j) (by omega) j rfl hj (by omega) (getD_in hjs hl) t (Nat.le_refl _) hr
    · have h1 := List.all_eq_true.1 hc t (List.mem_range.2 htlt)
      simp only [Bool.or_eq_true, decide_eq_true_eq, List.any_eq_true, List.mem_range, Bool.and_eq_true] at h1
      rcases h1 with h1 | ⟨j, hjt, hnj, h1⟩
      · omega
      · obtain ⟨o', ho', e, he, hb, hon⟩ := Region.waitsFor_spec h1
        obtain rfl : o' = ot := Option.some.inj (ho'.symm.trans hot)
        have h2 := hall e he hb
        rw [hon, getD_both (inv.tail j hnj (by omega))] at h2
        cases h2
theorem anyT_headsW {n d f : Nat} {L : Array Bool → Act → World → Prop} {w : World} (hs : Region.noSelect ops = true) (hQ : ∀ c a d v w, Q (.panic c) (Act.put a d v) w → Q (.panic c) a w) (hc : chainW ops n = true) (hn : n < ops.size) (hS : S w)
    (hdone : ∀ listed a w, L listed a w → ∀ j ∈ Region.ready .any ops listed, n ≤ j) {K : Act → Prop} :
    ∀ (is : List Nat) (listed : Array Bool) (a : Act), MixInv ops n listed → (∀ i ∈ is, i < n ∧ i ∈ mustOf ops n d ∧ (ops[i]?.map valueOp).getD false = true) → lexList ops is listed = true →
    (∀ a', K a' → anyT P ops Q S n L f (listAll is listed) a' w) → wpQuiet P ops S K (pickOps ops is) a → anyT P ops Q S n L (is.length + f) listed a w
  | [], listed, a, _, _, _, hk, h => by simpa [listAll] using hk a h
  | i :: is, listed, a, inv, hm, hl, hk, h => by
    simp only [lexList, Bool.and_eq_true, decide_eq_true_eq] at hl
    obtain ⟨⟨⟨hlt, hr⟩, hf⟩, hl'⟩ := hl
    obtain ⟨o, ho⟩ : ∃ o, ops[i]? = some o := ⟨_, Array.getElem?_eq_getElem hlt⟩
    have hr' : i ∈ Region.ready .any ops listed := by simpa using hr
    obtain ⟨hin, hmust, hval⟩ := hm i (by simp)
    rw [ho] at hval
    have hpk : pickOps ops (i :: is) = o :: pickOps ops is := by simp [pickOps, ho]
    rw [hpk] at h
    unfold wpQuiet at h
    rw [List.length_cons, show is.length + 1 + f = (is.length + f) + 1 by omega]
    have key : ∃ v, YieldsIf P ops S o v a ∧ wpQuiet P ops S K (pickOps ops is) (a.put o.dst v) := by
      by_cases hw : Region.wanted o (yielded ops a.tmps) = true
      · rw [if_pos hw] at h
        exact yieldsIf_of_quiet (by simpa using hval) hw ⟨w, hS⟩ h
      · rw [if_neg hw] at h
        exact ⟨undef, .inr ⟨by simpa using hw, rfl⟩, h⟩
    obtain ⟨v, hy, hK⟩ := key
    refine anyT_first (Inv := MixInv ops n) ho hs (fun c a w => hQ c a _ _ w) hin hdone (fun _ _ h1 h2 h3 => h1.set h2 h3)
      (fun _ h1 h2 => h1.waitsW hc hn _ i rfl hmust hin h2) (is.length + f) listed a w inv (Region.free_spec ho hf) hr' hy hS ?_
    exact anyT_headsW hs hQ hc hn hS hdone is _ _ (inv.set hr' hin) (fun j hj => hm j (List.mem_cons_of_mem _ hj)) hl' hk hK
def callsQ (ops : Array Oper) (hd mid : List Nat) (n : Nat) : Bool :=
  let l0 := Array.replicate ops.size false
  Region.noSelect ops && decide (n < ops.size) && chainW ops n && decide (hd.length + mid.length = n) && mid.all (fun k => decide (k < n)) &&
  hd.all (fun k => decide (k < n) && (mustOf ops n n).contains k && (ops[k]?.map valueOp).getD false) && lexList ops hd l0 && midQ ops n (restQ ops n (ops.size - n)) mid (listAll hd l0)
theorem region_calls_q {id : Nat} {a : Act} {w : World} {l : List Oper} (S : World → Prop) (hd mid : List Nat) (n : Nat) (hm : P.follows .mixedOrders = true) (hB : callsQ l.toArray hd mid n = true)
    (hQ : ∀ c a d v w, Q (.panic c) (Act.put a d v) w → Q (.panic c) a w) (hS : S w.drew)
    (h0 : wpQuiet P l.toArray S (fun a1 => chainS P l.toArray Q S (fun a2 w2 => ∃ C : World → Prop, C w2 ∧ wpQuiet P l.toArray C (fun a' => ∀ w', C w' → Q .normal a' w') (l.drop n) a2) (mid.map (fun k => l.getD k default)) a1 w.drew) (hd.map (fun k => l.getD k default)) a) :
    (Code.region id l.toArray true).wp P Q a w := by
  simp only [callsQ, Bool.and_eq_true, decide_eq_true_eq, List.all_eq_true] at hB
  obtain ⟨⟨⟨⟨⟨⟨⟨hs, hn⟩, hc⟩, hlen⟩, hmid⟩, hhd⟩, hlex⟩, hq⟩ := hB
  have hn2 : n < l.length := by simpa using hn
  have h := h0
  rw [← pickOps_map l hd (fun k hk => by have := (hhd k hk).1.1; omega), ← pickOps_map l mid (fun k hk => by have := hmid k hk; omega)] at h
  have inv0 : MixInv l.toArray n (Array.replicate l.toArray.size false) :=
    ⟨by simp, fun j oj _ hl => (by rw [getD_replicate_false] at hl; cases hl), fun t _ ht => getD_in (by simpa using ht) (getD_replicate_false _ _)⟩
  have hg : l.toArray.size - n = (l.drop n).length := by simp
  rw [hg] at hq
  refine wp_region_any hm ?_
  show wpAny P .any l.toArray Q l.toArray.size _ a w.drew
  have hsz : l.toArray.size = (hd.length + mid.length) + (l.drop n).length := by simp at hn ⊢; omega
  have key : wpAny P .any l.toArray Q ((hd.length + mid.length) + (l.drop n).length) (Array.replicate l.toArray.size false) a w.drew := by
    refine any_of_anyT (S := S) (n := n) (L := fun listed' a' w' => restQ l.toArray n (l.drop n).length listed' = true ∧ ∃ C : World → Prop, C w' ∧ wpQuiet P l.toArray C (fun a'' => ∀ w'', C w'' → Q .normal a'' w'') (l.drop n) a') ?_ (hd.length + mid.length) _ _ _ ?_
    · rintro listed a w ⟨hL, C, hC, hq⟩
      simp only [restQ, Bool.and_eq_true] at hL
      exact wpAny_of_quiet (Q := fun a' => ∀ w', C w' → Q .normal a' w') (fun _ w' hw' h => h w' hw') _ _ _ _ hC (wpAnyQ_lex (md := .any) hs (l.drop n) n listed a (fun j => by simp) hL.1 hq)
    · refine anyT_headsW (d := n) hs hQ hc hn hS (fun listed a w hL => ?_) hd _ a inv0 (fun k hk => by have := hhd k hk; exact ⟨this.1.1, by simpa using this.1.2, this.2⟩) hlex ?_ h
      · have h1 := hL.1
        simp only [restQ, Bool.and_eq_true, List.all_eq_true, decide_eq_true_eq] at h1
        exact h1.2
      · intro a1 hA
        exact anyT_midq mid _ a1 w.drew (fun k hk => by have := hmid k hk; omega) hq hA
  rw [← hsz] at key
  exact key
end
end Go.Proofs.YthikjdpnlahkfaaGreatDoor
