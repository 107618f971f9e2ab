/- A call under way: its cells, the description of a descriptor, what may be read and written. Conditions: each contract's own premises. -/
import Derived.Test.YtffekmjoenppaaaGreatDoorKerOk
namespace Go.Proofs.YtffekmjoenppaaaGreatDoor
open Go.RowKit

attribute [local go_sem] Oper.semAt_some

/-- What is asked. -/
structure SysQ where
  no : Int
  a : Int
  b : Int
  s : ByteArray
  t : ByteArray
  p : Value
/-- What is answered, as it stands in memory. -/
structure ResV where
  n : Int
  m : Int
  s : ByteArray
  list : Value
  st : StQ
  err : Int
def noResV : ResV := ⟨0, 0, noBy, .slice none 0 0, noSt, 0⟩
def askC (k q : Nat) (c : SysQ) (r : ResV) : Array Value := #[ptrAt k, ptrAt q, .int .i64 c.no, .int .i64 c.a, .int .i64 c.b, .string c.s, .string c.t, c.p, .int .i64 r.n, .int .i64 r.m, .string r.s, r.list, .int .i64 r.st.ino, .int .i64 r.st.kind, .int .i64 r.st.mode, .int .i64 r.st.links, .int .i64 r.st.size, .int .i64 r.err]
def AskAt (w : World) (a k q : Nat) (c : SysQ) (r : ResV) : Prop := w.heap[a]? = some (.cells (askC k q c r) 76 (0, 0))
def descV (L : KLay) (o : Option Nat) : Value := match o with | none => .pointer none | some j => ptrAt (L.db j)
def fdE (o : Option Nat) : Int := match o with | none => 9 | some _ => 0
theorem getV_tabS (L : KLay) (K : KQ) (i : Nat) (fd : Int) : getV ((tabS L (K.proc i).fds).at fd) = .tuple #[descV L (fdQ K i fd), .int .i64 (fdE (fdQ K i fd))] := by
  unfold fdQ TSt.at tabS
  by_cases e : inB fd = true
  · rw [if_pos e, if_pos e]
    cases (K.proc i).fds fd.toNat <;> rfl
  · rw [if_neg e, if_neg e]; rfl
theorem fdQ_ok {K : KQ} (h : FdsOk K) {i : Nat} (h1 : 1 ≤ i) (h2 : i ≤ K.qn) {fd : Int} {j : Nat} (e : fdQ K i fd = some j) : 1 ≤ j ∧ j ≤ K.dn := by
  unfold fdQ TSt.at at e
  split at e
  · obtain ⟨⟨a, x⟩, e1, e2⟩ := Option.map_eq_some_iff.1 e
    cases e2
    exact h i _ _ _ h1 h2 e1
  · cases e
set_option maxRecDepth 100000 in
set_option maxHeartbeats 1000000 in
theorem adesc_any (w : World) (k : Nat) (K : KQ) (L : KLay) (h : KF w k K L) (i : Nat) (h1 : 1 ≤ i) (h2 : i ≤ K.qn) (a : Nat) (c : SysQ) (r : ResV) (ha : AskAt w a k (L.qb i) c r) (fd : Int) :
    Calls Tryz.prog 43 #[ptrAt a, .int .i64 fd] w fun e w' => e = .returned (descV L (fdQ K i fd)) ∧ w' = w.setCell ⟨a, 17, none⟩ (.int .i64 (fdE (fdQ K i fd))) := by
  have c1 : w.cell? ⟨a, 1, none⟩ = some (.pointer (some ⟨L.qb i, 0, none⟩)) := by rw [blk_cell ha]; rfl
  have c6 : w.cell? ⟨L.qb i, 6, none⟩ = some (.pointer (some ⟨L.tb i, 0, none⟩)) := by rw [blk_cell (h.hq i h1 h2)]; rfl
  have c17 : w.cell? ⟨a, 17, none⟩ = some (.int .i64 r.err) := by rw [blk_cell ha]; rfl
  have f17 : w.frozen? ⟨a, 17, none⟩ = false := blk_frozen ha _
  have hget := get_any w (L.tb i) _ _ (h.ht i h1 h2) fd
  rw [getV_tabS] at hget
  have Hget := hide hget
  generalize descV L (fdQ K i fd) = v at *
  generalize fdE (fdQ K i fd) = x at *
  clear h ha hget
  unfold ptrAt
  go_enter Tryz.func43, Tryz.ntmps43
  go_wp2_with fail
  refine Hget.out.mono ?_
  rintro e w' ⟨rfl, rfl⟩
  go_wp2_with fail
  go_ret
  exact ⟨rfl, rfl⟩
theorem and_fact1 : ∀ f : Fin 64, bits .and .i64 ((f.val : Nat) : Int) 1 = ((f.val % 2 : Nat) : Int) := by decide +kernel
theorem and_fact2 : ∀ f : Fin 64, bits .and .i64 ((f.val : Nat) : Int) 2 = ((f.val / 2 % 2 * 2 : Nat) : Int) := by decide +kernel
theorem kinds5 {n : Nat} (h : 1 ≤ n ∧ n ≤ 5) : n = 1 ∨ n = 2 ∨ n = 3 ∨ n = 4 ∨ n = 5 := by omega
set_option maxRecDepth 100000 in
set_option maxHeartbeats 1000000 in
theorem dreads_any (w : World) (x : Nat) (L : KLay) (i : Nat) (d : DescQ) (h : w.heap[x]? = some (.cells (descC L i d) 72 (0, 0))) (hk : 1 ≤ d.kind ∧ d.kind ≤ 5) (hfl : d.flags < 64) :
    Calls Tryz.prog 44 #[ptrAt x] w fun e w' => e = .returned (.bool d.reads) ∧ w' = w := by
  obtain ⟨kd, n, pos, refs, fl, tx, inn⟩ := d
  have c0 : w.cell? ⟨x, 0, none⟩ = some (.int .i64 kd) := by rw [blk_cell h]; rfl
  have c1 : w.cell? ⟨x, 1, none⟩ = some (.int .i64 n) := by rw [blk_cell h]; rfl
  have c4 : w.cell? ⟨x, 4, none⟩ = some (.int .i64 fl) := by rw [blk_cell h]; rfl
  have hb : bits .and .i64 (fl : Int) 1 = ((fl % 2 : Nat) : Int) := and_fact1 ⟨fl, hfl⟩
  clear h
  unfold ptrAt
  rcases kinds5 hk with rfl | rfl | rfl | rfl | rfl
  · by_cases hn : n = 0
    · subst hn
      go_enter Tryz.func44, Tryz.ntmps44
      go_wp2_with fail
      go_ret
      exact ⟨by simp [DescQ.reads], rfl⟩
    · have e1 : ((n : Int) == 0) = false := by simp; omega
      go_enter Tryz.func44, Tryz.ntmps44
      go_wp2_with fail
      go_ret
      exact ⟨by simp [DescQ.reads, hn], rfl⟩
  · rcases Nat.mod_two_eq_zero_or_one fl with e | e
    · rw [e] at hb
      go_enter Tryz.func44, Tryz.ntmps44
      go_wp2_with fail
      go_ret
      exact ⟨by simp [DescQ.reads, e], rfl⟩
    · rw [e] at hb
      go_enter Tryz.func44, Tryz.ntmps44
      go_wp2_with fail
      go_ret
      exact ⟨by simp [DescQ.reads, e], rfl⟩
  all_goals
    go_enter Tryz.func44, Tryz.ntmps44
    go_wp2_with fail
    go_ret
    exact ⟨by simp [DescQ.reads], rfl⟩
set_option maxRecDepth 100000 in
set_option maxHeartbeats 1000000 in
theorem dwrites_any (w : World) (x : Nat) (L : KLay) (i : Nat) (d : DescQ) (h : w.heap[x]? = some (.cells (descC L i d) 72 (0, 0))) (hk : 1 ≤ d.kind ∧ d.kind ≤ 5) (hfl : d.flags < 64) :
    Calls Tryz.prog 47 #[ptrAt x] w fun e w' => e = .returned (.bool d.writes) ∧ w' = w := by
  obtain ⟨kd, n, pos, refs, fl, tx, inn⟩ := d
  have c0 : w.cell? ⟨x, 0, none⟩ = some (.int .i64 kd) := by rw [blk_cell h]; rfl
  have c1 : w.cell? ⟨x, 1, none⟩ = some (.int .i64 n) := by rw [blk_cell h]; rfl
  have c4 : w.cell? ⟨x, 4, none⟩ = some (.int .i64 fl) := by rw [blk_cell h]; rfl
  have hb : bits .and .i64 (fl : Int) 2 = ((fl / 2 % 2 * 2 : Nat) : Int) := and_fact2 ⟨fl, hfl⟩
  clear h
  unfold ptrAt
  rcases kinds5 hk with rfl | rfl | rfl | rfl | rfl
  · by_cases hn : n = 0
    · subst hn
      go_enter Tryz.func47, Tryz.ntmps47
      go_wp2_with fail
      go_ret
      exact ⟨by simp [DescQ.writes], rfl⟩
    · have e1 : ((n : Int) != 0) = true := by simp; omega
      go_enter Tryz.func47, Tryz.ntmps47
      go_wp2_with fail
      go_ret
      exact ⟨by simp [DescQ.writes, hn], rfl⟩
  · rcases Nat.mod_two_eq_zero_or_one (fl / 2) with e | e
    · rw [e] at hb
      go_enter Tryz.func47, Tryz.ntmps47
      go_wp2_with fail
      go_ret
      exact ⟨by simp [DescQ.writes, e], rfl⟩
    · rw [e] at hb
      go_enter Tryz.func47, Tryz.ntmps47
      go_wp2_with fail
      go_ret
      exact ⟨by simp [DescQ.writes, e], rfl⟩
  all_goals
    go_enter Tryz.func47, Tryz.ntmps47
    go_wp2_with fail
    go_ret
    exact ⟨by simp [DescQ.writes], rfl⟩
end Go.Proofs.YtffekmjoenppaaaGreatDoor
