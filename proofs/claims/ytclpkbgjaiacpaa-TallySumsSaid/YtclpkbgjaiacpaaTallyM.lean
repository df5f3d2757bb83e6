/- What is proved: the reference's New. Conditions: those that each theorem states. -/
import Derived.Test.YtclpkbgjaiacpaaTallyL
import Derived.Test.YtclpkbgjaiacpaaRangeR
import Derived.Test.YtclpkbgjaiacpaaPRfx2
import Derived.WalkSpells
import Derived.Deep.RegionLaw
import Derived.Sort.Walk0
import Derived.Deep.DeepMust
import Derived.Deep.RegionHeld3
import Derived.StillTactics
import Derived.RangeFuncBox
import Derived.RangeFuncLeaves
import Derived.RangeFuncNested
import Derived.RangeFuncCalls
import Derived.Shelf.Abstract
import Derived.OwnWalkIn
import Derived.TacticsInMore
import Derived.LoopNIn
import Derived.LoopIn
import Derived.Maps.AppendAt
namespace Go.Proofs.Ytclpkbgjaiacpaa
open Go.RowKit Go.Proofs.YtclpkbgjaiacpaaW.PrintWords Go.Proofs.YtclpkbgjaiacpaaW.PrintLast Go.Proofs.YtclpkbgjaiacpaaW.PrintMore
open Go.Proofs.Ytclpkbgjaiacpaa.PRf
set_option linter.unusedVariables false
set_option linter.unusedSimpArgs false
/-! ### the reference's New: plain -/
def ltS (a b : ByteArray) : Bool := Op.bytesLess a.toList b.toList
theorem ltS_iff (a b : ByteArray) : ltS a b = true ↔ blist a < blist b := by
  unfold ltS
  rw [Go.Proofs.bytesLess_eq, ByteArray.toList_eq, ByteArray.toList_eq, decide_eq_true_eq]
  rfl
theorem ltS_trans {a b c : ByteArray} (h : ltS a b = true) (k : ltS b c = true) : ltS a c = true := by
  rw [ltS_iff] at *
  exact List.lt_trans h k
theorem ltS_irrefl (a : ByteArray) : ltS a a = false := by
  cases h : ltS a a
  · rfl
  · rw [ltS_iff] at h
    exact absurd h (List.lt_irrefl _)
theorem ltS_total {a b : ByteArray} (h : ltS a b = false) (hne : a ≠ b) : ltS b a = true := by
  rw [ltS_iff]
  have h1 : ¬ blist a < blist b := fun e => by rw [(ltS_iff a b).2 e] at h; cases h
  have h2 : blist b ≤ blist a := List.not_lt.1 h1
  rcases Decidable.em (blist b < blist a) with h3 | h3
  · exact h3
  · have h4 : blist a ≤ blist b := List.not_lt.1 h3
    exact absurd (blist_inj (List.le_antisymm h4 h2)) hne
def Rising (ls : List ByteArray) : Prop := ls.Pairwise (fun a b => ltS a b = true)
theorem Rising.nodup {ls : List ByteArray} (h : Rising ls) : ls.Nodup := h.imp (fun {a b} hab e => by
  subst e
  rw [ltS_irrefl] at hab
  cases hab)
theorem Rising.eq_sort {ls ns : List ByteArray} (h : Rising ls) (hp : ls.Perm ns) : ls = sortN ns := by
  have h1 : (ls.map blist).Pairwise (· ≤ ·) := List.pairwise_map.2 (h.imp (fun {a b} hab => List.le_of_lt ((ltS_iff a b).1 hab)))
  have h2 : ls.map blist = sortB ns := List.Perm.eq_of_pairwise (le := fun a b => a ≤ b) (fun a b _ _ h1 h2 => List.le_antisymm h1 h2) h1 (sortB_le ns) ((hp.map blist).trans (sortB_perm ns).symm)
  unfold sortN
  rw [← h2, List.map_map]
  conv => lhs; rw [← List.map_id ls]
  apply List.map_congr_left
  intro s _
  simp [blist]
theorem Rising.ins {ls : List ByteArray} (h : Rising ls) (n : ByteArray) (i : Nat) (hi : i ≤ ls.length) (hb : ∀ j (hj : j < ls.length), j < i → ltS ls[j] n = true) (he : ∀ (hj : i < ls.length), ltS ls[i] n = false ∧ ls[i] ≠ n) : Rising (ls.take i ++ [n] ++ ls.drop i) := by
  have hup : ∀ j (hj : j < ls.length), i ≤ j → ltS n ls[j] = true := by
    intro j hj hij
    have hl : i < ls.length := by omega
    have h1 := ltS_total (he hl).1 (he hl).2
    rcases Nat.lt_or_ge i j with h2 | h2
    · exact ltS_trans h1 ((List.pairwise_iff_getElem.1 h) i j hl hj h2)
    · have : i = j := by omega
      subst this
      exact h1
  unfold Rising
  rw [List.append_assoc, List.pairwise_append]
  refine ⟨h.take, ?_, ?_⟩
  · rw [List.singleton_append, List.pairwise_cons]
    refine ⟨fun b hbm => ?_, h.drop⟩
    obtain ⟨j, hj, rfl⟩ := List.getElem_of_mem hbm
    rw [List.getElem_drop]
    exact hup _ _ (by omega)
  · intro a ha b hbm
    obtain ⟨j, hj, rfl⟩ := List.getElem_of_mem ha
    have hj2 : j < i := by rw [List.length_take] at hj; omega
    have hj3 : j < ls.length := by omega
    rw [List.getElem_take]
    have h1 := hb j hj3 hj2
    rw [List.singleton_append, List.mem_cons] at hbm
    rcases hbm with rfl | hbm
    · exact h1
    · obtain ⟨q, hq, rfl⟩ := List.getElem_of_mem hbm
      rw [List.getElem_drop]
      exact ltS_trans h1 (hup _ _ (by omega))
theorem ins_perm (ls : List ByteArray) (n : ByteArray) (i : Nat) : (ls.take i ++ [n] ++ ls.drop i).Perm (ls ++ [n]) := by
  have h1 : (ls.take i ++ [n] ++ ls.drop i).Perm ([n] ++ (ls.take i ++ ls.drop i)) := by
    rw [← List.append_assoc]
    exact List.Perm.append_right _ List.perm_append_comm
  rw [List.take_append_drop] at h1
  exact h1.trans List.perm_append_comm
def zer (ls : List ByteArray) : List (ByteArray × Int) := ls.map fun s => (s, 0)
theorem zer_cnt (ls : List ByteArray) : cntL ls (List.replicate ls.length 0) = zer ls := by
  apply List.ext_getElem
  · simp [cntL, zer]
  · intro i h1 h2
    simp only [cntL, zer, List.getElem_map, List.getElem_range]
    rw [rd_zeros]
    have : i < ls.length := by simpa [zer] using h2
    simp [rdOf, this]
theorem zer_len (ls : List ByteArray) : (zer ls).length = ls.length := by simp [zer]
theorem flatC_append (a b : List (ByteArray × Int)) : flatC (a ++ b) = flatC a ++ flatC b := by simp [flatC]
theorem flatC_take (a : List (ByteArray × Int)) (i : Nat) : (flatC a).take (i * 2) = flatC (a.take i) := by
  induction a generalizing i with
  | nil => simp [flatC]
  | cons x a ih =>
    cases i with
    | zero => simp [flatC]
    | succ i =>
      have e : (i + 1) * 2 = i * 2 + 1 + 1 := by omega
      rw [e]
      have := ih i
      simp [flatC] at this ⊢
      exact this
theorem flatC_drop (a : List (ByteArray × Int)) (i : Nat) : (flatC a).drop (i * 2) = flatC (a.drop i) := by
  induction a generalizing i with
  | nil => simp [flatC]
  | cons x a ih =>
    cases i with
    | zero => simp [flatC]
    | succ i =>
      have e : (i + 1) * 2 = i * 2 + 1 + 1 := by omega
      rw [e]
      have := ih i
      simp [flatC] at this ⊢
      exact this
theorem flatC_one (a : List (ByteArray × Int)) : ∀ u ∈ flatC a, u.oneCell' = true := by
  intro u hu
  unfold flatC at hu
  obtain ⟨x, _, hx⟩ := List.mem_flatMap.1 hu
  simp at hx
  rcases hx with rfl | rfl <;> rfl
/-! ### an append as one step -/
def RowsAt (W : World) (A : Option Addr) (m : Nat) (news : List Value) : Prop := news.length = m * 2 ∧ (0 < m → ∃ ad, A = some ad ∧ ∀ j u, news[j]? = some u → W.cell? (ad.add j) = some u)
theorem RowsAt.below {W W' : World} {A : Option Addr} {m : Nat} {news : List Value} (h : RowsAt W A m news) (hb : Below W.heap.size W W') : RowsAt W' A m news :=
  ⟨h.1, fun hm => by
    obtain ⟨ad, e, hc⟩ := h.2 hm
    refine ⟨ad, e, fun j u hu => ?_⟩
    have h1 := hc j u hu
    exact (hb.cell (World.block_lt_of_cell? W _ h1)).trans h1⟩
theorem step_rows {ops : Array Oper} {o : Oper} {a : Act} {W : World} {K : Act → World → Prop} {Q : Exit → Act → World → Prop} {E : Prop} (base : Nat) (hgd : o.guard = none) (s x : Operand)
    (ho : o.op = .call { callee := .builtin .append, args := #[s, x], argTypes := #[30, 30] })
    (v : Value) (n : Nat) (xs : List Value) (hs : a.eval s = v) (hown : W.ownsRow base 41 2 v n xs)
    (A : Option Addr) (m c : Nat) (news : List Value) (hx : a.eval x = .slice A m c) (hr : RowsAt W A m news) (h1 : ∀ u ∈ news, u.oneCell' = true)
    (hn : n ≤ 1000) (hm : m ≤ 1000) (hbase : base ≤ W.heap.size)
    (h : ∀ v' w', w'.ownsRow base 41 2 v' (n + m) (xs ++ news) → W.grownBy w' v.ownBlock → K (a.put o.dst v') w') :
    if Region.wanted o (yielded ops a.tmps) = true then Oper.wp Try.prog o a W K Q else E := by
  have hw : Region.wanted o (yielded ops a.tmps) = true := by simp [Region.wanted, hgd]
  rw [if_pos hw]
  obtain ⟨i0, hi, hz0, hz1, hz2⟩ := info_parts PRf.info41
  have hrun : ∃ v' w', (Builtin.append_ #[30, 30] o.type #[v, .slice A m c]).run Try.prog W = .ok v' w' ∧ w'.ownsRow base 41 2 v' (n + m) (xs ++ news) ∧ W.grownBy w' v.ownBlock := by
    cases A with
    | none =>
      have hm0 : m = 0 := by
        rcases Nat.eq_zero_or_pos m with h0 | h0
        · exact h0
        · obtain ⟨ad, e, _⟩ := hr.2 h0
          cases e
      subst hm0
      have hn0 : news = [] := List.eq_nil_of_length_eq_zero (by simpa using hr.1)
      subst hn0
      refine ⟨v, W, ?_, by simpa using hown, World.grownBy.refl _ _⟩
      rcases hown.2 with ⟨rfl, rfl⟩ | ⟨g, cap, cur, rfl, _, _, hnc, _⟩
      · simp [Builtin.append_, run_underlying Try.underlying30, sizeOf, typeInfo, hi, Builtin.lenOf, Builtin.firstCells]
      · simp [Builtin.append_, run_underlying Try.underlying30, sizeOf, typeInfo, hi, Builtin.lenOf, Builtin.firstCells, hnc, storeCells]
    | some ad =>
      have hcells : ∀ j u, news[j]? = some u → W.cell? (ad.add j) = some u := by
        intro j u hu
        rcases Nat.eq_zero_or_pos m with h0 | h0
        · subst h0
          have hn0 : news = [] := List.eq_nil_of_length_eq_zero (by simpa using hr.1)
          subst hn0
          simp at hu
        · obtain ⟨ad', e, hc⟩ := hr.2 h0
          cases e
          exact hc j u hu
      obtain ⟨v', w', hrun, h2, h3, _⟩ := run_append_own_at (P := Try.prog) W base 30 o.type 41 i0 _ 2 24 Try.underlying30 hi hz0 hz1 hz2 rfl (by decide) v n xs hown ad m c news hr.1 hcells h1 (by simp only [maxLen]; omega) (by omega) hbase
      exact ⟨v', w', hrun, h2, h3⟩
  obtain ⟨v', w', hrun, h2, h3⟩ := hrun
  unfold Oper.wp execOp
  simp only [ho, resolve, invoke, builtin, Sem.run_bind, Sem.run_pure, Result.andThen_ok, List.map_toArray, List.map_cons, List.map_nil, hs, hx, hrun]
  exact h v' w' h2 h3
/-! ### the reference's New, walked -/
theorem rn_long (w : World) (A : Option Addr) (n c : Nat) (hn : 64 < n) (hn2 : n ≤ 1000000) :
    Calls Try.prog 12 #[.slice A n c] w fun e w' => e = .returned (.tuple #[.slice none 0 0, .int .i64 3]) ∧ w' = w := by
  go_enter Try.func12, Try.ntmps12
  go_wp2
  go_ret2
  exact ⟨rfl, rfl⟩
set_option maxRecDepth 100000 in
theorem rn_form (w : World) (A : Option Addr) (n c : Nat) (ns : List ByteArray) (hC : Kd.C Kd.string w A n ns) (hn : n ≤ 64) (hbad : ¬ ∀ s ∈ ns, 1 ≤ s.size ∧ s.size ≤ 40) :
    Calls Try.prog 12 #[.slice A n c] w fun e w' => e = .returned (.tuple #[.slice none 0 0, .int .i64 4]) ∧ w' = w := by
  have HC := Aside0.mk hC
  have HB := Aside0.mk hbad
  clear hC hbad
  go_enter Try.func12, Try.ntmps12
  go_wp2
  go_loop [15] (fun i => ∃ k : Nat, k ≤ n ∧ i = .int .i64 k ∧ Aside0 (∀ j : Nat, j < k → 1 ≤ (rdOf ByteArray.empty ns (j : Int)).size ∧ (rdOf ByteArray.empty ns (j : Int)).size ≤ 40)) (fun i => n - (intOf i).toNat)
  case atStart => exact ⟨0, Nat.zero_le _, rfl, ⟨fun j h => absurd h (Nat.not_lt_zero _)⟩⟩
  case round =>
    obtain ⟨k, hk, rfl, HJ⟩ := hrel
    by_cases hlt : k < n
    · obtain ⟨ad, e, hx⟩ := strAt HC.out k hlt
      subst e
      have hk0 : (0 : Int) ≤ (k : Int) := Int.natCast_nonneg k
      have hk1 : (k : Int) < (n : Int) := Int.ofNat_lt.2 hlt
      by_cases h1 : (rdOf ByteArray.empty ns (k : Int)).size < 1
      · have h1' : ((rdOf ByteArray.empty ns (k : Int)).size : Int) < 1 := by omega
        go_wp2
        go_ret2
        exact ⟨rfl, rfl⟩
      · have h1' : 1 ≤ ((rdOf ByteArray.empty ns (k : Int)).size : Int) := by omega
        by_cases h2 : 40 < (rdOf ByteArray.empty ns (k : Int)).size
        · have h2' : 40 < ((rdOf ByteArray.empty ns (k : Int)).size : Int) := by omega
          clear h1 h2
          go_wp2
          go_ret2
          exact ⟨rfl, rfl⟩
        · have h2' : ((rdOf ByteArray.empty ns (k : Int)).size : Int) ≤ 40 := by omega
          have HN := Aside0.mk (show 1 ≤ (rdOf ByteArray.empty ns (k : Int)).size ∧ (rdOf ByteArray.empty ns (k : Int)).size ≤ 40 from ⟨by omega, by omega⟩)
          clear h1 h2
          go_wp2
          go_round
          case rel => exact ⟨k + 1, hlt, by go_num, ⟨fun j hj => by
            rcases Nat.lt_or_ge j k with h | h
            · exact HJ.out j h
            · have : j = k := by omega
              subst this
              exact HN.out⟩⟩
          case measure => simp [intOf]; omega
    · exfalso
      apply HB.out
      intro s hs
      obtain ⟨j, hj, rfl⟩ := List.getElem_of_mem hs
      have h3 := HJ.out j (by have := HC.out.1; omega)
      simpa [rdOf, hj] using h3
def RnPost (w : World) (ns : List ByteArray) (e : Ending) (w' : World) : Prop :=
  (ns.Nodup ∧ ∃ v, e = .returned (.tuple #[v, .int .i64 0]) ∧ w'.ownsRow w.heap.size 41 2 v ns.length (flatC (zer (sortN ns))) ∧ Below w.heap.size w w') ∨
  (¬ ns.Nodup ∧ e = .returned (.tuple #[.slice none 0 0, .int .i64 1]) ∧ Below w.heap.size w w')
/-- What holds of the list at each name. -/
structure RnAt (w wr : World) (ns ls : List ByteArray) (k : Nat) (v : Value) : Prop where
  p : ls.Perm (ns.take k)
  r : Rising ls
  o : wr.ownsRow w.heap.size 41 2 v ls.length (flatC (zer ls))
  n : ls = [] → v = .slice none 0 0
  b : Below w.heap.size w wr
theorem RnAt.at_ {w wr : World} {ns ls : List ByteArray} {k : Nat} {v : Value} (h : RnAt w wr ns ls k v) (i : Nat) (hi : i < ls.length) : ∃ bl c, v = .slice (some ⟨bl, 0, none⟩) ls.length c ∧ ls.length ≤ c ∧ wr.cell? ⟨bl, i * 2, none⟩ = some (.string (rdOf ByteArray.empty ls (i : Int))) := by
  obtain ⟨bl, cap, cur, rfl, h1, h2, h3, h4, h5, h6⟩ := own_pos h.o (by omega)
  refine ⟨bl, cap, rfl, h3, (h.o.cellAt (i * 2) (by omega)).trans ?_⟩
  exact (flatC_at (zer ls) i (rdOf ByteArray.empty ls (i : Int), 0) (by simp [zer, rdOf, hi])).1
theorem rows_of {w wr : World} {ns ls : List ByteArray} {k : Nat} {bl n c : Nat} (h : RnAt w wr ns ls k (.slice (some ⟨bl, 0, none⟩) n c)) (j : Nat) (hj : j ≤ ls.length) : RowsAt wr (some ⟨bl, 0, none⟩) j (flatC (zer (ls.take j))) ∧ RowsAt wr (some ⟨bl, j * 2, none⟩) (ls.length - j) (flatC (zer (ls.drop j))) := by
  have hz : ∀ l : List ByteArray, zer l = l.map fun s => (s, 0) := fun _ => rfl
  have hcells := h.o.cells (g := bl) rfl
  have hl := flatC_len (zer ls)
  rw [zer_len] at hl
  refine ⟨⟨by rw [flatC_len, zer_len, List.length_take]; omega, fun _ => ⟨_, rfl, fun p u hu => ?_⟩⟩, ⟨by rw [flatC_len, zer_len, List.length_drop], fun _ => ⟨_, rfl, fun p u hu => ?_⟩⟩⟩
  · refine hcells p u ?_
    have e : zer (ls.take j) = (zer ls).take j := by simp [zer]
    rw [e, ← flatC_take, List.getElem?_take] at hu
    split at hu
    · exact hu
    · cases hu
  · have e : zer (ls.drop j) = (zer ls).drop j := by simp [zer]
    rw [e, ← flatC_drop, List.getElem?_drop] at hu
    have := hcells _ u hu
    rw [Addr.add_lit] at this ⊢
    simpa using this
theorem own62a (w : World) (base : Nat) (hb : base ≤ w.heap.size) : (w.alloc (.cells #[] 41)).ownsRow base 41 2 (.slice (some ⟨w.heap.size, 0, none⟩) 0 0) 0 [] :=
  World.ownsRow_lit (base := base) (e := 41) (size := 2) w #[] 0 hb (by simp only [maxLen]; omega) rfl
theorem own62b (w : World) (o : Obj) (base : Nat) (hb : base ≤ w.heap.size) : ((w.alloc o).alloc (.cells #[] 41)).ownsRow base 41 2 (.slice (some ⟨w.heap.size + 1, 0, none⟩) 0 0) 0 [] := by
  have h := own62a (w.alloc o) base (by simp; omega)
  rw [World.size_alloc] at h
  exact h
theorem RowsAt.drew {W : World} {A : Option Addr} {m : Nat} {news : List Value} (h : RowsAt W A m news) : RowsAt W.drew A m news := h
theorem rows69 {w' : World} (s : ByteArray) (b : Nat) (h : w'.heap[b]? = some (.cells #[.string s, .int .u64 0] 41 (0, 0))) : RowsAt w' (some ⟨b, 0, none⟩) 1 (flatC (zer [s])) :=
  ⟨rfl, fun _ => ⟨_, rfl, fun j u hu => by
    rw [Addr.add_lit, Nat.zero_add]
    exact (blk_cell h j).trans (by simpa [flatC, zer] using hu)⟩⟩
theorem rows69a (w : World) (s : ByteArray) : RowsAt (w.alloc (.cells #[.string s, .int .u64 0] 41)) (some ⟨w.heap.size, 0, none⟩) 1 (flatC (zer [s])) := rows69 s _ (blk_new w _)
theorem rows69b (w : World) (s : ByteArray) (w' : World) (h : (((w.alloc (.cells #[] 41)).alloc (.cells #[.string s, .int .u64 0] 41)).drew).grownBy w' (Value.slice (some ⟨w.heap.size, 0, none⟩) 0 0).ownBlock) : RowsAt w' (some ⟨w.heap.size + 1, 0, none⟩) 1 (flatC (zer [s])) := by
  have h1 := blk_new (w.alloc (.cells #[] 41)) (.cells #[.string s, .int .u64 0] 41)
  rw [World.size_alloc] at h1
  exact rows69 s _ ((h.block (w.heap.size + 1) (blk_lt h1) (by simp [Value.ownBlock])).trans h1)
theorem rows69c (w : World) (s : ByteArray) (w' : World) (h : (((w.alloc (.cells #[.string s, .int .u64 0] 41)).alloc (.cells #[] 41)).drew).grownBy w' (Value.slice (some ⟨w.heap.size + 1, 0, none⟩) 0 0).ownBlock) : RowsAt w' (some ⟨w.heap.size, 0, none⟩) 1 (flatC (zer [s])) := by
  have h1 := blk_alloc (blk_new w (.cells #[.string s, .int .u64 0] 41)) (.cells #[] 41)
  exact rows69 s _ ((h.block w.heap.size (blk_lt h1) (by simp [Value.ownBlock])).trans h1)
theorem RnAt.step {w wr w' : World} {ns ls : List ByteArray} {k : Nat} {v v' : Value} (h : RnAt w wr ns ls k v) (hk : k < ns.length) {j : Nat} (hj : j ≤ ls.length) (hb : ∀ t : Nat, t < j → ltS (rdOf ByteArray.empty ls (t : Int)) (rdOf ByteArray.empty ns (k : Int)) = true)
    (he : j < ls.length → ltS (rdOf ByteArray.empty ls (j : Int)) (rdOf ByteArray.empty ns (k : Int)) = false ∧ rdOf ByteArray.empty ls (j : Int) ≠ rdOf ByteArray.empty ns (k : Int))
    {m : Nat} (hm : m = ls.length - j) (ho : w'.ownsRow wr.heap.size 41 2 v' (j + 1 + m) (flatC (zer (ls.take j)) ++ flatC (zer [rdOf ByteArray.empty ns (k : Int)]) ++ flatC (zer (ls.drop j)))) (hb2 : Below wr.heap.size wr w') :
    RnAt w w' ns (ls.take j ++ [rdOf ByteArray.empty ns (k : Int)] ++ ls.drop j) (k + 1) v' := by
  subst hm
  have hr : ∀ (l : List ByteArray) (i : Nat) (hi : i < l.length), rdOf ByteArray.empty l (i : Int) = l[i] := fun l i hi => by simp [rdOf, hi]
  refine ⟨?_, ?_, ?_, fun e => ?_, h.b.trans (hb2.mono h.b.size)⟩
  · refine (ins_perm ls _ j).trans ?_
    rw [List.take_succ_eq_append_getElem hk, hr ns k hk]
    exact h.p.append_right _
  · refine h.r.ins _ j hj (fun t ht hlt => ?_) (fun hl => ?_)
    · have := hb t hlt
      rwa [hr ls t ht] at this
    · have := he hl
      rwa [hr ls j hl] at this
  · have e1 : (ls.take j ++ [rdOf ByteArray.empty ns (k : Int)] ++ ls.drop j).length = j + 1 + (ls.length - j) := by simp; omega
    have e2 : flatC (zer (ls.take j ++ [rdOf ByteArray.empty ns (k : Int)] ++ ls.drop j)) = flatC (zer (ls.take j)) ++ flatC (zer [rdOf ByteArray.empty ns (k : Int)]) ++ flatC (zer (ls.drop j)) := by
      have hz : ∀ a b : List ByteArray, zer (a ++ b) = zer a ++ zer b := fun a b => by simp [zer]
      rw [hz, hz, flatC_append, flatC_append]
    rw [e1, e2]
    refine ⟨ho.1, ?_⟩
    rcases ho.2 with h2 | ⟨g', cap, cur, rfl, h3, h4⟩
    · exact .inl h2
    · exact .inr ⟨g', cap, cur, rfl, Nat.le_trans h.b.size h3, h4⟩
  · simp at e
theorem dup_not {w wr : World} {ns ls : List ByteArray} {k j : Nat} {v : Value} (h : RnAt w wr ns ls k v) (hj : j < ls.length) (hk : k < ns.length) (he : rdOf ByteArray.empty ls (j : Int) = rdOf ByteArray.empty ns (k : Int)) : ¬ ns.Nodup := by
  intro hn
  have h1 : ns[k] ∈ ns.take k := by
    have h2 : ls[j] = ns[k] := by simpa [rdOf, hj, hk] using he
    rw [← h2]
    exact h.p.mem_iff.1 (List.getElem_mem hj)
  obtain ⟨i, hi, e⟩ := List.getElem_of_mem h1
  have hi2 : i < k := by rw [List.length_take] at hi; omega
  rw [List.getElem_take] at e
  exact (List.pairwise_iff_getElem.1 hn) i k (by omega) hk hi2 e
theorem RnAt.fin {w wr : World} {ns ls : List ByteArray} {k : Nat} {v : Value} (h : RnAt w wr ns ls k v) (hk : k = ns.length) : ns.Nodup ∧ wr.ownsRow w.heap.size 41 2 v ns.length (flatC (zer (sortN ns))) := by
  subst hk
  have hp := h.p
  rw [List.take_length] at hp
  refine ⟨hp.nodup_iff.1 h.r.nodup, ?_⟩
  rw [← h.r.eq_sort hp, ← hp.length_eq]
  exact h.o
set_option maxRecDepth 100000 in
set_option maxHeartbeats 4000000 in
theorem rn_good (w : World) (A : Option Addr) (n c : Nat) (ns : List ByteArray) (hC : Kd.C Kd.string w A n ns) (hn : n ≤ 64) (hok : ∀ s ∈ ns, 1 ≤ s.size ∧ s.size ≤ 40) :
    Calls Try.prog 12 #[.slice A n c] w (RnPost w ns) := by
  obtain rfl : ns.length = n := hC.1
  have HC := Aside0.mk hC
  have HB := Aside0.mk hok
  clear hC hok
  go_enter Try.func12, Try.ntmps12
  go_wp2
  go_loop [15] (fun i => ∃ k : Nat, k ≤ ns.length ∧ i = .int .i64 k) (fun i => ns.length - (intOf i).toNat)
  case atStart => exact ⟨0, Nat.zero_le _, rfl⟩
  case round =>
    obtain ⟨k, hk, rfl⟩ := hrel
    by_cases hlt : k < ns.length
    · obtain ⟨ad, e, hx⟩ := strAt HC.out k hlt
      subst e
      have hk0 : (0 : Int) ≤ (k : Int) := Int.natCast_nonneg k
      have hk1 : (k : Int) < (ns.length : Int) := Int.ofNat_lt.2 hlt
      have hb := HB.out (rdOf ByteArray.empty ns (k : Int)) (by simp [rdOf, hlt])
      have h1 : 1 ≤ ((rdOf ByteArray.empty ns (k : Int)).size : Int) := by omega
      have h2 : ((rdOf ByteArray.empty ns (k : Int)).size : Int) ≤ 40 := by omega
      clear hb
      go_wp2
      go_round
      case rel => exact ⟨k + 1, hlt, by go_num⟩
      case measure => simp [intOf]; omega
    · obtain rfl : k = ns.length := by omega
      go_wp2
      go_loopw [6, 9, 30] (fun v i x wr => ∃ (k : Nat) (ls : List ByteArray), k ≤ ns.length ∧ x = .int .i64 k ∧ (∃ A c, v = .slice A ls.length c) ∧ Aside0 (RnAt w wr ns ls k v)) (fun _ _ x _ => ns.length - (intOf x).toNat)
      case atStart => exact ⟨0, [], Nat.zero_le _, rfl, ⟨_, _, rfl⟩, ⟨⟨List.Perm.refl _, List.Pairwise.nil, World.ownsRow_nil _ _ _ _, fun _ => rfl, Below.refl _ _⟩⟩⟩
      case round =>
        obtain ⟨k, ls, hk, rfl, ⟨Al, cl, rfl⟩, HR⟩ := hrel
        by_cases hlt : k < ns.length
        · obtain ⟨ad, e, hx⟩ := strAt (Kd.C_below HC.out HR.out.b) k hlt
          subst e
          have hk0 : (0 : Int) ≤ (k : Int) := Int.natCast_nonneg k
          have hk1 : (k : Int) < (ns.length : Int) := Int.ofNat_lt.2 hlt
          have hl64 : ls.length ≤ 64 := by
            have h := HR.out.p.length_eq
            rw [List.length_take] at h
            omega
          go_wp2
          go_loop [9] (fun i => ∃ j : Nat, j ≤ ls.length ∧ i = .int .i64 j ∧ Aside0 (∀ t : Nat, t < j → ltS (rdOf ByteArray.empty ls (t : Int)) (rdOf ByteArray.empty ns (k : Int)) = true)) (fun i => ls.length - (intOf i).toNat)
          case atStart => exact ⟨0, Nat.zero_le _, rfl, ⟨fun t h => absurd h (Nat.not_lt_zero _)⟩⟩
          case round =>
            obtain ⟨j, hj, rfl, HJ⟩ := hrel
            have hj0 : (0 : Int) ≤ (j : Int) := Int.natCast_nonneg j
            by_cases hjl : j < ls.length
            · obtain ⟨bl, c', e1, hc, hcell⟩ := HR.out.at_ j hjl
              cases e1
              have hj1 : (j : Int) < (ls.length : Int) := Int.ofNat_lt.2 hjl
              by_cases hb : ltS (rdOf ByteArray.empty ls (j : Int)) (rdOf ByteArray.empty ns (k : Int)) = true
              · have HBT := Aside0.mk hb
                have hbl : Op.bytesLess (rdOf ByteArray.empty ls (j : Int)).toList (rdOf ByteArray.empty ns (k : Int)).toList = true := hb
                clear hb
                go_wp2
                go_round
                case rel => exact ⟨j + 1, hjl, by go_num, ⟨fun t ht => by
                  rcases Nat.lt_or_ge t j with h | h
                  · exact HJ.out t h
                  · have : t = j := by omega
                    subst this
                    exact HBT.out⟩⟩
                case measure => simp [intOf]; omega
              · have hbl : Op.bytesLess (rdOf ByteArray.empty ls (j : Int)).toList (rdOf ByteArray.empty ns (k : Int)).toList = false := by simpa [ltS] using hb
                have HBF := Aside0.mk hbl
                clear hb
                by_cases he : rdOf ByteArray.empty ls (j : Int) = rdOf ByteArray.empty ns (k : Int)
                · have het : ((rdOf ByteArray.empty ls (j : Int)).toList == (rdOf ByteArray.empty ns (k : Int)).toList) = true := by rw [he]; simp
                  have HE := Aside0.mk he
                  clear he
                  go_wp2
                  go_ret2
                  exact .inr ⟨dup_not HR.out hjl hlt HE.out, rfl, HR.out.b⟩
                · have hef : ((rdOf ByteArray.empty ls (j : Int)).toList == (rdOf ByteArray.empty ns (k : Int)).toList) = false := by
                    rw [beq_eq_false_iff_ne]
                    exact fun e => he (Go.WideShapes.bytes_inj (by rwa [ByteArray.toList_eq, ByteArray.toList_eq] at e))
                  have HE := Aside0.mk he
                  clear he
                  go_wp2
                  have HR1 := Aside0.mk (rows_of HR.out j (by omega)).1
                  have HR2 := Aside0.mk (rows_of HR.out j (by omega)).2
                  have hcj : ¬ cl = j := by omega
                  have hjc : (j : Int) ≤ (cl : Int) := by omega
                  go_region_law (first | (refine step_rows wr.heap.size rfl (.tmp 62) (.tmp 65) rfl (.slice (some ⟨wr.heap.size, 0, none⟩) 0 0) 0 [] rfl ?_ (some ⟨bl, 0, none⟩) j _ (flatC (zer (ls.take j))) rfl ?_ (flatC_one _) (by omega) (by omega) (by simp; try omega) ?_; (· first | exact (own62a wr _ (Nat.le_refl _)).drew | exact ((own62a wr _ (Nat.le_refl _)).alloc _).drew); (· exact (RowsAt.below HR1.out (by first | exact below_alloc (Below.refl _ _) _ | exact below_alloc (below_alloc (Below.refl _ _) _) _)).drew); intro v66 w66 ho66 hg66; simp only [Nat.zero_add, List.nil_append] at ho66; have hb66 : Below wr.heap.size wr w66 := Below.grown (Below.drew (by first | exact below_alloc (Below.refl _ _) _ | exact below_alloc (below_alloc (Below.refl _ _) _) _)) hg66 (by simp; try omega) (by intro q hq; simp [Value.ownBlock] at hq; omega)) | (refine step_rows wr.heap.size rfl (.tmp 62) (.tmp 65) rfl (.slice (some ⟨wr.heap.size + 1, 0, none⟩) 0 0) 0 [] rfl ?_ (some ⟨bl, 0, none⟩) j _ (flatC (zer (ls.take j))) rfl ?_ (flatC_one _) (by omega) (by omega) (by simp; try omega) ?_; (· exact (own62b wr _ _ (Nat.le_refl _)).drew); (· exact (RowsAt.below HR1.out (by first | exact below_alloc (Below.refl _ _) _ | exact below_alloc (below_alloc (Below.refl _ _) _) _)).drew); intro v66 w66 ho66 hg66; simp only [Nat.zero_add, List.nil_append] at ho66; have hb66 : Below wr.heap.size wr w66 := Below.grown (Below.drew (by first | exact below_alloc (Below.refl _ _) _ | exact below_alloc (below_alloc (Below.refl _ _) _) _)) hg66 (by simp; try omega) (by intro q hq; simp [Value.ownBlock] at hq; omega)) | (refine step_rows wr.heap.size rfl (.tmp 66) (.tmp 69) rfl v66 j (flatC (zer (ls.take j))) rfl ?_ _ 1 1 (flatC (zer [(rdOf ByteArray.empty ns (k : Int))])) rfl ?_ (flatC_one _) (by omega) (by omega) (by have := hb66.size; simp; try omega) ?_; (· first | exact ho66 | exact ho66.alloc _); (· first | exact rows69a w66 _ | exact rows69b wr _ _ hg66 | exact rows69c wr _ _ hg66); intro v70 w70 ho70 hg70; have hb70 : Below wr.heap.size wr w70 := (by first | exact hb66.grown hg70 hb66.size (fun q hq => (ho66.lt q hq).1) | exact (below_alloc hb66 _).grown hg70 (by have := hb66.size; simp; omega) (fun q hq => (ho66.lt q hq).1))) | (refine step_rows wr.heap.size rfl (.tmp 70) (.tmp 73) rfl v70 (j + 1) (flatC (zer (ls.take j)) ++ flatC (zer [(rdOf ByteArray.empty ns (k : Int))])) rfl ho70 (some ⟨bl, j * 2, none⟩) (ls.length - j) _ (flatC (zer (ls.drop j))) rfl ?_ (flatC_one _) (by omega) (by omega) hb70.size ?_; (· exact RowsAt.below HR2.out hb70); intro v74 w74 ho74 hg74; have hb74 : Below wr.heap.size wr w74 := hb70.grown hg74 hb70.size (fun q hq => (ho70.lt q hq).1); have HO74 := Aside0.mk ho74; have HB74 := Aside0.mk hb74; clear ho74 hg74 hb74 ho70 hg70 hb70 ho66 hg66 hb66))
                  all_goals
                    have HN := Aside0.mk (RnAt.step HR.out hlt (by omega) HJ.out (fun _ => ⟨HBF.out, HE.out⟩) rfl HO74.out HB74.out)
                    clear HO74 HB74
                    go_wp2
                    go_roundw
                    case rel => exact ⟨k + 1, _, hlt, by go_num, own_slice HN.out.o, HN⟩
                    case measure => simp [intOf]; omega
            · have hjf : decide (j < ls.length) = false := by simpa using hjl
              have hje : ls.length ≤ j := by omega
              clear hjl
              rcases Nat.eq_zero_or_pos ls.length with h0 | h0
              · have hls : ls = [] := List.eq_nil_of_length_eq_zero h0
                have hv := HR.out.n hls
                injection hv with e1 e2 e3
                subst e1 e3 hls
                obtain rfl : j = 0 := by simpa using hj
                have HR1 := Aside0.mk (show RowsAt wr none 0 (flatC (zer (([] : List ByteArray).take 0))) from ⟨rfl, fun h => absurd h (by omega)⟩)
                clear h0 e2 hjf
                go_wp2
                go_region_law (first | (refine step_rows wr.heap.size rfl (.tmp 62) (.tmp 65) rfl (.slice (some ⟨wr.heap.size, 0, none⟩) 0 0) 0 [] rfl ?_ none 0 _ (flatC (zer (([] : List ByteArray).take 0))) rfl ?_ (flatC_one _) (by omega) (by omega) (by simp; try omega) ?_; (· first | exact (own62a wr _ (Nat.le_refl _)).drew | exact ((own62a wr _ (Nat.le_refl _)).alloc _).drew); (· exact (RowsAt.below HR1.out (by first | exact below_alloc (Below.refl _ _) _ | exact below_alloc (below_alloc (Below.refl _ _) _) _)).drew); intro v66 w66 ho66 hg66; simp only [Nat.zero_add, List.nil_append] at ho66; have hb66 : Below wr.heap.size wr w66 := Below.grown (Below.drew (by first | exact below_alloc (Below.refl _ _) _ | exact below_alloc (below_alloc (Below.refl _ _) _) _)) hg66 (by simp; try omega) (by intro q hq; simp [Value.ownBlock] at hq; omega)) | (refine step_rows wr.heap.size rfl (.tmp 62) (.tmp 65) rfl (.slice (some ⟨wr.heap.size + 1, 0, none⟩) 0 0) 0 [] rfl ?_ none 0 _ (flatC (zer (([] : List ByteArray).take 0))) rfl ?_ (flatC_one _) (by omega) (by omega) (by simp; try omega) ?_; (· exact (own62b wr _ _ (Nat.le_refl _)).drew); (· exact (RowsAt.below HR1.out (by first | exact below_alloc (Below.refl _ _) _ | exact below_alloc (below_alloc (Below.refl _ _) _) _)).drew); intro v66 w66 ho66 hg66; simp only [Nat.zero_add, List.nil_append] at ho66; have hb66 : Below wr.heap.size wr w66 := Below.grown (Below.drew (by first | exact below_alloc (Below.refl _ _) _ | exact below_alloc (below_alloc (Below.refl _ _) _) _)) hg66 (by simp; try omega) (by intro q hq; simp [Value.ownBlock] at hq; omega)) | (refine step_rows wr.heap.size rfl (.tmp 66) (.tmp 69) rfl v66 0 (flatC (zer (([] : List ByteArray).take 0))) rfl ?_ _ 1 1 (flatC (zer [(rdOf ByteArray.empty ns (k : Int))])) rfl ?_ (flatC_one _) (by omega) (by omega) (by have := hb66.size; simp; try omega) ?_; (· first | exact ho66 | exact ho66.alloc _); (· first | exact rows69a w66 _ | exact rows69b wr _ _ hg66 | exact rows69c wr _ _ hg66); intro v70 w70 ho70 hg70; have hb70 : Below wr.heap.size wr w70 := (by first | exact hb66.grown hg70 hb66.size (fun q hq => (ho66.lt q hq).1) | exact (below_alloc hb66 _).grown hg70 (by have := hb66.size; simp; omega) (fun q hq => (ho66.lt q hq).1))) | (refine step_rows wr.heap.size rfl (.tmp 70) (.tmp 73) rfl v70 (0 + 1) (flatC (zer (([] : List ByteArray).take 0)) ++ flatC (zer [(rdOf ByteArray.empty ns (k : Int))])) rfl ho70 none 0 _ (flatC (zer (([] : List ByteArray).drop 0))) rfl ?_ (flatC_one _) (by omega) (by omega) hb70.size ?_; (· exact RowsAt.below HR1.out hb70); intro v74 w74 ho74 hg74; have hb74 : Below wr.heap.size wr w74 := hb70.grown hg74 hb70.size (fun q hq => (ho70.lt q hq).1); have HO74 := Aside0.mk ho74; have HB74 := Aside0.mk hb74; clear ho74 hg74 hb74 ho70 hg70 hb70 ho66 hg66 hb66))
                all_goals
                  have HN := Aside0.mk (RnAt.step HR.out hlt (by omega) HJ.out (fun h => absurd h (by simp)) rfl HO74.out HB74.out)
                  clear HO74 HB74
                  go_wp2
                  go_roundw
                  case rel => exact ⟨k + 1, _, hlt, by go_num, own_slice HN.out.o, HN⟩
                  case measure => simp [intOf]; omega
              · obtain ⟨bl, c', e1, hc, _⟩ := HR.out.at_ 0 h0
                cases e1
                have HR1 := Aside0.mk (rows_of HR.out j (by omega)).1
                have HR2 := Aside0.mk (show RowsAt wr (some ⟨bl, 0, none⟩) 0 (flatC (zer (ls.drop j))) from ⟨by rw [List.drop_of_length_le hje]; rfl, fun h => absurd h (by omega)⟩)
                have HR3 := Aside0.mk (show RowsAt wr (some ⟨bl, j * 2, none⟩) 0 (flatC (zer (ls.drop j))) from ⟨by rw [List.drop_of_length_le hje]; rfl, fun h => absurd h (by omega)⟩)
                have HM := Aside0.mk (show 0 = ls.length - j by omega)
                by_cases hcj : cl = j
                · have hcj2 := hcj.symm
                  subst hcj2
                  clear hcj
                  go_wp2
                  go_region_law (first | (refine step_rows wr.heap.size rfl (.tmp 62) (.tmp 65) rfl (.slice (some ⟨wr.heap.size, 0, none⟩) 0 0) 0 [] rfl ?_ (some ⟨bl, 0, none⟩) j _ (flatC (zer (ls.take j))) rfl ?_ (flatC_one _) (by omega) (by omega) (by simp; try omega) ?_; (· first | exact (own62a wr _ (Nat.le_refl _)).drew | exact ((own62a wr _ (Nat.le_refl _)).alloc _).drew); (· exact (RowsAt.below HR1.out (by first | exact below_alloc (Below.refl _ _) _ | exact below_alloc (below_alloc (Below.refl _ _) _) _)).drew); intro v66 w66 ho66 hg66; simp only [Nat.zero_add, List.nil_append] at ho66; have hb66 : Below wr.heap.size wr w66 := Below.grown (Below.drew (by first | exact below_alloc (Below.refl _ _) _ | exact below_alloc (below_alloc (Below.refl _ _) _) _)) hg66 (by simp; try omega) (by intro q hq; simp [Value.ownBlock] at hq; omega)) | (refine step_rows wr.heap.size rfl (.tmp 62) (.tmp 65) rfl (.slice (some ⟨wr.heap.size + 1, 0, none⟩) 0 0) 0 [] rfl ?_ (some ⟨bl, 0, none⟩) j _ (flatC (zer (ls.take j))) rfl ?_ (flatC_one _) (by omega) (by omega) (by simp; try omega) ?_; (· exact (own62b wr _ _ (Nat.le_refl _)).drew); (· exact (RowsAt.below HR1.out (by first | exact below_alloc (Below.refl _ _) _ | exact below_alloc (below_alloc (Below.refl _ _) _) _)).drew); intro v66 w66 ho66 hg66; simp only [Nat.zero_add, List.nil_append] at ho66; have hb66 : Below wr.heap.size wr w66 := Below.grown (Below.drew (by first | exact below_alloc (Below.refl _ _) _ | exact below_alloc (below_alloc (Below.refl _ _) _) _)) hg66 (by simp; try omega) (by intro q hq; simp [Value.ownBlock] at hq; omega)) | (refine step_rows wr.heap.size rfl (.tmp 66) (.tmp 69) rfl v66 j (flatC (zer (ls.take j))) rfl ?_ _ 1 1 (flatC (zer [(rdOf ByteArray.empty ns (k : Int))])) rfl ?_ (flatC_one _) (by omega) (by omega) (by have := hb66.size; simp; try omega) ?_; (· first | exact ho66 | exact ho66.alloc _); (· first | exact rows69a w66 _ | exact rows69b wr _ _ hg66 | exact rows69c wr _ _ hg66); intro v70 w70 ho70 hg70; have hb70 : Below wr.heap.size wr w70 := (by first | exact hb66.grown hg70 hb66.size (fun q hq => (ho66.lt q hq).1) | exact (below_alloc hb66 _).grown hg70 (by have := hb66.size; simp; omega) (fun q hq => (ho66.lt q hq).1))) | (refine step_rows wr.heap.size rfl (.tmp 70) (.tmp 73) rfl v70 (j + 1) (flatC (zer (ls.take j)) ++ flatC (zer [(rdOf ByteArray.empty ns (k : Int))])) rfl ho70 (some ⟨bl, 0, none⟩) 0 _ (flatC (zer (ls.drop j))) rfl ?_ (flatC_one _) (by omega) (by omega) hb70.size ?_; (· exact RowsAt.below HR2.out hb70); intro v74 w74 ho74 hg74; have hb74 : Below wr.heap.size wr w74 := hb70.grown hg74 hb70.size (fun q hq => (ho70.lt q hq).1); have HO74 := Aside0.mk ho74; have HB74 := Aside0.mk hb74; clear ho74 hg74 hb74 ho70 hg70 hb70 ho66 hg66 hb66))
                  all_goals
                    have HN := Aside0.mk (RnAt.step HR.out hlt (by omega) HJ.out (fun h => absurd h (by omega)) HM.out HO74.out HB74.out)
                    clear HO74 HB74
                    go_wp2
                    go_roundw
                    case rel => exact ⟨k + 1, _, hlt, by go_num, own_slice HN.out.o, HN⟩
                    case measure => simp [intOf]; omega
                · have hjc : (j : Int) ≤ (cl : Int) := by omega
                  go_wp2
                  go_region_law (first | (refine step_rows wr.heap.size rfl (.tmp 62) (.tmp 65) rfl (.slice (some ⟨wr.heap.size, 0, none⟩) 0 0) 0 [] rfl ?_ (some ⟨bl, 0, none⟩) j _ (flatC (zer (ls.take j))) rfl ?_ (flatC_one _) (by omega) (by omega) (by simp; try omega) ?_; (· first | exact (own62a wr _ (Nat.le_refl _)).drew | exact ((own62a wr _ (Nat.le_refl _)).alloc _).drew); (· exact (RowsAt.below HR1.out (by first | exact below_alloc (Below.refl _ _) _ | exact below_alloc (below_alloc (Below.refl _ _) _) _)).drew); intro v66 w66 ho66 hg66; simp only [Nat.zero_add, List.nil_append] at ho66; have hb66 : Below wr.heap.size wr w66 := Below.grown (Below.drew (by first | exact below_alloc (Below.refl _ _) _ | exact below_alloc (below_alloc (Below.refl _ _) _) _)) hg66 (by simp; try omega) (by intro q hq; simp [Value.ownBlock] at hq; omega)) | (refine step_rows wr.heap.size rfl (.tmp 62) (.tmp 65) rfl (.slice (some ⟨wr.heap.size + 1, 0, none⟩) 0 0) 0 [] rfl ?_ (some ⟨bl, 0, none⟩) j _ (flatC (zer (ls.take j))) rfl ?_ (flatC_one _) (by omega) (by omega) (by simp; try omega) ?_; (· exact (own62b wr _ _ (Nat.le_refl _)).drew); (· exact (RowsAt.below HR1.out (by first | exact below_alloc (Below.refl _ _) _ | exact below_alloc (below_alloc (Below.refl _ _) _) _)).drew); intro v66 w66 ho66 hg66; simp only [Nat.zero_add, List.nil_append] at ho66; have hb66 : Below wr.heap.size wr w66 := Below.grown (Below.drew (by first | exact below_alloc (Below.refl _ _) _ | exact below_alloc (below_alloc (Below.refl _ _) _) _)) hg66 (by simp; try omega) (by intro q hq; simp [Value.ownBlock] at hq; omega)) | (refine step_rows wr.heap.size rfl (.tmp 66) (.tmp 69) rfl v66 j (flatC (zer (ls.take j))) rfl ?_ _ 1 1 (flatC (zer [(rdOf ByteArray.empty ns (k : Int))])) rfl ?_ (flatC_one _) (by omega) (by omega) (by have := hb66.size; simp; try omega) ?_; (· first | exact ho66 | exact ho66.alloc _); (· first | exact rows69a w66 _ | exact rows69b wr _ _ hg66 | exact rows69c wr _ _ hg66); intro v70 w70 ho70 hg70; have hb70 : Below wr.heap.size wr w70 := (by first | exact hb66.grown hg70 hb66.size (fun q hq => (ho66.lt q hq).1) | exact (below_alloc hb66 _).grown hg70 (by have := hb66.size; simp; omega) (fun q hq => (ho66.lt q hq).1))) | (refine step_rows wr.heap.size rfl (.tmp 70) (.tmp 73) rfl v70 (j + 1) (flatC (zer (ls.take j)) ++ flatC (zer [(rdOf ByteArray.empty ns (k : Int))])) rfl ho70 (some ⟨bl, j * 2, none⟩) 0 _ (flatC (zer (ls.drop j))) rfl ?_ (flatC_one _) (by omega) (by omega) hb70.size ?_; (· exact RowsAt.below HR3.out hb70); intro v74 w74 ho74 hg74; have hb74 : Below wr.heap.size wr w74 := hb70.grown hg74 hb70.size (fun q hq => (ho70.lt q hq).1); have HO74 := Aside0.mk ho74; have HB74 := Aside0.mk hb74; clear ho74 hg74 hb74 ho70 hg70 hb70 ho66 hg66 hb66))
                  all_goals
                    have HN := Aside0.mk (RnAt.step HR.out hlt (by omega) HJ.out (fun h => absurd h (by omega)) HM.out HO74.out HB74.out)
                    clear HO74 HB74
                    go_wp2
                    go_roundw
                    case rel => exact ⟨k + 1, _, hlt, by go_num, own_slice HN.out.o, HN⟩
                    case measure => simp [intOf]; omega
        · have hke : k = ns.length := by omega
          have HF := Aside0.mk (RnAt.fin HR.out hke)
          clear hke
          go_wp2
          go_ret2
          exact .inl ⟨HF.out.1, _, rfl, HF.out.2, HR.out.b⟩
end Go.Proofs.Ytclpkbgjaiacpaa
