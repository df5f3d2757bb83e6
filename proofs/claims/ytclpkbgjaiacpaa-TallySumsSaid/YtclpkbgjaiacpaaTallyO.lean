/- What is proved: both News; a script's step. Conditions: those that each theorem states. -/
import Derived.Test.YtclpkbgjaiacpaaTallyN
import Derived.Test.YtclpkbgjaiacpaaRangeR
import Derived.Test.YtclpkbgjaiacpaaPRfx2
import Derived.WalkSpells
import Derived.RegionCalls
import Derived.Deep.DeepMust
import Derived.Deep.RegionHeld3
import Derived.StillTactics
import Derived.RangeFuncBox
import Derived.RangeFuncLeaves
import Derived.RangeFuncNested
import Derived.RangeFuncCalls
import Derived.Shelf.Abstract
import Derived.OwnWalkIn
import Derived.TacticsInMore
import Derived.LoopNIn
import Derived.LoopIn
import Derived.Maps.AppendAt
namespace Go.Proofs.Ytclpkbgjaiacpaa
open Go.RowKit Go.Proofs.YtclpkbgjaiacpaaW.PrintWords Go.Proofs.YtclpkbgjaiacpaaW.PrintLast Go.Proofs.YtclpkbgjaiacpaaW.PrintMore
open Go.Proofs.Ytclpkbgjaiacpaa.PRf
set_option linter.unusedVariables false
set_option linter.unusedSimpArgs false
/-! ### both News -/
def codeN (ns : List ByteArray) : Int := if 64 < ns.length then 3 else if ∀ s ∈ ns, 1 ≤ s.size ∧ s.size ≤ 40 then (if ns.Nodup then 0 else 1) else 4
def NewAny (w : World) (ns : List ByteArray) (e : Ending) (w' : World) : Prop :=
  (codeN ns ≠ 0 ∧ e = .returned (.tuple #[.pointer none, .int .i64 (codeN ns)]) ∧ Below w.heap.size w w') ∨ (codeN ns = 0 ∧ NewOk w ns e w')
def RnAny (w : World) (ns : List ByteArray) (e : Ending) (w' : World) : Prop :=
  (codeN ns ≠ 0 ∧ e = .returned (.tuple #[.slice none 0 0, .int .i64 (codeN ns)]) ∧ Below w.heap.size w w') ∨
  (codeN ns = 0 ∧ ∃ v, e = .returned (.tuple #[v, .int .i64 0]) ∧ w'.ownsRow w.heap.size 41 2 v ns.length (flatC (zer (sortN ns))) ∧ Below w.heap.size w w')
theorem code0 {ns : List ByteArray} (h : codeN ns = 0) : ns.length ≤ 64 ∧ ns.Nodup := by
  unfold codeN at h
  split at h
  · cases h
  · split at h
    · split at h
      · exact ⟨by omega, by assumption⟩
      · cases h
    · cases h
theorem new_any (w : World) (A : Option Addr) (n c : Nat) (ns : List ByteArray) (hC : Kd.C Kd.string w A n ns) (hn : n ≤ 70) : Calls Try.prog 11 #[.slice A n c] w (NewAny w ns) := by
  obtain rfl : ns.length = n := hC.1
  by_cases h1 : 64 < ns.length
  · have hc : codeN ns = 3 := by unfold codeN; rw [if_pos h1]
    refine (new_long w A ns.length c h1 (by omega)).mono ?_
    rintro e w' ⟨rfl, rfl⟩
    exact .inl ⟨by rw [hc]; decide, by rw [hc], Below.refl _ _⟩
  · by_cases h2 : ∀ s ∈ ns, 1 ≤ s.size ∧ s.size ≤ 40
    · by_cases h3 : ns.Nodup
      · have hc : codeN ns = 0 := by unfold codeN; rw [if_neg h1, if_pos h2, if_pos h3]
        exact ((new_body w A ns.length c ns hC (by omega) h2).1 ((compact_nodup ns).2 h3)).mono fun e w' h => .inr ⟨hc, h⟩
      · have hc : codeN ns = 1 := by unfold codeN; rw [if_neg h1, if_pos h2, if_neg h3]
        refine ((new_body w A ns.length c ns hC (by omega) h2).2 (fun h => h3 ((compact_nodup ns).1 h))).mono ?_
        rintro e w' ⟨rfl, hb⟩
        exact .inl ⟨by rw [hc]; decide, by rw [hc], hb⟩
    · have hc : codeN ns = 4 := by unfold codeN; rw [if_neg h1, if_neg h2]
      refine (new_form w A ns.length c ns hC (by omega) h2).mono ?_
      rintro e w' ⟨rfl, rfl⟩
      exact .inl ⟨by rw [hc]; decide, by rw [hc], Below.refl _ _⟩
theorem rn_any (w : World) (A : Option Addr) (n c : Nat) (ns : List ByteArray) (hC : Kd.C Kd.string w A n ns) (hn : n ≤ 70) : Calls Try.prog 12 #[.slice A n c] w (RnAny w ns) := by
  obtain rfl : ns.length = n := hC.1
  by_cases h1 : 64 < ns.length
  · have hc : codeN ns = 3 := by unfold codeN; rw [if_pos h1]
    refine (rn_long w A ns.length c h1 (by omega)).mono ?_
    rintro e w' ⟨rfl, rfl⟩
    exact .inl ⟨by rw [hc]; decide, by rw [hc], Below.refl _ _⟩
  · by_cases h2 : ∀ s ∈ ns, 1 ≤ s.size ∧ s.size ≤ 40
    · refine (rn_good w A ns.length c ns hC (by omega) h2).mono ?_
      rintro e w' (⟨h3, v, rfl, ho, hb⟩ | ⟨h3, rfl, hb⟩)
      · have hc : codeN ns = 0 := by unfold codeN; rw [if_neg h1, if_pos h2, if_pos h3]
        exact .inr ⟨hc, v, rfl, ho, hb⟩
      · have hc : codeN ns = 1 := by unfold codeN; rw [if_neg h1, if_pos h2, if_neg h3]
        exact .inl ⟨by rw [hc]; decide, by rw [hc], hb⟩
    · have hc : codeN ns = 4 := by unfold codeN; rw [if_neg h1, if_neg h2]
      refine (rn_form w A ns.length c ns hC (by omega) h2).mono ?_
      rintro e w' ⟨rfl, rfl⟩
      exact .inl ⟨by rw [hc]; decide, by rw [hc], Below.refl _ _⟩
/-- Both are new. -/
theorem two_new {w0 w w1 w2 : World} {ns : List ByteArray} {g lb : Nat} {N : Option Addr} {cn : Nat} {v : Value} (hb : Below w0.heap.size w0 w) (hT : Tal w1 g lb N cn (sortN ns) (List.replicate ns.length 0)) (hg : w.heap.size ≤ g) (hl : w.heap.size ≤ lb) (hb1 : Below w.heap.size w w1)
    {w1' : World} (hb1' : Below w1.heap.size w1 w1') (ho : w2.ownsRow w1'.heap.size 41 2 v ns.length (flatC (zer (sortN ns)))) (hb2 : Below w1'.heap.size w1' w2) : Two w0 w2 w2 g lb N cn v (sortN ns) (List.replicate ns.length 0) (List.replicate ns.length 0) := by
  have h1 : w0.heap.size ≤ w1'.heap.size := Nat.le_trans (Nat.le_trans hb.size hb1.size) hb1'.size
  have hT' := hT.below hb1'
  refine ⟨hT'.below hb2, ?_, ((hb.trans (hb1.mono hb.size)).trans (hb1'.mono (Nat.le_trans hb.size hb1.size))).trans (hb2.mono h1), Nat.le_trans hb.size hg, Nat.le_trans hb.size hl, ?_, Fr.refl _ _⟩
  · unfold RefL
    rw [← sortN_len, zer_cnt, zer_len, sortN_len]
    refine ⟨ho.1, ?_⟩
    rcases ho.2 with h2 | ⟨g', cap, cur, rfl, h3, h4⟩
    · exact .inl h2
    · exact .inr ⟨g', cap, cur, rfl, Nat.le_trans h1 h3, h4⟩
  · intro ad hN hp e
    have h2 := hT'.nlt ad hN hp
    have h3 := (ho.lt ad.block e.symm).1
    omega
theorem list_rows9 {ops : Array Oper} {rest : List Oper} {o : Oper} {a : Act} {Q : Exit → Act → World → Prop} {W : World} (base : Nat) (hgd : o.guard = none) (s x : Operand) (ho : o.op = .call { callee := .builtin .append, args := #[s, x], argTypes := #[22, 22] })
    (v : Value) (n : Nat) (xs : List Value) (hs : a.eval s = v) (hown : W.ownsRow base 9 1 v n xs) (A : Option Addr) (m c : Nat) (ns : List ByteArray) (hx : a.eval x = .slice A m c) (hr : Kd.C Kd.string W A m ns)
    (hn : n ≤ 1000) (hm : m ≤ 1000) (hbase : base ≤ W.heap.size)
    (h : ∀ v' w', w'.ownsRow base 9 1 v' (n + m) (xs ++ ns.map Value.string) → W.grownBy w' v.ownBlock → wpList Try.prog ops Q rest (a.put o.dst v') w') :
    wpList Try.prog ops Q (o :: rest) a W := by
  obtain ⟨i0, hi, hz0, hz1, hz2⟩ := info_parts PRf.info9
  obtain rfl : ns.length = m := hr.1
  have hrun : ∃ v' w', (Builtin.append_ #[22, 22] o.type #[v, .slice A ns.length c]).run Try.prog W = .ok v' w' ∧ w'.ownsRow base 9 1 v' (n + ns.length) (xs ++ ns.map Value.string) ∧ W.grownBy w' v.ownBlock := by
    cases A with
    | none =>
      have hm0 : ns = [] := by
        rcases Nat.eq_zero_or_pos ns.length with h0 | h0
        · exact List.eq_nil_of_length_eq_zero h0
        · obtain ⟨ad, e, _⟩ := strAt hr 0 h0
          cases e
      subst hm0
      refine ⟨v, W, ?_, by simpa using hown, World.grownBy.refl _ _⟩
      rcases hown.2 with ⟨rfl, rfl⟩ | ⟨g, cap, cur, rfl, _, _, hnc, _⟩
      · simp [Builtin.append_, run_underlying Try.underlying22, sizeOf, typeInfo, hi, Builtin.lenOf, Builtin.firstCells]
      · simp [Builtin.append_, run_underlying Try.underlying22, sizeOf, typeInfo, hi, Builtin.lenOf, Builtin.firstCells, hnc, storeCells]
    | some ad =>
      have hcells : ∀ j u, (ns.map Value.string)[j]? = some u → W.cell? (ad.add j) = some u := by
        intro j u hu
        have hj : j < ns.length := by
          have := (List.getElem?_eq_some_iff.1 hu).1
          simpa using this
        obtain ⟨ad', e, hx⟩ := strAt hr j hj
        cases e
        rw [hx, ← hu]
        simp [rdOf, hj]
      obtain ⟨v', w', hrun, h2, h3, _⟩ := run_append_own_at (P := Try.prog) W base 22 o.type 9 i0 _ 1 16 Try.underlying22 hi hz0 hz1 hz2 rfl (by decide) v n xs hown ad ns.length c (ns.map Value.string) (by simp) hcells (by intro u hu; obtain ⟨s, _, rfl⟩ := List.mem_map.1 hu; rfl) (by simp only [maxLen]; omega) (by omega) hbase
      exact ⟨v', w', hrun, h2, h3⟩
  obtain ⟨v', w', hrun, h2, h3⟩ := hrun
  refine wpList_plain hgd fun K hK => ?_
  unfold Oper.wp execOp
  simp only [ho, resolve, invoke, builtin, Sem.run_bind, Sem.run_pure, Result.andThen_ok, List.map_toArray, List.map_cons, List.map_nil, hs, hx, hrun]
  exact hK _ _ (h v' w' h2 h3)
theorem own9 (w : World) (base : Nat) (hb : base ≤ w.heap.size) : (w.alloc (.cells #[] 9)).ownsRow base 9 1 (.slice (some ⟨w.heap.size, 0, none⟩) 0 0) 0 [] :=
  World.ownsRow_lit (base := base) (e := 9) (size := 1) w #[] 0 hb (by simp only [maxLen]; omega) rfl
/-! ### the law: TallyPlays -/
theorem add_next (ad : Addr) (n j : Nat) (hj : 0 < j) : (⟨(ad.add n).block, (ad.add n).off + j, none⟩ : Addr) = ad.add (n + j) := by
  unfold Addr.add
  by_cases h : n = 0
  · subst h
    rw [if_pos rfl, if_neg (by omega), Nat.zero_add]
  · rw [if_neg h, if_neg (by omega)]
    simp [Nat.add_assoc]
theorem St.drew {w0 w : World} {tp : Option Addr} {v : Value} {L : List S41} (h : St w0 w tp v L) : St w0 w.drew tp v L := h.below (Below.drew (Below.refl _ _))
theorem st_take {w0 w : World} {tp : Option Addr} {A : Option Addr} {n c : Nat} {L : List S41} (h : St w0 w tp (.slice A n c) L) (q : Nat) : Kd.C k41 w A (min n q) (L.take q) := by
  have h1 := h.rd
  have h2 := C41_take h1.1 (min n q) (Nat.min_le_left _ _)
  have e : L.take (min n q) = L.take q := by
    rw [h1.2.2.2]
    rcases Nat.le_total L.length q with h3 | h3
    · rw [Nat.min_eq_left h3, List.take_length, List.take_of_length_le h3]
    · rw [Nat.min_eq_right h3]
  rwa [e] at h2
theorem Two.mine {w0 wS w w1 : World} {g lb : Nat} {N : Option Addr} {cn : Nat} {v : Value} {ns : List ByteArray} {xs ys : List Int} (h : Two w0 wS w g lb N cn v ns xs ys) {gm : Nat} {cs : Array Value} (hf : Fr (only gm) w w1) (hm : w.heap[gm]? = some (.cells cs 9 (0, 0))) (hN : ∀ ad, N = some ad → 0 < ns.length → ad.block ≠ gm) (hg : w0.heap.size ≤ gm) : Two w0 w1 w1 g lb N cn v ns xs ys := by
  refine ⟨h.t.keep fun k o ho hor => (hf.block k (blk_lt ho) (fun e => ?_)).trans ho, own_fr h.r hf (fun b hb e => ?_), ((Fr.of_below (S := nothing) h.b).then_ hf (fun i hi => .inr (by rw [show i = gm from hi]; exact hg))).to_below (fun _ h => h.elim), h.g_, h.l_, h.nb, Fr.refl _ _⟩
  · have e' : k = gm := e
    subst e'
    rw [hm] at ho
    cases ho
    rcases hor with rfl | rfl | ⟨es, c, e⟩ | ⟨ad, hN', hpos, rfl⟩
    · obtain ⟨d, mo, hB, _⟩ := h.t.t
      rw [show w.heap[k]? = _ from hB] at hm
      simp at hm
    · rw [h.t.c] at hm
      simp at hm
    · cases e
    · exact hN ad hN' hpos rfl
  · have e' : b = gm := e
    subst e'
    exact own_ne h.r hm (by decide) hb
abbrev opK : Kd (Int × ByteArray × Int) := Kd.pair (Kd.int .u8) (Kd.pair Kd.string (Kd.int .u64))
theorem op_at {w : World} {B : Option Addr} {m : Nat} {ops : List (Int × ByteArray × Int)} (h : Kd.C opK w B m ops) (k : Nat) (hk : k < m) :
    ∃ ad a s y, B = some ad ∧ ops[k]? = some (a, s, y) ∧ w.cell? (ad.add (k * 3)) = some (.int .u8 a) ∧ w.cell? (ad.add (k * 3 + 1)) = some (.string s) ∧ w.cell? (ad.add (k * 3 + 2)) = some (.int .u64 y) := by
  obtain ⟨hl, _, hx⟩ := h
  obtain ⟨ad, rfl, hc⟩ := hx (by omega)
  have he : ops[k]? = some (ops[k]'(by omega)) := List.getElem?_eq_getElem (by omega)
  generalize ops[k]'(by omega) = q at he
  obtain ⟨a, s, y⟩ := q
  obtain ⟨cs, _, ⟨c0, c1, rfl, h0, c2, c3, rfl, h1, h2⟩, hcell⟩ := hc k (a, s, y) he
  have h0' : c0 = [Value.int .u8 a] := h0
  have h1' : c2 = [Value.string s] := h1
  have h2' : c3 = [Value.int .u64 y] := h2
  subst h0' h1' h2'
  exact ⟨ad, a, s, y, rfl, he, hcell 0 _ rfl, hcell 1 _ rfl, hcell 2 _ rfl⟩
end Go.Proofs.Ytclpkbgjaiacpaa
