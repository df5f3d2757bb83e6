/- What is proved: both News; the law TallyPlays, walked. Conditions: those that each theorem states. -/
import Derived.Test.YtclpkbgjaiacpaaTallyN
import Derived.Test.YtclpkbgjaiacpaaRangeR
import Derived.Test.YtclpkbgjaiacpaaPRfx2
import Derived.WalkSpells
import Derived.RegionCalls
import Derived.Deep.DeepMust
import Derived.Deep.RegionHeld3
import Derived.StillTactics
import Derived.RangeFuncBox
import Derived.RangeFuncLeaves
import Derived.RangeFuncNested
import Derived.RangeFuncCalls
import Derived.Shelf.Abstract
import Derived.OwnWalkIn
import Derived.TacticsInMore
import Derived.LoopNIn
import Derived.LoopIn
import Derived.Maps.AppendAt
namespace Go.Proofs.Ytclpkbgjaiacpaa
open Go.RowKit Go.Proofs.YtclpkbgjaiacpaaW.PrintWords Go.Proofs.YtclpkbgjaiacpaaW.PrintLast Go.Proofs.YtclpkbgjaiacpaaW.PrintMore
open Go.Proofs.Ytclpkbgjaiacpaa.PRf
set_option linter.unusedVariables false
set_option linter.unusedSimpArgs false
/-! ### both News -/
def codeN (ns : List ByteArray) : Int := if 64 < ns.length then 3 else if ∀ s ∈ ns, 1 ≤ s.size ∧ s.size ≤ 40 then (if ns.Nodup then 0 else 1) else 4
def NewAny (w : World) (ns : List ByteArray) (e : Ending) (w' : World) : Prop :=
  (codeN ns ≠ 0 ∧ e = .returned (.tuple #[.pointer none, .int .i64 (codeN ns)]) ∧ Below w.heap.size w w') ∨ (codeN ns = 0 ∧ NewOk w ns e w')
def RnAny (w : World) (ns : List ByteArray) (e : Ending) (w' : World) : Prop :=
  (codeN ns ≠ 0 ∧ e = .returned (.tuple #[.slice none 0 0, .int .i64 (codeN ns)]) ∧ Below w.heap.size w w') ∨
  (codeN ns = 0 ∧ ∃ v, e = .returned (.tuple #[v, .int .i64 0]) ∧ w'.ownsRow w.heap.size 41 2 v ns.length (flatC (zer (sortN ns))) ∧ Below w.heap.size w w')
theorem code0 {ns : List ByteArray} (h : codeN ns = 0) : ns.length ≤ 64 ∧ ns.Nodup := by
  unfold codeN at h
  split at h
  · cases h
  · split at h
    · split at h
      · exact ⟨by omega, by assumption⟩
      · cases h
    · cases h
theorem new_any (w : World) (A : Option Addr) (n c : Nat) (ns : List ByteArray) (hC : Kd.C Kd.string w A n ns) (hn : n ≤ 70) : Calls Try.prog 11 #[.slice A n c] w (NewAny w ns) := by
  obtain rfl : ns.length = n := hC.1
  by_cases h1 : 64 < ns.length
  · have hc : codeN ns = 3 := by unfold codeN; rw [if_pos h1]
    refine (new_long w A ns.length c h1 (by omega)).mono ?_
    rintro e w' ⟨rfl, rfl⟩
    exact .inl ⟨by rw [hc]; decide, by rw [hc], Below.refl _ _⟩
  · by_cases h2 : ∀ s ∈ ns, 1 ≤ s.size ∧ s.size ≤ 40
    · by_cases h3 : ns.Nodup
      · have hc : codeN ns = 0 := by unfold codeN; rw [if_neg h1, if_pos h2, if_pos h3]
        exact ((new_body w A ns.length c ns hC (by omega) h2).1 ((compact_nodup ns).2 h3)).mono fun e w' h => .inr ⟨hc, h⟩
      · have hc : codeN ns = 1 := by unfold codeN; rw [if_neg h1, if_pos h2, if_neg h3]
        refine ((new_body w A ns.length c ns hC (by omega) h2).2 (fun h => h3 ((compact_nodup ns).1 h))).mono ?_
        rintro e w' ⟨rfl, hb⟩
        exact .inl ⟨by rw [hc]; decide, by rw [hc], hb⟩
    · have hc : codeN ns = 4 := by unfold codeN; rw [if_neg h1, if_neg h2]
      refine (new_form w A ns.length c ns hC (by omega) h2).mono ?_
      rintro e w' ⟨rfl, rfl⟩
      exact .inl ⟨by rw [hc]; decide, by rw [hc], Below.refl _ _⟩
theorem rn_any (w : World) (A : Option Addr) (n c : Nat) (ns : List ByteArray) (hC : Kd.C Kd.string w A n ns) (hn : n ≤ 70) : Calls Try.prog 12 #[.slice A n c] w (RnAny w ns) := by
  obtain rfl : ns.length = n := hC.1
  by_cases h1 : 64 < ns.length
  · have hc : codeN ns = 3 := by unfold codeN; rw [if_pos h1]
    refine (rn_long w A ns.length c h1 (by omega)).mono ?_
    rintro e w' ⟨rfl, rfl⟩
    exact .inl ⟨by rw [hc]; decide, by rw [hc], Below.refl _ _⟩
  · by_cases h2 : ∀ s ∈ ns, 1 ≤ s.size ∧ s.size ≤ 40
    · refine (rn_good w A ns.length c ns hC (by omega) h2).mono ?_
      rintro e w' (⟨h3, v, rfl, ho, hb⟩ | ⟨h3, rfl, hb⟩)
      · have hc : codeN ns = 0 := by unfold codeN; rw [if_neg h1, if_pos h2, if_pos h3]
        exact .inr ⟨hc, v, rfl, ho, hb⟩
      · have hc : codeN ns = 1 := by unfold codeN; rw [if_neg h1, if_pos h2, if_neg h3]
        exact .inl ⟨by rw [hc]; decide, by rw [hc], hb⟩
    · have hc : codeN ns = 4 := by unfold codeN; rw [if_neg h1, if_neg h2]
      refine (rn_form w A ns.length c ns hC (by omega) h2).mono ?_
      rintro e w' ⟨rfl, rfl⟩
      exact .inl ⟨by rw [hc]; decide, by rw [hc], Below.refl _ _⟩
/-- Both are new. -/
theorem two_new {w0 w w1 w2 : World} {ns : List ByteArray} {g lb : Nat} {N : Option Addr} {cn : Nat} {v : Value} (hb : Below w0.heap.size w0 w) (hT : Tal w1 g lb N cn (sortN ns) (List.replicate ns.length 0)) (hg : w.heap.size ≤ g) (hl : w.heap.size ≤ lb) (hb1 : Below w.heap.size w w1)
    {w1' : World} (hb1' : Below w1.heap.size w1 w1') (ho : w2.ownsRow w1'.heap.size 41 2 v ns.length (flatC (zer (sortN ns)))) (hb2 : Below w1'.heap.size w1' w2) : Two w0 w2 g lb N cn v (sortN ns) (List.replicate ns.length 0) (List.replicate ns.length 0) := by
  have h1 : w0.heap.size ≤ w1'.heap.size := Nat.le_trans (Nat.le_trans hb.size hb1.size) hb1'.size
  have hT' := hT.below hb1'
  refine ⟨hT'.below hb2, ?_, ((hb.trans (hb1.mono hb.size)).trans (hb1'.mono (Nat.le_trans hb.size hb1.size))).trans (hb2.mono h1), Nat.le_trans hb.size hg, Nat.le_trans hb.size hl, ?_⟩
  · unfold RefL
    rw [← sortN_len, zer_cnt, zer_len, sortN_len]
    refine ⟨ho.1, ?_⟩
    rcases ho.2 with h2 | ⟨g', cap, cur, rfl, h3, h4⟩
    · exact .inl h2
    · exact .inr ⟨g', cap, cur, rfl, Nat.le_trans h1 h3, h4⟩
  · intro ad hN hp e
    have h2 := hT'.nlt ad hN hp
    have h3 := (ho.lt ad.block e.symm).1
    omega
theorem list_rows9 {ops : Array Oper} {rest : List Oper} {o : Oper} {a : Act} {Q : Exit → Act → World → Prop} {W : World} (base : Nat) (hgd : o.guard = none) (s x : Operand) (ho : o.op = .call { callee := .builtin .append, args := #[s, x], argTypes := #[22, 22] })
    (v : Value) (n : Nat) (xs : List Value) (hs : a.eval s = v) (hown : W.ownsRow base 9 1 v n xs) (A : Option Addr) (m c : Nat) (ns : List ByteArray) (hx : a.eval x = .slice A m c) (hr : Kd.C Kd.string W A m ns)
    (hn : n ≤ 1000) (hm : m ≤ 1000) (hbase : base ≤ W.heap.size)
    (h : ∀ v' w', w'.ownsRow base 9 1 v' (n + m) (xs ++ ns.map Value.string) → W.grownBy w' v.ownBlock → wpList Try.prog ops Q rest (a.put o.dst v') w') :
    wpList Try.prog ops Q (o :: rest) a W := by
  obtain ⟨i0, hi, hz0, hz1, hz2⟩ := info_parts PRf.info9
  obtain rfl : ns.length = m := hr.1
  have hrun : ∃ v' w', (Builtin.append_ #[22, 22] o.type #[v, .slice A ns.length c]).run Try.prog W = .ok v' w' ∧ w'.ownsRow base 9 1 v' (n + ns.length) (xs ++ ns.map Value.string) ∧ W.grownBy w' v.ownBlock := by
    cases A with
    | none =>
      have hm0 : ns = [] := by
        rcases Nat.eq_zero_or_pos ns.length with h0 | h0
        · exact List.eq_nil_of_length_eq_zero h0
        · obtain ⟨ad, e, _⟩ := strAt hr 0 h0
          cases e
      subst hm0
      refine ⟨v, W, ?_, by simpa using hown, World.grownBy.refl _ _⟩
      rcases hown.2 with ⟨rfl, rfl⟩ | ⟨g, cap, cur, rfl, _, _, hnc, _⟩
      · simp [Builtin.append_, run_underlying Try.underlying22, sizeOf, typeInfo, hi, Builtin.lenOf, Builtin.firstCells]
      · simp [Builtin.append_, run_underlying Try.underlying22, sizeOf, typeInfo, hi, Builtin.lenOf, Builtin.firstCells, hnc, storeCells]
    | some ad =>
      have hcells : ∀ j u, (ns.map Value.string)[j]? = some u → W.cell? (ad.add j) = some u := by
        intro j u hu
        have hj : j < ns.length := by
          have := (List.getElem?_eq_some_iff.1 hu).1
          simpa using this
        obtain ⟨ad', e, hx⟩ := strAt hr j hj
        cases e
        rw [hx, ← hu]
        simp [rdOf, hj]
      obtain ⟨v', w', hrun, h2, h3, _⟩ := run_append_own_at (P := Try.prog) W base 22 o.type 9 i0 _ 1 16 Try.underlying22 hi hz0 hz1 hz2 rfl (by decide) v n xs hown ad ns.length c (ns.map Value.string) (by simp) hcells (by intro u hu; obtain ⟨s, _, rfl⟩ := List.mem_map.1 hu; rfl) (by simp only [maxLen]; omega) (by omega) hbase
      exact ⟨v', w', hrun, h2, h3⟩
  obtain ⟨v', w', hrun, h2, h3⟩ := hrun
  refine wpList_plain hgd fun K hK => ?_
  unfold Oper.wp execOp
  simp only [ho, resolve, invoke, builtin, Sem.run_bind, Sem.run_pure, Result.andThen_ok, List.map_toArray, List.map_cons, List.map_nil, hs, hx, hrun]
  exact hK _ _ (h v' w' h2 h3)
theorem own9 (w : World) (base : Nat) (hb : base ≤ w.heap.size) : (w.alloc (.cells #[] 9)).ownsRow base 9 1 (.slice (some ⟨w.heap.size, 0, none⟩) 0 0) 0 [] :=
  World.ownsRow_lit (base := base) (e := 9) (size := 1) w #[] 0 hb (by simp only [maxLen]; omega) rfl
/-! ### the law: TallyPlays -/
theorem add_next (ad : Addr) (n j : Nat) (hj : 0 < j) : (⟨(ad.add n).block, (ad.add n).off + j, none⟩ : Addr) = ad.add (n + j) := by
  unfold Addr.add
  by_cases h : n = 0
  · subst h
    rw [if_pos rfl, if_neg (by omega), Nat.zero_add]
  · rw [if_neg h, if_neg (by omega)]
    simp [Nat.add_assoc]
theorem St.drew {w0 w : World} {tp : Option Addr} {v : Value} {L : List S41} (h : St w0 w tp v L) : St w0 w.drew tp v L := h.below (Below.drew (Below.refl _ _))
theorem st_take {w0 w : World} {tp : Option Addr} {A : Option Addr} {n c : Nat} {L : List S41} (h : St w0 w tp (.slice A n c) L) (q : Nat) : Kd.C k41 w A (min n q) (L.take q) := by
  have h1 := h.rd
  have h2 := C41_take h1.1 (min n q) (Nat.min_le_left _ _)
  have e : L.take (min n q) = L.take q := by
    rw [h1.2.2.2]
    rcases Nat.le_total L.length q with h3 | h3
    · rw [Nat.min_eq_left h3, List.take_length, List.take_of_length_le h3]
    · rw [Nat.min_eq_right h3]
  rwa [e] at h2
theorem Two.mine {w0 w w1 : World} {g lb : Nat} {N : Option Addr} {cn : Nat} {v : Value} {ns : List ByteArray} {xs ys : List Int} (h : Two w0 w g lb N cn v ns xs ys) {gm : Nat} {cs : Array Value} (hf : Fr (only gm) w w1) (hm : w.heap[gm]? = some (.cells cs 9 (0, 0))) (hN : ∀ ad, N = some ad → 0 < ns.length → ad.block ≠ gm) (hg : w0.heap.size ≤ gm) : Two w0 w1 g lb N cn v ns xs ys := by
  refine ⟨h.t.keep fun k o ho hor => (hf.block k (blk_lt ho) (fun e => ?_)).trans ho, own_fr h.r hf (fun b hb e => ?_), ((Fr.of_below (S := nothing) h.b).then_ hf (fun i hi => .inr (by rw [show i = gm from hi]; exact hg))).to_below (fun _ h => h.elim), h.g_, h.l_, h.nb⟩
  · have e' : k = gm := e
    subst e'
    rw [hm] at ho
    cases ho
    rcases hor with rfl | rfl | ⟨es, c, e⟩ | ⟨ad, hN', hpos, rfl⟩
    · obtain ⟨d, mo, hB, _⟩ := h.t.t
      rw [show w.heap[k]? = _ from hB] at hm
      simp at hm
    · rw [h.t.c] at hm
      simp at hm
    · cases e
    · exact hN ad hN' hpos rfl
  · have e' : b = gm := e
    subst e'
    exact own_ne h.r hm (by decide) hb
abbrev opK : Kd (Int × ByteArray × Int) := Kd.pair (Kd.int .u8) (Kd.pair Kd.string (Kd.int .u64))
theorem op_at {w : World} {B : Option Addr} {m : Nat} {ops : List (Int × ByteArray × Int)} (h : Kd.C opK w B m ops) (k : Nat) (hk : k < m) :
    ∃ ad a s y, B = some ad ∧ ops[k]? = some (a, s, y) ∧ w.cell? (ad.add (k * 3)) = some (.int .u8 a) ∧ w.cell? (ad.add (k * 3 + 1)) = some (.string s) ∧ w.cell? (ad.add (k * 3 + 2)) = some (.int .u64 y) := by
  obtain ⟨hl, _, hx⟩ := h
  obtain ⟨ad, rfl, hc⟩ := hx (by omega)
  have he : ops[k]? = some (ops[k]'(by omega)) := List.getElem?_eq_getElem (by omega)
  generalize ops[k]'(by omega) = q at he
  obtain ⟨a, s, y⟩ := q
  obtain ⟨cs, _, ⟨c0, c1, rfl, h0, c2, c3, rfl, h1, h2⟩, hcell⟩ := hc k (a, s, y) he
  have h0' : c0 = [Value.int .u8 a] := h0
  have h1' : c2 = [Value.string s] := h1
  have h2' : c3 = [Value.int .u64 y] := h2
  subst h0' h1' h2'
  exact ⟨ad, a, s, y, rfl, he, hcell 0 _ rfl, hcell 1 _ rfl, hcell 2 _ rfl⟩
set_option maxRecDepth 100000 in
set_option maxHeartbeats 8000000 in
theorem plays_good (w : World) (A : Option Addr) (n c : Nat) (l : List ByteArray) (B : Option Addr) (m cm : Nat) (ops : List (Int × ByteArray × Int)) (a3 : Int)
    (hC : Kd.C Kd.string w A n l) (hc : n ≤ c) (hl : n ≤ 8796093022208) (hH : Kd.C opK w B m ops) (hm : m ≤ 140737488351232) (h3 : 0 ≤ a3) (h3b : a3 < 256) (hops : ∀ q ∈ ops, 0 ≤ q.1) (hcode : codeN (fewN l) = 0) :
    Calls Try.prog 3 #[.slice A n c, .slice B m cm, .int .u8 a3] w fun e w' => e = .returned (.bool true) ∧ Below w.heap.size w w' := by
  obtain ⟨f1, f2⟩ := fewN_ok l
  have HF := Aside0.mk (And.intro f1 f2)
  have HC := Aside0.mk hC
  have HCC := Aside0.mk (And.intro hc hl)
  have HH := Aside0.mk hH
  have HOPS := Aside0.mk hops
  have HCODE := Aside0.mk hcode
  have HSN := Aside0.mk (sortN_len (fewN l))
  have HND := Aside0.mk (code0 hcode)
  obtain ⟨q, hq, hq1, hq5⟩ : ∃ q : Nat, (1 + a3 % 5 : Int) = (q : Int) ∧ 1 ≤ q ∧ q ≤ 5 := ⟨(1 + a3 % 5).toNat, by omega, by omega, by omega⟩
  clear hC hc hl hH f1 f2 hops hcode
  go_enter Try.func3, Try.ntmps3
  go_wp2_with (first | (go_at_call 9; go_must (refine (t_awake _).mono ?_; rintro e w1 ⟨rfl, hb1⟩; have HB1 := Aside0.mk hb1; clear hb1)) | (go_at_call 10; go_must (refine (t_few w1 A n c l (Kd.C_below HC.out HB1.out) HCC.out.1 HCC.out.2).mono ?_; rintro e w2 ⟨A2, c2, rfl, hc2, hC2, hb2⟩; have HC2 := Aside0.mk hC2; have HB2 := Aside0.mk (HB1.out.trans (hb2.mono HB1.out.size)); clear hc2 hC2 hb2)) | (at_builtin; go_must (refine list_rows9 w.heap.size rfl (.tmp 20) (.tmp 21) rfl (.slice (some ⟨w2.heap.size, 0, none⟩) 0 0) 0 [] rfl (own9 w2 _ HB2.out.size) A2 (fewN l).length c2 (fewN l) rfl (Kd.C_alloc HC2.out _) (by omega) (by have := HF.out.1; omega) (by have := HB2.out.size; simp; omega) ?_; intro v3 w3 ho3 hg3; simp only [Nat.zero_add, List.nil_append] at ho3; obtain ⟨A3, c3, rfl⟩ := own_slice ho3; have HO3 := Aside0.mk ho3; have HB23 := Aside0.mk (show Below w2.heap.size w2 w3 from Below.grown (below_alloc (Below.refl _ _) _) hg3 (by simp) (by intro q hq; simp [Value.ownBlock] at hq; omega)); have HB3 := Aside0.mk (HB2.out.trans (HB23.out.mono HB2.out.size)); clear ho3 hg3)) | (go_at_call 11; go_must (refine (new_any w3 A3 _ c3 (fewN l) (own_kd HO3.out rfl) HF.out.1).mono ?_; rintro e w4 hh; obtain ⟨g, lb, N, cn, rfl, hT4, hg4, hl4, hN4, hb4⟩ := (hh.resolve_left (fun h => h.1 HCODE.out)).2; have HT4 := Aside0.mk (And.intro hT4 (And.intro hg4 (And.intro hl4 (And.intro hN4 hb4)))); have HB4 := Aside0.mk (HB3.out.trans (hb4.mono HB3.out.size)); clear hT4 hg4 hl4 hN4 hb4 hh)) | (go_at_call 12; go_must (refine (rn_any w4 A2 _ c2 (fewN l) (Kd.C_below (Kd.C_below HC2.out HB23.out) HT4.out.2.2.2.2) HF.out.1).mono ?_; rintro e w5 hh; obtain ⟨v5, rfl, ho5, hb5⟩ := (hh.resolve_left (fun h => h.1 HCODE.out)).2; obtain ⟨A5, c5, rfl⟩ := own_slice ho5; have HT5 := Aside0.mk (two_new (w1' := w4) HB3.out HT4.out.1 HT4.out.2.1 HT4.out.2.2.1 HT4.out.2.2.2.2 (Below.refl _ _) ho5 hb5); have HO5 := Aside0.mk (show World.ownsRow w5 w.heap.size 9 1 (.slice A3 (fewN l).length c3) (fewN l).length ((fewN l).map Value.string) from own_fr (own_fr HO3.out (Fr.of_below (S := nothing) HT4.out.2.2.2.2) (fun _ _ h => h.elim)) (Fr.of_below (S := nothing) hb5) (fun _ _ h => h.elim)); clear ho5 hb5 hh)))
  have HNM := Aside0.mk (show ∀ ad, N = some ad → 0 < (sortN (fewN l)).length → some ad.block ≠ (Value.slice A3 (fewN l).length c3).ownBlock from fun ad hN _ e => by
    have h1 := (HO3.out.lt ad.block e.symm).2
    have h2 := HT4.out.2.2.2.1 ad hN
    omega)
  have h70 : (fewN l).length ≤ 70 := HF.out.1
  go_loopw [45, 12] (fun i _ wr => ∃ k : Nat, k ≤ (fewN l).length ∧ i = .int .i64 k ∧ (∃ cs, Aside0 (wr.ownsRow w.heap.size 9 1 (.slice A3 (fewN l).length c3) (fewN l).length cs)) ∧ Aside0 (Two w wr g lb N cn (.slice A5 (fewN l).length c5) (sortN (fewN l)) (List.replicate (fewN l).length 0) (List.replicate (fewN l).length 0))) (fun i _ _ => (fewN l).length - (intOf i).toNat)
  case atStart => exact ⟨0, Nat.zero_le _, rfl, ⟨_, HO5⟩, HT5⟩
  case round =>
    obtain ⟨k, hk, rfl, ⟨cs, HOk⟩, HK⟩ := hrel
    by_cases hlt : k < (fewN l).length
    · obtain ⟨gm, cap, cur, e, hb0, hbk, _⟩ := own_pos HOk.out (by omega)
      cases e
      have hk0 : (0 : Int) ≤ (k : Int) := Int.natCast_nonneg k
      have hk1 : (k : Int) < ((fewN l).length : Int) := Int.ofNat_lt.2 hlt
      have hcell : ∃ u, wr.cell? ⟨gm, k, none⟩ = some u := ⟨_, (HOk.out.cellAt k (by omega)).trans (List.getElem?_eq_getElem (by have := HOk.out.1; omega))⟩
      obtain ⟨u, hcell⟩ := hcell
      have hfz : wr.frozen? ⟨gm, k, none⟩ = false := by simp [World.frozen?, hbk]
      have HST := Aside0.mk (HOk.out.stored k (.string ⟨#[120]⟩))
      have HBK := Aside0.mk (And.intro hb0 hbk)
      clear hbk hb0
      go_wp2
      go_roundw
      case rel => exact ⟨k + 1, hlt, by go_num, ⟨_, ⟨HST.out.1⟩⟩, ⟨HK.out.mine ((Fr.refl (only gm) wr).setCell (p := ⟨gm, k, none⟩) (.inl rfl) _) HBK.out.2 (fun ad hN hp e => HNM.out ad hN hp (by rw [e]; rfl)) HBK.out.1⟩⟩
      case measure => simp [intOf]; omega
    · have HS0 := Aside0.mk (show ∃ L, St w wr (some ⟨g, 0, none⟩) (.slice A5 (fewN l).length c5) L from ⟨_, St.some g lb N cn (sortN (fewN l)) (List.replicate (fewN l).length 0) rfl HK.out (sortN_nodup HND.out.2) (by rw [HSN.out]; exact HND.out.1) rfl⟩)
      clear HK HOk
      go_wp2
      have hm64 : m ≤ 9223372036854775807 := by omega
      go_loopw [54] (fun i ws => ∃ k : Nat, k ≤ m ∧ i = .int .i64 k ∧ Aside0 (∃ L, St w ws (some ⟨g, 0, none⟩) (.slice A5 (fewN l).length c5) L)) (fun i _ => m - (intOf i).toNat)
      case atStart => exact ⟨0, Nat.zero_le _, rfl, HS0⟩
      case round =>
        obtain ⟨k, hk, rfl, ⟨L, hS⟩⟩ := hrel
        have HS := Aside0.mk hS
        clear hS
        have hk0 : (0 : Int) ≤ (k : Int) := Int.natCast_nonneg k
        by_cases hlt : k < m
        · obtain ⟨ad, a1, s1, y1, e, hq, x0, x1, x2⟩ := op_at (Kd.C_below HH.out HS.out.b) k hlt
          subst e
          rw [← add_next ad (k * 3) 1 (by omega)] at x1
          rw [← add_next ad (k * 3) 2 (by omega)] at x2
          have hk1 : (k : Int) < (m : Int) := Int.ofNat_lt.2 hlt
          have HA1 := Aside0.mk (show 0 ≤ a1 from HOPS.out (a1, s1, y1) (List.mem_of_getElem? hq))
          clear hq
          by_cases h40 : k < 40
          · go_wp2_with (first | (go_at_call 13; go_must (refine (st_do w _ _ _ L (HS.out.below (below_alloc (Below.refl _ _) _)) a1 s1 y1 HA1.out).mono ?_; rintro e wd ⟨rfl, L2, hS2⟩; have HS2 := Aside0.mk hS2; clear hS2)) | (go_at_call 15; go_must (refine (st_all w wd _ _ L2 HS2.out 1000 (by decide) (by decide)).mono ?_; rintro e wa ⟨Aa, ca, na, hna, rfl, hCa, hca, hSa⟩; have HSa := Aside0.mk hSa; have HCa := Aside0.mk (And.intro hCa (And.intro hca hna)); clear hSa hCa hca hna)) | (go_at_call 14; go_must (refine (same_any wa L2 (by have := HSa.out.rd.2.2.1; omega) Aa na ca _ _ _ (by have h := HCa.out.1; rwa [List.take_of_length_le (by have := HSa.out.rd.2.2.1; omega)] at h) HCa.out.2.1 HSa.out.rd.1 HSa.out.rd.2.1).mono ?_; rintro e wb ⟨rfl, hb⟩; have HSb := Aside0.mk (HSa.out.below hb); clear hb)))
            go_roundw
            case rel => exact ⟨k + 1, hlt, by go_num, ⟨_, HSb.out⟩⟩
            case measure => simp [intOf]; omega
          · have HSW := Aside0.mk (HS.out.below (below_alloc (Below.refl _ _) (.cells #[.int .u8 a1, .string s1, .int .u64 y1] 35)))
            clear HS
            have hrd := HSW.out.rd
            have hpn : min (fewN l).length q ≤ (fewN l).length := Nat.min_le_left _ _
            have hmin : min (((fewN l).length : Nat) : Int) (q : Int) = ((min (fewN l).length q : Nat) : Int) := by omega
            have hpc : ((min (fewN l).length q : Nat) : Int) ≤ ((c5 : Nat) : Int) := by have := hrd.2.1; omega
            have HRD := Aside0.mk hrd
            clear hrd
            go_wp2
            go_region_with (first | (go_at_call 15; go_must (refine (st_all w _ _ _ L HSW.out.drew q (by omega) (by omega)).mono ?_; rintro e wa ⟨Aa, ca, na, hna, rfl, hCa, hca, hSa⟩; have HSa := Aside0.mk hSa; have HCa := Aside0.mk (And.intro hCa (And.intro hca hna)); clear hSa hCa hca hna)) | (go_at_call 14; go_must (refine (same_any wa (L.take q) (by have := HRD.out.2.2.1; rw [List.length_take]; omega) Aa na ca _ _ _ HCa.out.1 HCa.out.2.1 (st_take HSa.out q) (by have := HSa.out.rd.2.1; omega)).mono ?_; rintro e wb ⟨rfl, hb⟩; have HSb := Aside0.mk (HSa.out.below hb); clear hb)))
            all_goals
              go_wp2
              go_ret
              exact ⟨rfl, HSb.out.b⟩
        · have HSW := Aside0.mk HS.out
          clear HS
          have hrd := HSW.out.rd
          have hpn : min (fewN l).length q ≤ (fewN l).length := Nat.min_le_left _ _
          have hmin : min (((fewN l).length : Nat) : Int) (q : Int) = ((min (fewN l).length q : Nat) : Int) := by omega
          have hpc : ((min (fewN l).length q : Nat) : Int) ≤ ((c5 : Nat) : Int) := by have := hrd.2.1; omega
          have HRD := Aside0.mk hrd
          clear hrd
          go_wp2
          go_region_with (first | (go_at_call 15; go_must (refine (st_all w _ _ _ L HSW.out.drew q (by omega) (by omega)).mono ?_; rintro e wa ⟨Aa, ca, na, hna, rfl, hCa, hca, hSa⟩; have HSa := Aside0.mk hSa; have HCa := Aside0.mk (And.intro hCa (And.intro hca hna)); clear hSa hCa hca hna)) | (go_at_call 14; go_must (refine (same_any wa (L.take q) (by have := HRD.out.2.2.1; rw [List.length_take]; omega) Aa na ca _ _ _ HCa.out.1 HCa.out.2.1 (st_take HSa.out q) (by have := HSa.out.rd.2.1; omega)).mono ?_; rintro e wb ⟨rfl, hb⟩; have HSb := Aside0.mk (HSa.out.below hb); clear hb)))
          all_goals
            go_wp2
            go_ret
            exact ⟨rfl, HSb.out.b⟩
set_option maxRecDepth 100000 in
set_option maxHeartbeats 8000000 in
theorem plays_bad (w : World) (A : Option Addr) (n c : Nat) (l : List ByteArray) (B : Option Addr) (m cm : Nat) (ops : List (Int × ByteArray × Int)) (a3 : Int)
    (hC : Kd.C Kd.string w A n l) (hc : n ≤ c) (hl : n ≤ 8796093022208) (hH : Kd.C opK w B m ops) (hm : m ≤ 140737488351232) (h3 : 0 ≤ a3) (h3b : a3 < 256) (hops : ∀ q ∈ ops, 0 ≤ q.1) (hcode : codeN (fewN l) ≠ 0) :
    Calls Try.prog 3 #[.slice A n c, .slice B m cm, .int .u8 a3] w fun e w' => e = .returned (.bool true) ∧ Below w.heap.size w w' := by
  obtain ⟨f1, f2⟩ := fewN_ok l
  have HF := Aside0.mk (And.intro f1 f2)
  have HC := Aside0.mk hC
  have HCC := Aside0.mk (And.intro hc hl)
  have HH := Aside0.mk hH
  have HOPS := Aside0.mk hops
  have HCODE := Aside0.mk hcode
  have HSN := Aside0.mk (sortN_len (fewN l))
  have hne : (codeN (fewN l) != 0) = true := bne_iff_ne.2 hcode
  have hnf : (codeN (fewN l) == 0) = false := beq_eq_false_iff_ne.2 hcode
  obtain ⟨q, hq, hq1, hq5⟩ : ∃ q : Nat, (1 + a3 % 5 : Int) = (q : Int) ∧ 1 ≤ q ∧ q ≤ 5 := ⟨(1 + a3 % 5).toNat, by omega, by omega, by omega⟩
  clear hC hc hl hH f1 f2 hops hcode
  go_enter Try.func3, Try.ntmps3
  go_wp2_with (first | (go_at_call 9; go_must (refine (t_awake _).mono ?_; rintro e w1 ⟨rfl, hb1⟩; have HB1 := Aside0.mk hb1; clear hb1)) | (go_at_call 10; go_must (refine (t_few w1 A n c l (Kd.C_below HC.out HB1.out) HCC.out.1 HCC.out.2).mono ?_; rintro e w2 ⟨A2, c2, rfl, hc2, hC2, hb2⟩; have HC2 := Aside0.mk hC2; have HB2 := Aside0.mk (HB1.out.trans (hb2.mono HB1.out.size)); clear hc2 hC2 hb2)) | (at_builtin; go_must (refine list_rows9 w.heap.size rfl (.tmp 20) (.tmp 21) rfl (.slice (some ⟨w2.heap.size, 0, none⟩) 0 0) 0 [] rfl (own9 w2 _ HB2.out.size) A2 (fewN l).length c2 (fewN l) rfl (Kd.C_alloc HC2.out _) (by omega) (by have := HF.out.1; omega) (by have := HB2.out.size; simp; omega) ?_; intro v3 w3 ho3 hg3; simp only [Nat.zero_add, List.nil_append] at ho3; obtain ⟨A3, c3, rfl⟩ := own_slice ho3; have HO3 := Aside0.mk ho3; have HB23 := Aside0.mk (show Below w2.heap.size w2 w3 from Below.grown (below_alloc (Below.refl _ _) _) hg3 (by simp) (by intro q hq; simp [Value.ownBlock] at hq; omega)); have HB3 := Aside0.mk (HB2.out.trans (HB23.out.mono HB2.out.size)); clear ho3 hg3)) | (go_at_call 11; go_must (refine (new_any w3 A3 _ c3 (fewN l) (own_kd HO3.out rfl) HF.out.1).mono ?_; rintro e w4 hh; obtain ⟨_, rfl, hb4⟩ := hh.resolve_right (fun h => HCODE.out h.1); have HB4 := Aside0.mk (HB3.out.trans (hb4.mono HB3.out.size)); have HB34 := Aside0.mk hb4; clear hb4 hh)) | (go_at_call 12; go_must (refine (rn_any w4 A2 _ c2 (fewN l) (Kd.C_below (Kd.C_below HC2.out HB23.out) HB34.out) HF.out.1).mono ?_; rintro e w5 hh; obtain ⟨_, rfl, hb5⟩ := hh.resolve_right (fun h => HCODE.out h.1); have HB5 := Aside0.mk (HB4.out.trans (hb5.mono HB4.out.size)); have HO5 := Aside0.mk (show World.ownsRow w5 w.heap.size 9 1 (.slice A3 (fewN l).length c3) (fewN l).length ((fewN l).map Value.string) from own_fr (own_fr HO3.out (Fr.of_below (S := nothing) HB34.out) (fun _ _ h => h.elim)) (Fr.of_below (S := nothing) hb5) (fun _ _ h => h.elim)); clear hb5 hh)))
  have h70 : (fewN l).length ≤ 70 := HF.out.1
  go_loopw [45, 12] (fun i _ wr => ∃ k : Nat, k ≤ (fewN l).length ∧ i = .int .i64 k ∧ (∃ cs, Aside0 (wr.ownsRow w.heap.size 9 1 (.slice A3 (fewN l).length c3) (fewN l).length cs)) ∧ Aside0 (Below w.heap.size w wr)) (fun i _ _ => (fewN l).length - (intOf i).toNat)
  case atStart => exact ⟨0, Nat.zero_le _, rfl, ⟨_, HO5⟩, HB5⟩
  case round =>
    obtain ⟨k, hk, rfl, ⟨cs, HOk⟩, HK⟩ := hrel
    by_cases hlt : k < (fewN l).length
    · obtain ⟨gm, cap, cur, e, hb0, hbk, _⟩ := own_pos HOk.out (by omega)
      cases e
      have hk0 : (0 : Int) ≤ (k : Int) := Int.natCast_nonneg k
      have hk1 : (k : Int) < ((fewN l).length : Int) := Int.ofNat_lt.2 hlt
      have hcell : ∃ u, wr.cell? ⟨gm, k, none⟩ = some u := ⟨_, (HOk.out.cellAt k (by omega)).trans (List.getElem?_eq_getElem (by have := HOk.out.1; omega))⟩
      obtain ⟨u, hcell⟩ := hcell
      have hfz : wr.frozen? ⟨gm, k, none⟩ = false := by simp [World.frozen?, hbk]
      have HST := Aside0.mk (HOk.out.stored k (.string ⟨#[120]⟩))
      have HBK := Aside0.mk (And.intro hb0 hbk)
      clear hbk hb0
      go_wp2
      go_roundw
      case rel => exact ⟨k + 1, hlt, by go_num, ⟨_, ⟨HST.out.1⟩⟩, ⟨HK.out.setCell (p := ⟨gm, k, none⟩) HBK.out.1 _⟩⟩
      case measure => simp [intOf]; omega
    · have HS0 := Aside0.mk (show ∃ L, St w wr none (.slice none 0 0) L from ⟨_, St.none rfl rfl rfl HK.out⟩)
      clear HK HOk
      go_wp2
      have hm64 : m ≤ 9223372036854775807 := by omega
      go_loopw [54] (fun i ws => ∃ k : Nat, k ≤ m ∧ i = .int .i64 k ∧ Aside0 (∃ L, St w ws none (.slice none 0 0) L)) (fun i _ => m - (intOf i).toNat)
      case atStart => exact ⟨0, Nat.zero_le _, rfl, HS0⟩
      case round =>
        obtain ⟨k, hk, rfl, ⟨L, hS⟩⟩ := hrel
        have HS := Aside0.mk hS
        clear hS
        have hk0 : (0 : Int) ≤ (k : Int) := Int.natCast_nonneg k
        by_cases hlt : k < m
        · obtain ⟨ad, a1, s1, y1, e, hq, x0, x1, x2⟩ := op_at (Kd.C_below HH.out HS.out.b) k hlt
          subst e
          rw [← add_next ad (k * 3) 1 (by omega)] at x1
          rw [← add_next ad (k * 3) 2 (by omega)] at x2
          have hk1 : (k : Int) < (m : Int) := Int.ofNat_lt.2 hlt
          have HA1 := Aside0.mk (show 0 ≤ a1 from HOPS.out (a1, s1, y1) (List.mem_of_getElem? hq))
          clear hq
          by_cases h40 : k < 40
          · go_wp2_with (first | (go_at_call 13; go_must (refine (st_do w _ _ _ L (HS.out.below (below_alloc (Below.refl _ _) _)) a1 s1 y1 HA1.out).mono ?_; rintro e wd ⟨rfl, L2, hS2⟩; have HS2 := Aside0.mk hS2; clear hS2)) | (go_at_call 15; go_must (refine (st_all w wd _ _ L2 HS2.out 1000 (by decide) (by decide)).mono ?_; rintro e wa ⟨Aa, ca, na, hna, rfl, hCa, hca, hSa⟩; have HSa := Aside0.mk hSa; have HCa := Aside0.mk (And.intro hCa (And.intro hca hna)); clear hSa hCa hca hna)) | (go_at_call 14; go_must (refine (same_any wa L2 (by have := HSa.out.rd.2.2.1; omega) Aa na ca _ _ _ (by have h := HCa.out.1; rwa [List.take_of_length_le (by have := HSa.out.rd.2.2.1; omega)] at h) HCa.out.2.1 HSa.out.rd.1 HSa.out.rd.2.1).mono ?_; rintro e wb ⟨rfl, hb⟩; have HSb := Aside0.mk (HSa.out.below hb); clear hb)))
            go_roundw
            case rel => exact ⟨k + 1, hlt, by go_num, ⟨_, HSb.out⟩⟩
            case measure => simp [intOf]; omega
          · have HSW := Aside0.mk (HS.out.below (below_alloc (Below.refl _ _) (.cells #[.int .u8 a1, .string s1, .int .u64 y1] 35)))
            clear HS
            have hrd := HSW.out.rd
            have hmin : min (0 : Int) (q : Int) = 0 := by omega
            have HRD := Aside0.mk hrd
            clear hrd
            go_wp2
            go_region_with (first | (go_at_call 15; go_must (refine (st_all w _ _ _ L HSW.out.drew q (by omega) (by omega)).mono ?_; rintro e wa ⟨Aa, ca, na, hna, rfl, hCa, hca, hSa⟩; have HSa := Aside0.mk hSa; have HCa := Aside0.mk (And.intro hCa (And.intro hca hna)); clear hSa hCa hca hna)) | (go_at_call 14; go_must (refine (same_any wa (L.take q) (by have := HRD.out.2.2.1; rw [List.length_take]; omega) Aa na ca _ _ _ HCa.out.1 HCa.out.2.1 (st_take HSa.out q) (by have := HSa.out.rd.2.1; omega)).mono ?_; rintro e wb ⟨rfl, hb⟩; have HSb := Aside0.mk (HSa.out.below hb); clear hb)))
            all_goals
              go_wp2
              go_ret
              exact ⟨rfl, HSb.out.b⟩
        · have HSW := Aside0.mk HS.out
          clear HS
          have hrd := HSW.out.rd
          have hmin : min (0 : Int) (q : Int) = 0 := by omega
          have HRD := Aside0.mk hrd
          clear hrd
          go_wp2
          go_region_with (first | (go_at_call 15; go_must (refine (st_all w _ _ _ L HSW.out.drew q (by omega) (by omega)).mono ?_; rintro e wa ⟨Aa, ca, na, hna, rfl, hCa, hca, hSa⟩; have HSa := Aside0.mk hSa; have HCa := Aside0.mk (And.intro hCa (And.intro hca hna)); clear hSa hCa hca hna)) | (go_at_call 14; go_must (refine (same_any wa (L.take q) (by have := HRD.out.2.2.1; rw [List.length_take]; omega) Aa na ca _ _ _ HCa.out.1 HCa.out.2.1 (st_take HSa.out q) (by have := HSa.out.rd.2.1; omega)).mono ?_; rintro e wb ⟨rfl, hb⟩; have HSb := Aside0.mk (HSa.out.below hb); clear hb)))
          all_goals
            go_wp2
            go_ret
            exact ⟨rfl, HSb.out.b⟩
end Go.Proofs.Ytclpkbgjaiacpaa
