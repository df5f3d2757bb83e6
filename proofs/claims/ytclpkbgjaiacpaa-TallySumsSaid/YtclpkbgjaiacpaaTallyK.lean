/- What is proved: Sum; Reset. Conditions: those that each theorem states. -/
import Derived.Test.YtclpkbgjaiacpaaTallyJ
import Derived.Test.YtclpkbgjaiacpaaRangeR
import Derived.Test.YtclpkbgjaiacpaaPRfx2
import Derived.WalkSpells
import Derived.Deep.DeepMust
import Derived.Deep.RegionHeld3
import Derived.StillTactics
import Derived.RangeFuncBox
import Derived.RangeFuncLeaves
import Derived.RangeFuncNested
import Derived.RangeFuncCalls
import Derived.Shelf.Abstract
import Derived.OwnWalkIn
import Derived.TacticsInMore
import Derived.LoopNIn
import Derived.LoopIn
import Derived.Maps.AppendAt
namespace Go.Proofs.Ytclpkbgjaiacpaa
open Go.RowKit Go.Proofs.YtclpkbgjaiacpaaW.PrintWords Go.Proofs.YtclpkbgjaiacpaaW.PrintLast Go.Proofs.YtclpkbgjaiacpaaW.PrintMore
open Go.Proofs.Ytclpkbgjaiacpaa.PRf
set_option linter.unusedVariables false
set_option linter.unusedSimpArgs false
/-! ### Sum -/
def findN (ns : List ByteArray) (s : ByteArray) : Option Nat := ns.findIdx? (fun t => decide (t = s))
def addN (ns : List ByteArray) (xs : List Int) (s : ByteArray) (y : Int) : List Int := match findN ns s with
  | some i => xs.set i (IntKind.u64.wrap (rd xs (i : Int) + y))
  | none => xs
theorem find_at {ns : List ByteArray} (hn : ns.Nodup) {s : ByteArray} {i : Nat} (h : findN ns s = some i) : At ns s i := by
  obtain ⟨hi, h1, _⟩ := List.findIdx?_eq_some_iff_getElem.1 h
  have e : rdOf ByteArray.empty ns (i : Int) = s := by simpa [rdOf, hi] using h1
  have h2 := at_self hn i hi
  rw [e] at h2
  exact h2
theorem find_not {ns : List ByteArray} {s : ByteArray} (h : findN ns s = none) : NotAt ns s := by
  refine notAt_of fun hm => ?_
  have h1 := List.findIdx?_eq_none_iff.1 h s hm
  simp at h1
section
variable (w : World) (g lb : Nat) (N : Option Addr) (cn : Nat) (ns : List ByteArray) (xs : List Int) (s : ByteArray)
theorem t_addW (hT : Tal w g lb N cn ns xs) (hnd : ns.Nodup) (hs : s.size ≤ 1000) (y : Int) : Calls Try.prog 20 #[.pointer (some ⟨g, 0, none⟩), .string s, .int .u64 y] w fun e w' => e = .returned (.bool (findN ns s).isSome) ∧ Tal w' g lb N cn ns (addN ns xs s y) ∧ Fr (fun i => i = g ∨ i = lb) w w' := by
  cases h : findN ns s with
  | none => simpa [addN, h] using t_add_not w g lb N cn ns xs s hT hs y (find_not h)
  | some i => simpa [addN, h] using t_add w g lb N cn ns xs s hT hs y i (find_at hnd h)
theorem t_counterW (hT : Tal w g lb N cn ns xs) (hnd : ns.Nodup) (hs : s.size ≤ 1000) : Calls Try.prog 49 #[.pointer (some ⟨g, 0, none⟩), .string s] w fun e w' => e = .returned (.pointer ((findN ns s).map fun i => ⟨lb, i, none⟩)) ∧ Tal w' g lb N cn ns xs ∧ Fr (only g) w w' := by
  refine t_counter w g lb N cn ns xs hT s hs _ ?_
  cases h : findN ns s with
  | none => exact .inl ⟨find_not h, rfl⟩
  | some i => exact .inr ⟨i, find_at hnd h, rfl⟩
end
/-- Two tallies lie apart. -/
structure Apart (ga la : Nat) (Na : Option Addr) (nsa : List ByteArray) (gb lb : Nat) (Nb : Option Addr) (nsb : List ByteArray) : Prop where
  gg : ga ≠ gb
  gl : ga ≠ lb
  lg : la ≠ gb
  ll : la ≠ lb
  b : ∀ ad, Nb = some ad → 0 < nsb.length → ad.block ≠ ga ∧ ad.block ≠ la
  a : ∀ ad, Na = some ad → 0 < nsa.length → ad.block ≠ gb ∧ ad.block ≠ lb
theorem Apart.symm {ga la : Nat} {Na : Option Addr} {nsa : List ByteArray} {gb lb : Nat} {Nb : Option Addr} {nsb : List ByteArray} (h : Apart ga la Na nsa gb lb Nb nsb) : Apart gb lb Nb nsb ga la Na nsa :=
  ⟨fun e => h.gg e.symm, fun e => h.lg e.symm, fun e => h.gl e.symm, fun e => h.ll e.symm, h.a, h.b⟩
theorem Tal.other {w w' : World} {ga la gb lb : Nat} {Na Nb : Option Addr} {ca cb : Nat} {nsa nsb : List ByteArray} {xa xb : List Int} (ha : Tal w ga la Na ca nsa xa) (hb : Tal w gb lb Nb cb nsb xb) (hp : Apart ga la Na nsa gb lb Nb nsb) (hf : Fr (fun i => i = ga ∨ i = la) w w') : Tal w' gb lb Nb cb nsb xb := by
  obtain ⟨d, mo, hB, _⟩ := ha.t
  refine hb.keep fun k o ho hor => (hf.block k (blk_lt ho) (fun e => ?_)).trans ho
  rcases hor with rfl | rfl | ⟨es, c, rfl⟩ | ⟨ad, hN, hpos, rfl⟩
  · rcases e with e | e
    · exact hp.gg e.symm
    · exact hp.lg e.symm
  · rcases e with e | e
    · exact hp.gl e.symm
    · exact hp.ll e.symm
  · rcases e with rfl | rfl
    · rw [show w.heap[k]? = _ from hB] at ho
      cases ho
    · rw [ha.c] at ho
      cases ho
  · rcases e with e | e
    · exact (hp.b ad hN hpos).1 e
    · exact (hp.b ad hN hpos).2 e
theorem Fr.left {g l : Nat} {w w' : World} (h : Fr (only g) w w') : Fr (fun i => i = g ∨ i = l) w w' := h.mono (fun i hi => .inl hi)
/-- What the round of Sum keeps. -/
def KpS (ga la : Nat) (A A' : World) : Prop := A.heap.size ≤ A'.heap.size ∧ ∀ k o, A.heap[k]? = some o → (k = ga ∨ k = la → o.isCells = false) → (∀ r, o ≠ .loop r) → A'.heap[k]? = some o
theorem KpS.trans {ga la : Nat} {A B C : World} (h : KpS ga la A B) (k : KpS ga la B C) : KpS ga la A C := ⟨Nat.le_trans h.1 k.1, fun i o hi h1 h2 => k.2 i o (h.2 i o hi h1 h2) h1 h2⟩
theorem KpS.putLoop {ga la : Nat} (W : World) (l : Nat) (r : Loop) (o' : Obj) (h : W.heap[l]? = some (.loop r)) : KpS ga la W (W.putObj l o') :=
  ⟨by simp, fun k o hk _ ho => by
    by_cases e : k = l
    · subst e
      rw [h] at hk
      cases hk
      exact absurd rfl (ho r)
    · exact (World.putObj_heap_other e).trans hk⟩
theorem KpS.of_fr {ga la : Nat} {N : Option Addr} {cn : Nat} {ns : List ByteArray} {xs : List Int} {A A' : World} (hT : Tal A ga la N cn ns xs) (h : Fr (fun i => i = ga ∨ i = la) A A') : KpS ga la A A' := by
  obtain ⟨d, mo, hB, _⟩ := hT.t
  refine ⟨h.size, fun k o hk h1 _ => (h.block k (blk_lt hk) (fun e => ?_)).trans hk⟩
  have h2 := h1 e
  rcases e with rfl | rfl
  · rw [show A.heap[k]? = _ from hB] at hk
    cases hk
    cases h2
  · rw [hT.c] at hk
    cases hk
    cases h2
theorem KpS.ok {ga la gb lb : Nat} {Na Nb : Option Addr} {cb : Nat} {nsa nsb : List ByteArray} {xb : List Int} {B : Nat} (hp : Apart ga la Na nsa gb lb Nb nsb) (hBa : B ≠ ga) (hBl : B ≠ la) (base : Nat) (h1 : ga < base) (h2 : la < base) : KpOk (KpS ga la) gb lb Nb cb nsb xb B base where
  tal A A' hk hT := by
    obtain ⟨d, mo, hB, _⟩ := hT.t
    refine hT.keep fun k o ho hor => hk.2 k o ho (fun e => ?_) (fun r e => ?_)
    · rcases hor with rfl | rfl | ⟨es, c, rfl⟩ | ⟨ad, hN, hpos, rfl⟩
      · rcases e with e | e
        · exact absurd e.symm hp.gg
        · exact absurd e.symm hp.lg
      · rcases e with e | e
        · exact absurd e.symm hp.gl
        · exact absurd e.symm hp.ll
      · rfl
      · rcases e with e | e
        · exact absurd e (hp.b ad hN hpos).1
        · exact absurd e (hp.b ad hN hpos).2
    · subst e
      rcases hor with rfl | rfl | ⟨es, c, e⟩ | ⟨ad, hN, hpos, rfl⟩
      · rw [show A.heap[k]? = _ from hB] at ho
        cases ho
      · rw [hT.c] at ho
        cases ho
      · cases e
      · obtain ⟨ad', e, hx⟩ := strAt hT.n 0 hpos
        rw [hN] at e
        cases e
        obtain ⟨o2, h3, h4⟩ := cells_of_cell (show A.cell? ad = _ from hx)
        rw [ho] at h3
        cases h3
        cases h4
  box A A' v hk hc := hk.2 B _ hc (fun e => e.elim (fun h => absurd h hBa) (fun h => absurd h hBl)) (fun _ e => by cases e)
  row A A' b v m l hk hb ho := by
    refine ⟨ho.1, ?_⟩
    rcases ho.2 with h3 | ⟨g', cap, cur, rfl, h3, h4, h5⟩
    · exact .inl h3
    · exact .inr ⟨g', cap, cur, rfl, h3, hk.2 _ _ h4 (fun e => by omega) (fun _ e => (by cases e)), h5⟩
def sumL (nsa : List ByteArray) (xa : List Int) (l : List (ByteArray × Int)) : List Int := l.foldl (fun xs x => addN nsa xs x.1 x.2) xa
theorem sumL_snoc (nsa : List ByteArray) (xa : List Int) (l : List (ByteArray × Int)) (x : ByteArray × Int) : sumL nsa xa (l ++ [x]) = addN nsa (sumL nsa xa l) x.1 x.2 := by simp [sumL]
def fitsB (nsa nsb : List ByteArray) : Bool := nsb.all fun s => (findN nsa s).isSome
/-- What Sum owes at its end. -/
structure SumEnd (w w' : World) (ga la : Nat) (Na : Option Addr) (ca : Nat) (nsa : List ByteArray) (xa : List Int) (gb lb : Nat) (Nb : Option Addr) (cb : Nat) (nsb : List ByteArray) (xb : List Int) : Prop where
  a : Tal w' ga la Na ca nsa xa
  b : Tal w' gb lb Nb cb nsb xb
  f : Fr (fun i => i = ga ∨ i = la ∨ i = gb) w w'
theorem boxed_put {W : World} {B : Nat} {t : TypeId} {v : Value} (h : Boxed W B t v) {l : Nat} {o : Obj} (o' : Obj) (hl : W.heap[l]? = some o) (ho : o.isCells = false) : Boxed (W.putObj l o') B t v :=
  (World.putObj_heap_other (fun e => by
    subst e
    rw [show W.heap[B]? = _ from h] at hl
    cases hl
    cases ho)).trans h
theorem Fr.putO {S : Nat → Prop} {w w1 : World} (h : Fr S w w1) {l : Nat} (o' : Obj) (hl : w.heap.size ≤ l) : Fr S w (w1.putObj l o') :=
  h.then_ (S' := fun i => i = l) ⟨rfl, rfl, rfl, by simp, fun k _ hn => World.putObj_heap_other hn⟩ (fun i hi => .inr (by omega))
theorem KeepsFrom.of_fr {g l B : Nat} {W W' : World} (h : Fr (fun i => i = g ∨ i = l) W W') (hg : g < B) (hl : l < B) : KeepsFrom B W W' :=
  ⟨h.size, fun k o hk ho _ => (h.block k (blk_lt ho) (fun e => by omega)).trans ho⟩
theorem Tal.other1 {w w' : World} {ga la gb lb : Nat} {Na Nb : Option Addr} {ca : Nat} {nsa nsb : List ByteArray} {xa : List Int} {cs : Array Value} (ha : Tal w ga la Na ca nsa xa) (hf : Fr (only gb) w w') (hcs : w.heap[gb]? = some (.cells cs 102 (0, 0))) (hp : Apart ga la Na nsa gb lb Nb nsb) : Tal w' ga la Na ca nsa xa := by
  refine ha.keep fun k o ho hor => (hf.block k (blk_lt ho) (fun e => ?_)).trans ho
  have e' : k = gb := e
  rcases hor with rfl | rfl | ⟨es, c, rfl⟩ | ⟨ad, hN, hpos, rfl⟩
  · exact hp.gg e'
  · exact hp.lg e'
  · subst e'
    rw [hcs] at ho
    cases ho
  · exact (hp.a ad hN hpos).1 e'
def SumPost (w : World) (ga la : Nat) (Na : Option Addr) (ca : Nat) (nsa : List ByteArray) (xa : List Int) (gb lb : Nat) (Nb : Option Addr) (cb : Nat) (nsb : List ByteArray) (xb : List Int) (e : Ending) (w' : World) : Prop :=
  e = .returned (.bool (fitsB nsa nsb)) ∧ SumEnd w w' ga la Na ca nsa (if fitsB nsa nsb then sumL nsa xa (cntL nsb xb) else xa) gb lb Nb cb nsb xb
theorem SumPost.mk_true {w : World} {ga la : Nat} {Na : Option Addr} {ca : Nat} {nsa : List ByteArray} {xa : List Int} {gb lb : Nat} {Nb : Option Addr} {cb : Nat} {nsb : List ByteArray} {xb : List Int} {e : Ending} {w' : World} (hf : fitsB nsa nsb = true) (he : e = .returned (.bool true)) (h : SumEnd w w' ga la Na ca nsa (sumL nsa xa (cntL nsb xb)) gb lb Nb cb nsb xb) : SumPost w ga la Na ca nsa xa gb lb Nb cb nsb xb e w' := by
  unfold SumPost
  rw [hf]
  exact ⟨he, h⟩
theorem SumPost.mk_false {w : World} {ga la : Nat} {Na : Option Addr} {ca : Nat} {nsa : List ByteArray} {xa : List Int} {gb lb : Nat} {Nb : Option Addr} {cb : Nat} {nsb : List ByteArray} {xb : List Int} {e : Ending} {w' : World} (hf : fitsB nsa nsb = false) (he : e = .returned (.bool false)) (h : SumEnd w w' ga la Na ca nsa xa gb lb Nb cb nsb xb) : SumPost w ga la Na ca nsa xa gb lb Nb cb nsb xb e w' := by
  unfold SumPost
  rw [hf]
  exact ⟨he, h⟩
section iter
attribute [local go_sem] Oper.semAt_some
open Go.Shelf
set_option maxRecDepth 100000 in
set_option maxHeartbeats 4000000 in
theorem sum_in (n : Nat) (hn : 3 ≤ n) (w : World) (ga la : Nat) (Na : Option Addr) (ca : Nat) (nsa : List ByteArray) (xa : List Int) (gb lb : Nat) (Nb : Option Addr) (cb : Nat) (nsb : List ByteArray) (xb : List Int)
    (hTa : Tal w ga la Na ca nsa xa) (hTb : Tal w gb lb Nb cb nsb xb) (hp : Apart ga la Na nsa gb lb Nb nsb) (hnda : nsa.Nodup) (hndb : nsb.Nodup) :
    CallsIn Fence.wide n Try.prog 17 #[.pointer (some ⟨ga, 0, none⟩), .pointer (some ⟨gb, 0, none⟩)] w (SumPost w ga la Na ca nsa xa gb lb Nb cb nsb xb) := by
  have h1 : 1 ≤ n := by omega
  have hro : Fence.wide.round = none := rfl
  have h48 : Fence.wide.fn 48 := trivial
  have h24 : Fence.wide.fn 24 := trivial
  have h49 : Fence.wide.fn 49 := trivial
  have hltA := hTa.glt
  have hltB := hTb.glt
  have HA0 := Aside0.mk hTa
  have HB0 := Aside0.mk hTb
  have HP := Aside0.mk hp
  have HNA := Aside0.mk hnda
  have HNB := Aside0.mk hndb
  have hn1000 : nsb.length ≤ 1000 := hTb.few
  have b0 : Boxed (w.alloc (.cells #[.pointer (some ⟨ga, 0, none⟩)] 26)) w.heap.size 26 (.pointer (some ⟨ga, 0, none⟩)) := Boxed.new w 26 _
  have HBX := Aside0.mk b0
  clear hTa hTb hp hnda hndb b0
  refine callsIn_of_wp_marks Try.func17 rfl trivial ?_ hro
  simp only [Try.ntmps17, List.size_toArray, List.length_cons, List.length_nil, Nat.reduceAdd, Nat.reduceSub, Array.replicate_succ, Array.replicate_zero, List.push_toArray, List.append_toArray, List.nil_append, List.cons_append]
  gi_wp2_with (gi_at_call 24; refine (callsIn_wide.2 (namesO _ gb lb Nb cb nsb xb (HB0.out.below (below_alloc (Below.refl _ _) _)))).mono ?_; rintro e w1 ⟨v, rfl, ho, hb⟩; obtain ⟨A1, c1, rfl⟩ := own_slice ho; have HO := Aside0.mk ho; have HB1 := Aside0.mk (show Below w.heap.size w w1 from (below_alloc (Below.refl _ _) _).trans (hb.mono (by simp))); have HX1 := Aside0.mk (show Boxed w1 w.heap.size 26 (.pointer (some ⟨ga, 0, none⟩)) from (hb.block _ (by simp)).trans HBX.out); clear ho hb)
  gi_loopw [12] (fun i wr => ∃ k : Nat, k ≤ nsb.length ∧ i = .int .i64 k ∧ Aside0 (SumEnd w wr ga la Na ca nsa xa gb lb Nb cb nsb xb) ∧ Aside0 (wr.ownsRow (w.alloc (.cells #[.pointer (some ⟨ga, 0, none⟩)] 26)).heap.size 9 1 (.slice A1 nsb.length c1) nsb.length (nsb.map Value.string)) ∧ Aside0 (Boxed wr w.heap.size 26 (.pointer (some ⟨ga, 0, none⟩))) ∧ Aside0 (∀ j : Nat, j < k → (findN nsa (rdOf ByteArray.empty nsb (j : Int))).isSome = true))
    (fun i _ => nsb.length - (intOf i).toNat)
  case atStart => exact ⟨0, Nat.zero_le _, rfl, ⟨HA0.out.below HB1.out, HB0.out.below HB1.out, Fr.of_below HB1.out⟩, HO, HX1, ⟨fun j hj => absurd hj (Nat.not_lt_zero _)⟩⟩
  case round =>
    obtain ⟨k, hk, rfl, hE, hO, hX, hJ⟩ := hrel
    have hbx := hX.out.cell
    by_cases hlt : k < nsb.length
    · obtain ⟨ad, e, hx⟩ := strAt (own_kd hO.out rfl) k hlt
      subst e
      have hk0 : (0 : Int) ≤ (k : Int) := Int.natCast_nonneg k
      have hk1 : (k : Int) < (nsb.length : Int) := Int.ofNat_lt.2 hlt
      have HSZ := Aside0.mk (show (rdOf ByteArray.empty nsb (k : Int)).size ≤ 1000 from hE.out.b.size _ (by simp [rdOf, hlt]))
      have HC := Aside0.mk (t_counterW wr ga la Na ca nsa xa (rdOf ByteArray.empty nsb (k : Int)) hE.out.a HNA.out HSZ.out)
      cases hf : findN nsa (rdOf ByteArray.empty nsb (k : Int)) with
      | none =>
        have HC2 := HC.out
        rw [hf] at HC2
        simp only [Option.map_none, Option.map_some] at HC2
        have HC3 := Aside0.mk HC2
        have HF := Aside0.mk hf
        clear HC HC2 hf
        gi_wp2_with (gi_at_call 49; refine (callsIn_wide.2 HC3.out).mono ?_; rintro e w2 ⟨rfl, hT2, hf2⟩; have HT2 := Aside0.mk hT2; have HF2 := Aside0.mk hf2; clear hT2 hf2)
        have hfalse : fitsB nsa nsb = false := by
          unfold fitsB
          rw [List.all_eq_false]
          exact ⟨rdOf ByteArray.empty nsb (k : Int), by simp [rdOf, hlt], by rw [HF.out]; simp⟩
        exact ⟨_, results_tmp rfl _ _ _, SumPost.mk_false hfalse rfl ⟨HT2.out, hE.out.a.other hE.out.b HP.out HF2.out.left, hE.out.f.then_ HF2.out (fun i hi => .inl (.inl hi))⟩⟩
      | some i =>
        have HC2 := HC.out
        rw [hf] at HC2
        simp only [Option.map_none, Option.map_some] at HC2
        have HC3 := Aside0.mk HC2
        have HF := Aside0.mk hf
        clear HC HC2 hf
        gi_wp2_with (gi_at_call 49; refine (callsIn_wide.2 HC3.out).mono ?_; rintro e w2 ⟨rfl, hT2, hf2⟩; have HT2 := Aside0.mk hT2; have HF2 := Aside0.mk hf2; clear hT2 hf2)
        go_roundw
        case rel =>
          refine ⟨k + 1, hlt, by go_num, ⟨HT2.out, hE.out.a.other hE.out.b HP.out HF2.out.left, hE.out.f.then_ HF2.out (fun i hi => .inl (.inl hi))⟩, ⟨own_fr hO.out HF2.out (fun b hb h => own_neT hO.out hE.out.a (hb.trans (congrArg some h)))⟩, ⟨(HF2.out.block _ hX.out.lt (fun e => by have e' : w.heap.size = ga := e; omega)).trans hX.out⟩, ⟨fun j hj => ?_⟩⟩
          rcases Nat.lt_or_ge j k with h | h
          · exact hJ.out j h
          · have e : j = k := by omega
            subst e
            rw [HF.out]
            rfl
        case measure => simp [intOf]; omega
    · have hke : k = nsb.length := by omega
      gi_wp2_with (gi_at_call 48; refine (t_all_in Fence.wide _ h48 hro _ (some ⟨gb, 0, none⟩)).mono ?_; rintro e w1 ⟨rfl, rfl⟩)
      have hfit : fitsB nsa nsb = true := by
        unfold fitsB
        rw [List.all_eq_true]
        intro s hs
        obtain ⟨j, hj, rfl⟩ := List.getElem_of_mem hs
        have h := hJ.out j (by omega)
        simpa [rdOf, hj] using h
      have HFIT := Aside0.mk hfit
      have hsr : w.heap.size < wr.heap.size := hX.out.lt
      have bB : Boxed (wr.alloc (.cells #[.pointer (some ⟨gb, 0, none⟩)] 26)) wr.heap.size 26 (.pointer (some ⟨gb, 0, none⟩)) := Boxed.new wr 26 _
      have bA : Boxed (wr.alloc (.cells #[.pointer (some ⟨gb, 0, none⟩)] 26)) w.heap.size 26 (.pointer (some ⟨ga, 0, none⟩)) := hX.out.alloc _
      have hEa := hE.out.a.below (below_alloc (Below.refl _ wr) (.cells #[.pointer (some ⟨gb, 0, none⟩)] 26))
      have hEb := hE.out.b.below (below_alloc (Below.refl _ wr) (.cells #[.pointer (some ⟨gb, 0, none⟩)] 26))
      have hEf := hE.out.f.alloc (.cells #[.pointer (some ⟨gb, 0, none⟩)] 26)
      clear hke hJ hO hfit hbx
      obtain ⟨W0, hW0⟩ : ∃ W0, W0 = wr.alloc (.cells #[.pointer (some ⟨gb, 0, none⟩)] 26) := ⟨_, rfl⟩
      have hs0 : W0.heap.size = wr.heap.size + 1 := by rw [hW0]; simp
      rw [← hW0] at bB bA hEa hEb hEf ⊢
      refine wpIn_rangeR hro h1 (gf := 68) (lb := #[.pointer (some ⟨wr.heap.size, 0, none⟩)]) rfl trivial (enters_of Try.func68 (by kernel_rfl) rfl) (encs := fun x : ByteArray × Int => #[.string x.1, .int .u64 x.2]) (Cl := FrT gb) (Kp := KpS ga la)
        (S := fun ys W => ys = cntL nsb xb ∧ Tal W gb lb Nb cb nsb xb) (Sp := fun pre W => (∃ k, pre = (cntL nsb xb).take k) ∧ Tal W gb lb Nb cb nsb xb) (T := CntT nsb xb)
        (fun l J Jx W hW hJ hJx hY h0 => all1_in (n - 1) (by omega) l wr.heap.size gb lb Nb cb nsb xb HNB.out (KpS ga la) W.heap.size (KpS.ok HP.out (by omega) (by omega) _ (by have := hW.size; omega) (by have := hW.size; omega)) J Jx hJ hJx hY W ((hW.block _ bB.lt).trans bB) (hEb.below hW) (Nat.le_refl _) h0)
        (fun A B k o hc hk ho _ => (hc.1.block k (blk_lt ho) (fun e => by have e' : k = gb := e; omega)).trans ho)
        KpS.trans (fun W l r o' hl h => KpS.putLoop W l r o' h) (fun _ => rfl)
        (fun pre W => Tal W ga la Na ca nsa (sumL nsa xa pre) ∧ (Boxed W w.heap.size 26 (.pointer (some ⟨ga, 0, none⟩)) ∧ Fr (fun i => i = ga ∨ i = la ∨ i = gb) w W))
        (fun c pre W => False)
        ?own ?owx ?cl ?clx ?start
        (fun x => { tmps := #[.pointer (some ⟨ga, 0, none⟩), .pointer (some ⟨gb, 0, none⟩), .pointer (some ⟨w.heap.size, 0, none⟩), undef, u4, undef, u6, .string x.1, .int .u64 x.2, .pointer (some ⟨gb, 0, none⟩), .slice A1 nsb.length c1, .int .i64 nsb.length, .int .i64 nsb.length, .bool false, u14, u15, u16, u17, u18, u19, u20, .pointer (some ⟨gb, 0, none⟩),
          .func (.func 68) #[] #[.pointer (some ⟨wr.heap.size, 0, none⟩)], .string x.1, .int .u64 x.2, undef, undef, undef, undef, undef, undef], defers := [] }) ?assign ?body ?done ?stop
      case own => exact ⟨fun o h => ⟨h.1.below (below_alloc (Below.refl _ _) _), h.2.1.alloc o, h.2.2.alloc o⟩, fun o' hB hl h => ⟨h.1.putObj o' hl rfl (fun _ _ => nofun), boxed_put h.2.1 o' hl rfl, h.2.2.putO o' (by omega)⟩⟩
      case owx => exact fun c => ⟨fun _ h => h, fun _ _ _ h => h⟩
      case cl =>
        rintro s A A' ⟨hc, cs, hcs⟩ ⟨h1, h2, h3⟩
        exact ⟨h1.other1 hc hcs HP.out, (hc.block _ h2.lt (fun e => by have e' : w.heap.size = gb := e; omega)).trans h2, h3.then_ hc (fun i hi => .inl (.inr (.inr hi)))⟩
      case clx => exact fun _ _ _ _ _ h => h
      case start => exact ⟨hEa, bA, hEf⟩
      case assign =>
        intro l x W K hK
        gi_wp2
        exact hK
      case body =>
        rintro l pre x W ⟨hT, hb, hf⟩ ⟨j, hj, rfl, rfl⟩
        have hbc := hb.cell
        have h20 : Fence.wide.fn 20 := trivial
        have hd1 : 1 ≤ n - 1 - 1 := by omega
        have HT := Aside0.mk hT
        have HBB := Aside0.mk hb
        have HFF := Aside0.mk hf
        have HSZ := Aside0.mk (show (rdOf ByteArray.empty nsb (j : Int)).size ≤ 1000 from hEb.size _ (by simp [rdOf, hj]))
        clear hT hb hf hEa hEb hEf bA bB
        gi_wp2_with (gi_at_call 20; go_must (refine (CallsIn.inRound l (callsIn_wide.2 (t_addW W ga la Na ca nsa _ (rdOf ByteArray.empty nsb (j : Int)) HT.out HNA.out HSZ.out (rd xb (j : Int))))).mono ?_; rintro e w2 ⟨rfl, hT2, hf2⟩; have HT2 := Aside0.mk hT2; have HF2 := Aside0.mk hf2; clear hT2 hf2))
        refine ⟨KeepsFrom.of_fr HF2.out (by omega) (by omega), KpS.of_fr HT.out HF2.out, ?_, ?_, ?_⟩
        · rw [sumL_snoc]
          exact HT2.out
        · exact (HF2.out.block _ HBB.out.lt (fun e => by omega)).trans HBB.out
        · exact HFF.out.then_ HF2.out (fun i hi => .inl (hi.elim .inl (fun h => .inr (.inl h))))
      case done =>
        rintro D ys W2 W hD ⟨rfl, hT2⟩ ⟨hT, hb, hf⟩ hbk hK
        have hbc := hb.cell
        gi_wp2
        refine ⟨by simp, .inl ⟨_, _, rfl, run_takeDeferred hK, ?_⟩⟩
        obtain ⟨lp, r, o2, hlp, hr, rfl⟩ := hbk
        exact ⟨_, results_tmp rfl _ _ _, SumPost.mk_true HFIT.out rfl ⟨hT.putObj _ hK rfl (fun _ _ => nofun), (hT2.putObj o2 hr rfl (fun _ _ => nofun)).putObj _ hK rfl (fun _ _ => nofun), hf.putO _ (by omega)⟩⟩
      case stop =>
        rintro D c pre W2 W _ _ h _ _
        exact h.elim
end iter
section iter
attribute [local go_sem] Oper.semAt_some
open Go.Shelf
set_option maxRecDepth 100000 in
set_option maxHeartbeats 2000000 in
theorem s_sum_nil (a : Addr) (F : Fence) (n : Nat) (h17 : F.fn 17) (h48 : F.fn 48) (h68 : F.fn 68) (h24 : F.fn 24) (hro : F.round = none) (hn : 3 ≤ n) (w : World) :
    CallsIn F n Try.prog 17 #[.pointer (some a), .pointer none] w fun e w' => e = .returned (.bool true) ∧ Below w.heap.size w w' := by
  have h1 : 1 ≤ n := by omega
  refine callsIn_of_wp_marks Try.func17 rfl h17 ?_ hro
  simp only [Try.ntmps17, List.size_toArray, List.length_cons, List.length_nil, Nat.reduceAdd, Nat.reduceSub, Array.replicate_succ, Array.replicate_zero, List.push_toArray, List.append_toArray, List.nil_append, List.cons_append]
  gi_wp2_with (gi_at_call 24; refine (n_names_in F _ h24 hro _).mono ?_; rintro e w1 ⟨rfl, rfl⟩)
  gi_loopw [12] (fun i wr => i = .int .i64 0 ∧ wr = w.alloc (.cells #[.pointer (some a)] 26)) (fun i _ => 0)
  case atStart => exact ⟨rfl, rfl⟩
  case round =>
    obtain ⟨rfl, rfl⟩ := hrel
    gi_wp2_with (gi_at_call 48; refine (t_all_in F _ h48 hro _ none).mono ?_; rintro e w1 ⟨rfl, rfl⟩)
    have bB : Boxed ((w.alloc (.cells #[.pointer (some a)] 26)).alloc (.cells #[.pointer none] 26)) (w.heap.size + 1) 26 (.pointer none) := by
      have h := Boxed.new (w.alloc (.cells #[.pointer (some a)] 26)) 26 (.pointer none)
      simpa only [World.size_alloc] using h
    have bA : Boxed ((w.alloc (.cells #[.pointer (some a)] 26)).alloc (.cells #[.pointer none] 26)) w.heap.size 26 (.pointer (some a)) := (Boxed.new w 26 (.pointer (some a))).alloc _
    refine wpIn_rangeFunc_ownG hro h1 (gf := 68) (lb := #[.pointer (some ⟨w.heap.size + 1, 0, none⟩)]) rfl h68 (enters_of Try.func68 (by kernel_rfl) rfl)
      (show SeqStopsK F (n - 1) Try.prog 68 #[.pointer (some ⟨w.heap.size + 1, 0, none⟩)] (fun x : ByteArray × Int => #[Value.string x.1, .int .u64 x.2]) (Below w.heap.size) (fun ys => ys = []) (fun _ => True) 0 _ from fun l J Jx W hW _ _ hY h0 => (n_all1_in F _ h68 h24 hro (by omega) l W _ ((hW.cell (p := ⟨w.heap.size + 1, 0, none⟩) (by simp)).trans bB.cell)).mono fun e W' ⟨hv, hw⟩ => ⟨hv, .inl ⟨[], rfl, hw ▸ h0⟩⟩)
      belowK_t (belowK_b (by simp; omega)) (Below.refl _ _) (fun _ => rfl) (fun _ W => Boxed W w.heap.size 26 (.pointer (some a)) ∧ Below w.heap.size w W) (fun _ _ _ => False)
      (OwnFrom.and (Own.from (boxed_own w.heap.size 26 (fun _ => .pointer (some a))) _) (ownFrom_below (Nat.le_refl _) (by simp; omega))) (fun _ _ _ _ _ hs _ _ => hs) ?start
      (fun x => { tmps := #[.pointer (some a), .pointer none, .pointer (some ⟨w.heap.size, 0, none⟩), undef, u4, undef, u6, .string x.1, .int .u64 x.2, .pointer none, .slice none 0 0, .int .i64 0, .int .i64 0, .bool false, u14, u15, u16, u17, u18, u19, u20, .pointer none,
        .func (.func 68) #[] #[.pointer (some ⟨w.heap.size + 1, 0, none⟩)], .string x.1, .int .u64 x.2, undef, undef, undef, undef, undef, undef], defers := [] }) ?assign ?body ?done ?stop
    case start => exact ⟨bA, ((Below.refl _ w).alloc (Nat.le_refl _) _).alloc (by simp) _⟩
    case done =>
      rintro D ys W hD rfl ⟨hv, hB⟩ hK
      have hc := hv.cell
      gi_wp2
      refine ⟨by simp, .inl ⟨_, _, rfl, run_takeDeferred hK, ?_⟩⟩
      exact ⟨_, results_tmp rfl _ _ _, rfl, hB.trans (belowK_b (w := w) (Nat.le_refl _) W D _ _ (by simp at hD; omega) hK rfl rfl)⟩
    case body =>
      intro l pre x W _ h
      exact absurd h (Nat.not_lt_zero _)
    case stop =>
      rintro D c pre W _ _ h _
      exact h.elim
    case assign =>
      intro l x W K hK
      gi_wp2
      exact hK
end iter
/-! ### Reset -/
def zu (xs : List Int) (k : Nat) : List Int := List.replicate k 0 ++ xs.drop k
theorem zu_set (xs : List Int) (k : Nat) (h : k < xs.length) : (zu xs k).set k 0 = zu xs (k + 1) := by
  unfold zu
  apply List.ext_getElem
  · simp; omega
  · intro i h1 h2
    simp only [List.getElem_set, List.getElem_append, List.length_replicate, List.getElem_replicate, List.getElem_drop]
    by_cases e : k = i
    · subst e
      simp
    · rw [if_neg e]
      by_cases e2 : i < k
      · rw [dif_pos e2, dif_pos (by omega)]
      · rw [dif_neg e2, dif_neg (by omega)]
        congr 1
        omega
theorem t_reset (w : World) (g lb : Nat) (N : Option Addr) (cn : Nat) (ns : List ByteArray) (xs : List Int) (hT : Tal w g lb N cn ns xs) (hnd : ns.Nodup) :
    Calls Try.prog 19 #[.pointer (some ⟨g, 0, none⟩)] w fun e w' => e = .returned (.tuple #[]) ∧ Tal w' g lb N cn ns (List.replicate ns.length 0) ∧ Fr (fun i => i = g ∨ i = lb) w w' := by
  have HT := Aside0.mk hT
  have HND := Aside0.mk hnd
  have HLEN := Aside0.mk hT.len
  have hn1000 : ns.length ≤ 1000 := hT.few
  clear hT hnd
  go_enter Try.func19, Try.ntmps19
  go_wp2_with (go_at_call 24; go_must (refine (namesO w g lb N cn ns xs HT.out).mono ?_; rintro e w1 ⟨v, rfl, ho, hb⟩; obtain ⟨A1, c1, rfl⟩ := own_slice ho; have HO := Aside0.mk ho; have HB1 := Aside0.mk hb; clear ho hb))
  go_loopw [7] (fun i wr => ∃ k : Nat, k ≤ ns.length ∧ i = .int .i64 k ∧ Aside0 (Tal wr g lb N cn ns (zu xs k)) ∧ Aside0 (wr.ownsRow w.heap.size 9 1 (.slice A1 ns.length c1) ns.length (ns.map Value.string)) ∧ Aside0 (Fr (fun i => i = g ∨ i = lb) w wr)) (fun i _ => ns.length - (intOf i).toNat)
  case atStart => exact ⟨0, Nat.zero_le _, rfl, ⟨by simpa [zu] using HT.out.below HB1.out⟩, HO, ⟨Fr.of_below HB1.out⟩⟩
  case round =>
    obtain ⟨k, hk, rfl, hTk, hOk, hFk⟩ := hrel
    by_cases hlt : k < ns.length
    · obtain ⟨ad, e, hx⟩ := strAt (own_kd hOk.out rfl) k hlt
      subst e
      have hk0 : (0 : Int) ≤ (k : Int) := Int.natCast_nonneg k
      have hk1 : (k : Int) < (ns.length : Int) := Int.ofNat_lt.2 hlt
      have HSZ := Aside0.mk (show (rdOf ByteArray.empty ns (k : Int)).size ≤ 1000 from hTk.out.size _ (by simp [rdOf, hlt]))
      go_wp2_with (go_at_call 22; go_must (refine (t_take wr g lb N cn ns _ _ hTk.out HSZ.out k (at_self HND.out k hlt)).mono ?_; rintro e w2 ⟨rfl, hT2, hf2⟩; have HT2 := Aside0.mk hT2; have HF2 := Aside0.mk hf2; clear hT2 hf2))
      go_roundw
      case rel => exact ⟨k + 1, hlt, by go_num, ⟨by rw [← zu_set xs k (by rw [HLEN.out]; exact hlt)]; exact HT2.out⟩, ⟨own_fr hOk.out HF2.out (fun b hb h => h.elim (fun h => own_neT hOk.out hTk.out (hb.trans (congrArg some h))) (fun h => own_ne hOk.out hTk.out.c (by decide) (hb.trans (congrArg some h))))⟩, ⟨hFk.out.then_ HF2.out (fun i hi => .inl hi)⟩⟩
      case measure => simp [intOf]; omega
    · have hke : k = ns.length := by omega
      have HZ := Aside0.mk (show Tal wr g lb N cn ns (List.replicate ns.length 0) from by
        have h := hTk.out
        unfold zu at h
        rw [hke, List.drop_of_length_le (by have := HLEN.out; omega), List.append_nil] at h
        exact h)
      clear hke
      go_wp2
      go_end0
      exact ⟨rfl, HZ.out, hFk.out⟩
end Go.Proofs.Ytclpkbgjaiacpaa
