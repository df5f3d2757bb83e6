/- What is proved: the law NegoPlays, walked. Conditions: those that each theorem states. -/
import Derived.Test.YtclpkbgjaiacpaaNegoK
import Derived.Test.YtclpkbgjaiacpaaPNpx2
import Derived.WalkSpells
import Derived.Deep.DeepMust
import Derived.Deep.RegionHeld3
import Derived.StillTactics
import Derived.Lib.SlBytesConst
namespace Go.Proofs.Ytclpkbgjaiacpaa
open Go.RowKit Go.Proofs.YtclpkbgjaiacpaaW.PrintWords Go.Proofs.YtclpkbgjaiacpaaW.PrintLast Go.Proofs.YtclpkbgjaiacpaaW.PrintMore
open Go.Proofs.Ytclpkbgjaiacpaa.PNegoAgrees Go.Proofs.Ytclpkbgjaiacpaa.PSrt
set_option linter.unusedVariables false
set_option linter.unusedSimpArgs false
/-! ### a step of both ends -/
theorem C_lt {w : World} {A : Option Addr} {n : Nat} {l : List Int} (h : Kd.C (Kd.int .u8) w A n l) : ∀ ad, A = some ad → 0 < n → ad.block < w.heap.size := by
  rintro ad rfl hn
  obtain ⟨ad', e, hx⟩ := cell00 h hn
  cases e
  exact World.block_lt_of_cell? w ad hx
theorem step_pair {w0 w w2 w3 : World} {g h : Nat} {ty dev : ByteArray} {F : Option Addr} {nf cf : Nat} {F2 : Option Addr} {nf2 cf2 : Nat} {fl : List Int} {st : Int} {d : ByteArray} {G : Option Addr} {ng cg : Nat} {G2 : Option Addr} {ng2 cg2 : Nat} {gl : List Int}
    {st' : Int} {d' : ByteArray} {G' : Option Addr} {ng' cg' : Nat} {G2' : Option Addr} {ng2' cg2' : Nat} {gl' : List Int} {x y : Value}
    (hp : Pair w0 w g h ty dev F nf cf F2 nf2 cf2 fl st d G ng cg G2 ng2 cg2 gl)
    (hfx : Fr (only g) w w2) (hEx : EndB w2 g ty dev (.slice F nf cf) st' d' (.slice G' ng' cg'))
    (hgx : st' = 3 → (G' = G ∧ ng' = ng ∧ cg' = cg ∧ st = 3 ∧ gl' = gl) ∨ (Kd.C (Kd.int .u8) w2 G' ng' gl' ∧ ng' ≤ cg' ∧ ∀ ad, G' = some ad → 0 < ng' → w.heap.size ≤ ad.block ∧ x.ownBlock ≠ some ad.block))
    (hfy : Fr (only h) w2 w3) (hEy : RefB w3 h ty dev (.slice F2 nf2 cf2) st' d' (.slice G2' ng2' cg2'))
    (hgy : st' = 3 → (G2' = G2 ∧ ng2' = ng2 ∧ cg2' = cg2 ∧ st = 3 ∧ gl' = gl) ∨ (Kd.C (Kd.int .u8) w3 G2' ng2' gl' ∧ ng2' ≤ cg2' ∧ ∀ ad, G2' = some ad → 0 < ng2' → w2.heap.size ≤ ad.block ∧ y.ownBlock ≠ some ad.block))
    (hgl : gl'.length ≤ 5) :
    Pair w0 w3 g h ty dev F nf cf F2 nf2 cf2 fl st' d' G' ng' cg' G2' ng2' cg2' gl' := by
  have hR2 : RefB w2 h ty dev (.slice F2 nf2 cf2) st d (.slice G2 ng2 cg2) := hfx.blk hp.r (fun e => hp.gh e.symm)
  have up : ∀ {A : Option Addr} {n : Nat} {l : List Int}, Kd.C (Kd.int .u8) w A n l → Kd.C (Kd.int .u8) w3 A n l := fun hc =>
    C_fr (C_fr hc hfx (C_apart hc hp.e)) hfy (C_apart78 (C_fr hc hfx (C_apart hc hp.e)) hR2)
  exact {
    b := ((Fr.of_below (S := nothing) hp.b).then_ hfx (fun i hi => .inr (by rw [show i = g from hi]; exact hp.g0)) |>.then_ hfy (fun i hi => .inr (by rw [show i = h from hi]; exact hp.h0))).to_below (fun _ h => h.elim)
    e := hfy.blk hEx (fun e => hp.gh e)
    r := hEy
    f := up hp.f
    fz := hp.fz
    f2 := up hp.f2
    f2c := hp.f2c
    a := fun h3 => by
      rcases hgx h3 with ⟨rfl, rfl, rfl, h4, rfl⟩ | ⟨hc, _, _⟩
      · exact up (hp.a h4)
      · exact C_fr hc hfy (C_apart78 hc hR2)
    a2 := fun h3 => by
      rcases hgy h3 with ⟨rfl, rfl, rfl, h4, rfl⟩ | ⟨hc, _, _⟩
      · exact up (hp.a2 h4)
      · exact hc
    a2c := fun h3 => by
      rcases hgy h3 with ⟨rfl, rfl, rfl, h4, rfl⟩ | ⟨_, hc, _⟩
      · exact hp.a2c h4
      · exact hc
    g0 := hp.g0
    h0 := hp.h0
    gh := hp.gh
    len := hp.len
    glen := hgl }
theorem Pair.off {w0 w w' : World} {g h : Nat} {ty dev : ByteArray} {F : Option Addr} {nf cf : Nat} {F2 : Option Addr} {nf2 cf2 : Nat} {fl : List Int} {st : Int} {d : ByteArray} {G : Option Addr} {ng cg : Nat} {G2 : Option Addr} {ng2 cg2 : Nat} {gl : List Int} {S : Nat → Prop}
    (hp : Pair w0 w g h ty dev F nf cf F2 nf2 cf2 fl st d G ng cg G2 ng2 cg2 gl) (hf : Fr S w w') (h0 : ∀ k, S k → w0.heap.size ≤ k) (hg : ¬ S g) (hh : ¬ S h)
    (hF : ∀ ad, F = some ad → 0 < nf → ¬ S ad.block) (hF2 : ∀ ad, F2 = some ad → 0 < nf2 → ¬ S ad.block)
    (hG : st = 3 → ∀ ad, G = some ad → 0 < ng → ¬ S ad.block) (hG2 : st = 3 → ∀ ad, G2 = some ad → 0 < ng2 → ¬ S ad.block) :
    Pair w0 w' g h ty dev F nf cf F2 nf2 cf2 fl st d G ng cg G2 ng2 cg2 gl where
  b := ((Fr.of_below (S := nothing) hp.b).then_ hf (fun i hi => .inr (h0 i hi))).to_below (fun _ h => h.elim)
  e := hf.blk hp.e hg
  r := hf.blk hp.r hh
  f := C_fr hp.f hf hF
  fz := hp.fz
  f2 := C_fr hp.f2 hf hF2
  f2c := hp.f2c
  a := fun h3 => C_fr (hp.a h3) hf (hG h3)
  a2 := fun h3 => C_fr (hp.a2 h3) hf (hG2 h3)
  a2c := hp.a2c
  g0 := hp.g0
  h0 := hp.h0
  gh := hp.gh
  len := hp.len
  glen := hp.glen
theorem ite_res {Q : Res → Prop} {c : Prop} [Decidable c] {a b : Res} (ha : Q a) (hb : Q b) : Q (if c then a else b) := by
  by_cases h : c
  · rw [if_pos h]; exact ha
  · rw [if_neg h]; exact hb
/-- The state behind a step: its functions are few, and are bytes. -/
theorem hearS_gl (ty dev : ByteArray) (fl : List Int) (st : Int) (d : ByteArray) (gl : List Int) (op : Int) (l : List Int) (P : List Int → Prop) (h0 : P []) (hg : P gl) (hs : ∀ m, P (sortedL m)) : P (hearS ty dev fl st d gl op l).2.2.2.2 := by
  have : (fun r : Res => P r.2.2.2.2) (hearS ty dev fl st d gl op l) := by
    unfold hearS
    repeat' (refine ite_res (Q := fun r : Res => P r.2.2.2.2) ?_ ?_)
    all_goals first | exact h0 | exact hg | exact hs _
  exact this
/-! ### the law's script -/
theorem add_next (ad : Addr) (n j : Nat) (hj : 0 < j) : (⟨(ad.add n).block, (ad.add n).off + j, none⟩ : Addr) = ad.add (n + j) := by
  unfold Addr.add
  by_cases h : n = 0
  · subst h
    rw [if_pos rfl, if_neg (by omega), Nat.zero_add]
  · rw [if_neg h, if_neg (by omega)]
    simp [Nat.add_assoc]
abbrev opT : Kd (Bool × Int × List Int) := Kd.pair Kd.bool (Kd.pair (Kd.int .u8) (Kd.slice 5 (Kd.int .u8)))
theorem op_at {w : World} {B : Option Addr} {m : Nat} {ops : List (Bool × Int × List Int)} (h : Kd.C opT w B m ops) (k : Nat) (hk : k < m) :
    ∃ ad b o A l c, B = some ad ∧ ops[k]? = some (b, o, l) ∧ w.cell? (ad.add (k * 3)) = some (.bool b) ∧ w.cell? (ad.add (k * 3 + 1)) = some (.int .u8 o) ∧ w.cell? (ad.add (k * 3 + 2)) = some (.slice A l.length c) ∧ l.length ≤ c ∧ Kd.C (Kd.int .u8) w A l.length l := by
  obtain ⟨hl, _, hx⟩ := h
  obtain ⟨ad, rfl, hc⟩ := hx (by omega)
  have he : ops[k]? = some (ops[k]'(by omega)) := List.getElem?_eq_getElem (by omega)
  generalize ops[k]'(by omega) = q at he
  obtain ⟨b, o, l⟩ := q
  obtain ⟨cs, _, ⟨c0, c1, rfl, h0, c2, c3, rfl, h1, A, c, h2, hle, hC⟩, hcell⟩ := hc k (b, o, l) he
  have h0' : c0 = [Value.bool b] := h0
  have h1' : c2 = [Value.int .u8 o] := h1
  subst h0' h1' h2
  refine ⟨ad, b, o, A, l, c, rfl, he, ?_, ?_, ?_, hle, hC⟩
  · exact hcell 0 _ rfl
  · exact hcell 1 _ rfl
  · exact hcell 2 _ rfl
theorem cutS_cut (s : ByteArray) : cutS (cutS s 45) 45 = cutS s 45 := by
  have h := cutS_size s 45
  generalize cutS s 45 = t at *
  unfold cutS
  rw [if_neg (by omega)]
theorem few_few (ty dev : ByteArray) (l : List Int) : vitrineref10_Few.f (cutS ty 45) (cutS dev 45) (l.take 8) = some (cutS ty 45, cutS dev 45, l.take 8) := by
  have h := few_ok (cutS ty 45) (cutS dev 45) (l.take 8)
  rw [cutS_cut, cutS_cut, List.take_take, Nat.min_self] at h
  exact h
theorem copy_f (l : List Int) (h : l.length ≤ 1000000) : vitrineref01_Copy.f l = some l := by
  unfold vitrineref01_Copy.f
  simp only [Option.bind_some, List.length_nil, List.nil_append, Nat.zero_add]
  rw [if_pos (by omega)]
theorem cut_120 (l : List Int) : vitrineref01_Cut.f l 120 = some (l.take 120) := cut_f l 120 (by decide)
/-- A reset of both ends. -/
theorem reset_pair {w0 w w2 w3 : World} {g h : Nat} {ty dev : ByteArray} {F : Option Addr} {nf cf : Nat} {F2 : Option Addr} {nf2 cf2 : Nat} {fl : List Int} {st : Int} {d : ByteArray} {G : Option Addr} {ng cg : Nat} {G2 : Option Addr} {ng2 cg2 : Nat} {gl : List Int}
    (hp : Pair w0 w g h ty dev F nf cf F2 nf2 cf2 fl st d G ng cg G2 ng2 cg2 gl)
    (hfx : Fr (only g) w w2) (hEx : EndB w2 g ty dev (.slice F nf cf) 0 (⟨#[]⟩ : ByteArray) (.slice none 0 0))
    (hfy : Fr (only h) w2 w3) (hEy : RefB w3 h ty dev (.slice F2 nf2 cf2) 0 (⟨#[]⟩ : ByteArray) (.slice none 0 0)) :
    Pair w0 w3 g h ty dev F nf cf F2 nf2 cf2 fl 0 (⟨#[]⟩ : ByteArray) none 0 0 none 0 0 [] :=
  step_pair (x := .slice none 0 0) (y := .slice none 0 0) hp hfx hEx (fun h => absurd h (by decide)) hfy hEy (fun h => absurd h (by decide)) (by simp)
set_option maxRecDepth 100000 in
set_option maxHeartbeats 8000000 in
theorem plays_bad (w : World) (ty dev : ByteArray) (A : Option Addr) (n c : Nat) (fl : List Int) (B : Option Addr) (m cm : Nat) (ops : List (Bool × Int × List Int))
    (hr : Kd.C (Kd.int .u8) w A n fl) (hc : n ≤ c) (hH : Kd.C opT w B m ops) (hm2 : m ≤ 140737488351232) (hrng : ∀ x ∈ fl, 0 ≤ x ∧ x < 256) (hro : ∀ q ∈ ops, ∀ x ∈ q.2.2, 0 ≤ x ∧ x < 256)
    (hno : codeNew (cutS ty 45) (cutS dev 45) (fl.take 8) ≠ 0) :
    Calls Try.prog 8 #[.agg #[.string ty, .string dev, .slice A n c], .slice B m cm] w fun e w' => e = .returned (.bool true) ∧ Below w.heap.size w w' := by
  obtain rfl : fl.length = n := hr.1
  have hfew := few_ok ty dev fl
  have hfew2 := few_few ty dev fl
  have ht1 := cutS_size ty 45
  have ht2 := cutS_size dev 45
  have hl3 : (fl.take 8).length ≤ 8 := by rw [List.length_take]; omega
  have hr3 : ∀ x ∈ fl.take 8, 0 ≤ x ∧ x < 256 := fun x hx => hrng x (List.mem_of_mem_take hx)
  generalize cutS ty 45 = t1 at *
  generalize cutS dev 45 = t2 at *
  generalize fl.take 8 = l3 at *
  have HFA := Aside0.mk hfew
  have HFB := Aside0.mk hfew2
  have HR := Aside0.mk hr
  have HC := Aside0.mk hc
  have HH := Aside0.mk hH
  have HT := Aside0.mk (And.intro ht1 (And.intro ht2 hl3))
  have HRG := Aside0.mk hr3
  have HRO := Aside0.mk hro
  have HNO := Aside0.mk hno
  obtain ⟨code, hcode⟩ : ∃ k, codeNew t1 t2 l3 = k := ⟨_, rfl⟩
  have hne : (code != 0) = true := bne_iff_ne.2 (fun h => hno (hcode.trans h))
  have HCD := Aside0.mk hcode
  clear hfew hfew2 hr hc hH ht1 ht2 hl3 hr3 hrng hro hno hcode
  go_enter Try.func8, Try.ntmps8
  go_wp2_with (first | (go_at_call 25; go_must (refine (awake_any _).mono ?_; rintro e w1 ⟨rfl, hb1⟩; have BK := blk_below (blk_new w _) hb1; have x0 := (blk_cell BK 0).trans rfl; have x1 := (blk_cell BK 1).trans rfl; have x2 := (blk_cell BK 2).trans rfl; have HX1 := Aside0.mk BK; have HB := Aside0.mk ((below_alloc (Below.refl w.heap.size w) _).trans (hb1.mono (by simp))); have hs1 := Aside0.mk (show w.heap.size < w1.heap.size from blk_lt BK); clear BK hb1)) | (go_at_call 27; have tk := HFA; go_must (clear tk; refine (vitrineref10_Few.calls ty dev A c fl t1 t2 l3 _ (Kd.C_below HR.out HB.out) HC.out HFA.out).mono ?_; rintro e w2 ⟨v2, rfl, ho2, hb2⟩; have HG2 := Aside0.mk (own_ge ho2); obtain ⟨A2, c2, rfl, hc2, hC2⟩ := OwnB.reads ho2; have BK := blk_below HX1.out hb2; have f0 := blk_frozen BK 0; have f1 := blk_frozen BK 1; have f2 := blk_frozen BK 2; have x0 := (blk_cell BK 0).trans rfl; have x1 := (blk_cell BK 1).trans rfl; have x2 := (blk_cell BK 2).trans rfl; have HX2 := Aside0.mk BK; have HB2 := Aside0.mk (HB.out.trans (hb2.mono HB.out.size)); have H2 := Aside0.mk (And.intro hc2 hC2); clear ho2 hb2 hc2 hC2 BK HFA)) | (go_at_call 27; have HFR := Aside0.mk (show Fr (only w.heap.size) w2 (((w2.setCell ⟨w.heap.size, 0, none⟩ (.string t1)).setCell ⟨w.heap.size, 1, none⟩ (.string t2)).setCell ⟨w.heap.size, 2, none⟩ (.slice A2 l3.length c2)) from (((Fr.refl (only w.heap.size) w2).setCell (p := ⟨w.heap.size, 0, none⟩) (.inl rfl) _).setCell (p := ⟨w.heap.size, 1, none⟩) (.inl rfl) _).setCell (p := ⟨w.heap.size, 2, none⟩) (.inl rfl) _); have HA3 := Aside0.mk (C_fr H2.out.2 HFR.out (fun ad e _ hg => by subst e; (have h1 := HG2.out ad.block rfl; have h2 := hs1.out; have h3 : ad.block = w.heap.size := hg; omega))); go_must (refine (vitrineref10_Few.calls t1 t2 A2 c2 l3 t1 t2 l3 _ HA3.out H2.out.1 HFB.out).mono ?_; rintro e w3 ⟨v3, rfl, ho3, hb3⟩; have BK := blk_below (by exact blk_put (blk_put (blk_put HX2.out 0 _ rfl) 1 _ rfl) 2 _ rfl) hb3; have HX3 := Aside0.mk BK; have HO3 := Aside0.mk (show OwnB w3 _ v3 l3 from ho3); obtain ⟨A3, c3, rfl⟩ := OwnB.slice HO3.out; have HB3 := Aside0.mk (show Below w.heap.size w w3 from (((Fr.of_below (S := nothing) HB2.out).then_ HFR.out (fun i hi => .inr (Nat.le_of_eq (Eq.symm hi)))).below hb3).to_below (fun _ h => h.elim)); have HC3 := Aside0.mk (Kd.C_below HA3.out hb3); have HS23 := Aside0.mk (Nat.le_trans HFR.out.size hb3.size); clear ho3 hb3 HA3 HFR x0 x1 x2 f0 f1 f2 BK)) | (go_at_call 26; have HM3 := Aside0.mk (show Below w3.heap.size w3 (w3.alloc (.cells #[.string t1, .string t2, .slice A3 l3.length c3] 51)) from below_alloc (Below.refl _ _) _); have HY3 := Aside0.mk (show (w3.alloc (.cells #[.string t1, .string t2, .slice A3 l3.length c3] 51)).heap[w3.heap.size]? = some (.cells #[.string t1, .string t2, .slice A3 l3.length c3] 51 (0, 0)) from blk_new w3 _); have HO3b := Aside0.mk (OwnB.below HO3.out HM3.out); have HC3b := Aside0.mk (OwnB.reads HO3b.out); go_must (refine (new_fail2 _ t1 t2 A3 l3 l3.length c3 (by obtain ⟨A', c', he, _, hC⟩ := HC3b.out; cases he; exact hC) (by obtain ⟨A', c', he, hc, _⟩ := HC3b.out; cases he; exact hc) HT.out.1 HT.out.2.1 ?zl HNO.out).mono ?_; (case zl => (have := HT.out.2.2; omega)); rw [HCD.out]; rintro e w4 ⟨rfl, hb4⟩; have HM4 := Aside0.mk (HM3.out.trans (hb4.mono HM3.out.size)); have BK := blk_below HX3.out HM4.out; have x0 := (blk_cell BK 0).trans rfl; have x1 := (blk_cell BK 1).trans rfl; have x2 := (blk_cell BK 2).trans rfl; have HC4 := Aside0.mk (Kd.C_below HC3.out HM4.out); have HB4 := Aside0.mk (HB3.out.trans (HM4.out.mono HB3.out.size)); clear hb4 BK)) | (go_at_call 39; go_must (refine (refnew_any _ t1 t2 A2 l3 l3.length c2 HC4.out HT.out.1 HT.out.2.1 ?zl HRG.out).mono ?_; (case zl => (have := HT.out.2.2; omega)); rintro e w5 ⟨hb5, hor⟩; obtain ⟨_, he5⟩ := hor.resolve_right (fun h => HNO.out h.1); rw [HCD.out] at he5; subst he5; have HB5 := Aside0.mk (HB4.out.trans (hb5.mono HB4.out.size)); clear hb5 hor)))
  go_ret
  exact ⟨rfl, HB5.out⟩
set_option maxRecDepth 100000 in
set_option maxHeartbeats 8000000 in
theorem plays_good (w : World) (ty dev : ByteArray) (A : Option Addr) (n c : Nat) (fl : List Int) (B : Option Addr) (m cm : Nat) (ops : List (Bool × Int × List Int))
    (hr : Kd.C (Kd.int .u8) w A n fl) (hc : n ≤ c) (hH : Kd.C opT w B m ops) (hm2 : m ≤ 140737488351232) (hrng : ∀ x ∈ fl, 0 ≤ x ∧ x < 256) (hro : ∀ q ∈ ops, ∀ x ∈ q.2.2, 0 ≤ x ∧ x < 256)
    (hno : codeNew (cutS ty 45) (cutS dev 45) (fl.take 8) = 0) :
    Calls Try.prog 8 #[.agg #[.string ty, .string dev, .slice A n c], .slice B m cm] w fun e w' => e = .returned (.bool true) ∧ Below w.heap.size w w' := by
  obtain rfl : fl.length = n := hr.1
  have hfew := few_ok ty dev fl
  have hfew2 := few_few ty dev fl
  have ht1 := cutS_size ty 45
  have ht2 := cutS_size dev 45
  have hl3 : (fl.take 8).length ≤ 8 := by rw [List.length_take]; omega
  have hr3 : ∀ x ∈ fl.take 8, 0 ≤ x ∧ x < 256 := fun x hx => hrng x (List.mem_of_mem_take hx)
  generalize cutS ty 45 = t1 at *
  generalize cutS dev 45 = t2 at *
  generalize fl.take 8 = l3 at *
  have HFA := Aside0.mk hfew
  have HFB := Aside0.mk hfew2
  have HR := Aside0.mk hr
  have HC := Aside0.mk hc
  have HH := Aside0.mk hH
  have HT := Aside0.mk (And.intro ht1 (And.intro ht2 hl3))
  have HRG := Aside0.mk hr3
  have HRO := Aside0.mk hro
  have HNO := Aside0.mk hno
  have hok := code_ok hno
  have HOK := Aside0.mk hok
  clear hfew hfew2 hr hc hH ht1 ht2 hl3 hr3 hrng hro hno hok
  go_enter Try.func8, Try.ntmps8
  go_wp2_with (first | (go_at_call 25; go_must (refine (awake_any _).mono ?_; rintro e w1 ⟨rfl, hb1⟩; have BK := blk_below (blk_new w _) hb1; have x0 := (blk_cell BK 0).trans rfl; have x1 := (blk_cell BK 1).trans rfl; have x2 := (blk_cell BK 2).trans rfl; have HX1 := Aside0.mk BK; have HB := Aside0.mk ((below_alloc (Below.refl w.heap.size w) _).trans (hb1.mono (by simp))); have hs1 := Aside0.mk (show w.heap.size < w1.heap.size from blk_lt BK); clear BK hb1)) | (go_at_call 27; have tk := HFA; go_must (clear tk; refine (vitrineref10_Few.calls ty dev A c fl t1 t2 l3 _ (Kd.C_below HR.out HB.out) HC.out HFA.out).mono ?_; rintro e w2 ⟨v2, rfl, ho2, hb2⟩; have HG2 := Aside0.mk (own_ge ho2); have HL2 := Aside0.mk (own_lt (own_nums (show OwnB w2 _ v2 l3 from ho2))); obtain ⟨A2, c2, rfl, hc2, hC2⟩ := OwnB.reads ho2; have BK := blk_below HX1.out hb2; have f0 := blk_frozen BK 0; have f1 := blk_frozen BK 1; have f2 := blk_frozen BK 2; have x0 := (blk_cell BK 0).trans rfl; have x1 := (blk_cell BK 1).trans rfl; have x2 := (blk_cell BK 2).trans rfl; have HX2 := Aside0.mk BK; have HB2 := Aside0.mk (HB.out.trans (hb2.mono HB.out.size)); have H2 := Aside0.mk (And.intro hc2 hC2); clear ho2 hb2 hc2 hC2 BK HFA)) | (go_at_call 27; have HFR := Aside0.mk (show Fr (only w.heap.size) w2 (((w2.setCell ⟨w.heap.size, 0, none⟩ (.string t1)).setCell ⟨w.heap.size, 1, none⟩ (.string t2)).setCell ⟨w.heap.size, 2, none⟩ (.slice A2 l3.length c2)) from (((Fr.refl (only w.heap.size) w2).setCell (p := ⟨w.heap.size, 0, none⟩) (.inl rfl) _).setCell (p := ⟨w.heap.size, 1, none⟩) (.inl rfl) _).setCell (p := ⟨w.heap.size, 2, none⟩) (.inl rfl) _); have HA3 := Aside0.mk (C_fr H2.out.2 HFR.out (fun ad e _ hg => by subst e; (have h1 := HG2.out ad.block rfl; have h2 := hs1.out; have h3 : ad.block = w.heap.size := hg; omega))); go_must (refine (vitrineref10_Few.calls t1 t2 A2 c2 l3 t1 t2 l3 _ HA3.out H2.out.1 HFB.out).mono ?_; rintro e w3 ⟨v3, rfl, ho3, hb3⟩; have BK := blk_below (by exact blk_put (blk_put (blk_put HX2.out 0 _ rfl) 1 _ rfl) 2 _ rfl) hb3; have HX3 := Aside0.mk BK; have HO3 := Aside0.mk (OwnB.lower (show OwnB w3 _ v3 l3 from ho3) HFR.out.size); have HL3 := Aside0.mk (own_lt (own_nums HO3.out)); obtain ⟨A3, c3, rfl⟩ := OwnB.slice HO3.out; have HB3 := Aside0.mk (show Below w.heap.size w w3 from (((Fr.of_below (S := nothing) HB2.out).then_ HFR.out (fun i hi => .inr (Nat.le_of_eq (Eq.symm hi)))).below hb3).to_below (fun _ h => h.elim)); have HC3 := Aside0.mk (Kd.C_below HA3.out hb3); have HS23 := Aside0.mk (Nat.le_trans HFR.out.size hb3.size); clear ho3 hb3 HA3 HFR x0 x1 x2 f0 f1 f2 BK)) | (go_at_call 26; have HM3 := Aside0.mk (show Below w3.heap.size w3 (w3.alloc (.cells #[.string t1, .string t2, .slice A3 l3.length c3] 51)) from below_alloc (Below.refl _ _) _); have HY3 := Aside0.mk (show (w3.alloc (.cells #[.string t1, .string t2, .slice A3 l3.length c3] 51)).heap[w3.heap.size]? = some (.cells #[.string t1, .string t2, .slice A3 l3.length c3] 51 (0, 0)) from blk_new w3 _); have HO3b := Aside0.mk (OwnB.below HO3.out HM3.out); have HC3b := Aside0.mk (OwnB.reads HO3b.out); go_must (refine (new_good _ t1 t2 A3 l3 l3.length c3 (by obtain ⟨A', c', he, _, hC⟩ := HC3b.out; cases he; exact hC) (by obtain ⟨A', c', he, hc, _⟩ := HC3b.out; cases he; exact hc) HT.out.1 HT.out.2.1 ?zl HOK.out).mono ?_; (case zl => (have := HT.out.2.2; omega)); rintro e w4 ⟨g, fs, rfl, hE4, hg4, hfs4, hb4⟩; have HM4 := Aside0.mk (HM3.out.trans (hb4.mono HM3.out.size)); have HFG := Aside0.mk (own_ge hfs4); obtain ⟨F, nf, cf, rfl, hcf, hCf, hzf⟩ := OwnB.open hfs4; have HE4 := Aside0.mk hE4; have HF4 := Aside0.mk (And.intro hCf hzf); have HGG := Aside0.mk (Nat.lt_of_lt_of_le (show w3.heap.size < (w3.alloc (.cells #[.string t1, .string t2, .slice A3 l3.length c3] 51)).heap.size by simp) hg4); have HO4 := Aside0.mk (OwnB.below HO3b.out hb4); have BK1 := blk_below HY3.out hb4; have HY4 := Aside0.mk BK1; have BK := blk_below HX3.out HM4.out; have x0 := (blk_cell BK 0).trans rfl; have x1 := (blk_cell BK 1).trans rfl; have x2 := (blk_cell BK 2).trans rfl; have HC4 := Aside0.mk (Kd.C_below HC3.out HM4.out); have HB4 := Aside0.mk (HB3.out.trans (HM4.out.mono HB3.out.size)); clear hb4 BK BK1 hE4 hg4 hfs4 hcf hCf hzf)) | (go_at_call 39; go_must (refine (refnew_any _ t1 t2 A2 l3 l3.length c2 HC4.out HT.out.1 HT.out.2.1 ?zl HRG.out).mono ?_; (case zl => (have := HT.out.2.2; omega)); rintro e w5 ⟨hb5, hor⟩; obtain ⟨_, h, he5, hR5, hh5⟩ := hor.resolve_left (fun h => h.1 HNO.out); subst he5; have HP5 := Aside0.mk (show Pair w w5 g h t1 t2 F nf cf A2 l3.length c2 l3 0 (⟨#[]⟩ : ByteArray) none 0 0 none 0 0 [] from { b := HB4.out.trans (hb5.mono HB4.out.size), e := blk_below HE4.out hb5, r := hR5, f := Kd.C_below HF4.out.1 hb5, fz := HF4.out.2, f2 := Kd.C_below HC4.out hb5, f2c := H2.out.1, a := fun h3 => absurd h3 (by decide), a2 := fun h3 => absurd h3 (by decide), a2c := fun h3 => absurd h3 (by decide), g0 := Nat.le_of_lt (Nat.lt_of_le_of_lt HB3.out.size HGG.out), h0 := Nat.le_trans HB4.out.size hh5, gh := Nat.ne_of_lt (Nat.lt_of_lt_of_le (blk_lt HE4.out) hh5), len := HT.out.2.2, glen := by simp }); have HHH := Aside0.mk (Nat.le_trans HM4.out.size hh5); have HO5 := Aside0.mk (OwnB.below HO4.out hb5); have z2 := (blk_cell (blk_below HY4.out hb5) 2).trans rfl; clear hb5 hor hR5 hh5 x0 x1 x2 HE4 HF4)) | (go_at_call 40; have tk := HP5; go_must (clear tk; refine (flip_own _ _ _ l3 HO5.out (by (have h1 := HP5.out.b.size; have h2 := HB2.out.size; have h4 := HS23.out; have h5 := HHH.out; have h6 := blk_lt HP5.out.r; omega))).mono ?_; rintro e w6 ⟨rfl, hf6⟩; have HP6 := Aside0.mk (HP5.out.off hf6 (fun k hk => Nat.le_trans HB2.out.size (own_ge HO5.out k hk)) (fun hk => by (have h1 := HL3.out _ hk; have h2 := HGG.out; omega)) (fun hk => by (have h1 := HL3.out _ hk; have h2 := HHH.out; omega)) (fun ad e _ hk => by (subst e; have h1 := HL3.out _ hk; have h2 := HFG.out ad.block rfl; simp at h2; omega)) (fun ad e _ hk => by (subst e; have h1 := own_ge HO5.out _ hk; have h2 := HL2.out ad.block rfl; omega)) (fun h3 => absurd h3 (by decide)) (fun h3 => absurd h3 (by decide))); clear hf6 HP5 z2)))
  have HLT := Aside0.mk hm2
  have hmm : m ≤ 9223372036854775807 := by omega
  go_loopw [51] (fun i wr => ∃ (k : Nat) (st : Int) (d : ByteArray) (G : Option Addr) (ng cg : Nat) (G2 : Option Addr) (ng2 cg2 : Nat) (gl : List Int), k ≤ m ∧ i = .int .i64 k ∧ Aside0 (Pair w wr g h t1 t2 F nf cf A2 l3.length c2 l3 st d G ng cg G2 ng2 cg2 gl) ∧ Aside0 (∀ x ∈ gl, 0 ≤ x ∧ x < 256)) (fun i _ => m - (intOf i).toNat)
  case atStart => exact ⟨0, 0, _, none, 0, 0, none, 0, 0, [], Nat.zero_le _, rfl, HP6, ⟨fun x hx => by cases hx⟩⟩
  case round =>
    obtain ⟨k, st, d, G, ng, cg, G2, ng2, cg2, gl, hk, rfl, HP, HGR⟩ := hrel
    clear HP6
    by_cases hlt : k < m
    · obtain ⟨ad, bq, oq, Aq, lq, cq, e, hlk, hq0, hq1, hq2, hlq, hCq⟩ := op_at (Kd.C_below HH.out HP.out.b) k hlt
      subst e
      rw [← add_next ad (k * 3) 1 (by omega)] at hq1
      rw [← add_next ad (k * 3) 2 (by omega)] at hq2
      have hk0 : (0 : Int) ≤ (k : Int) := Int.natCast_nonneg k
      have hk1 : (k : Int) < (m : Int) := Int.ofNat_lt.2 hlt
      have hrq := HRO.out _ (List.mem_of_getElem? hlk)
      by_cases h30 : k < 30
      · have h30i : (k : Int) < 30 := by omega
        cases bq with
        | true =>
          go_wp2_with (go_at_call 33; go_must (refine (reset_at _ g t1 t2 _ st d _ (HP.out.below (below_alloc (Below.refl _ _) _)).e).mono ?_; rintro e w2r ⟨rfl, hE2, hf2⟩; have HR2 := hf2.blk (HP.out.below (below_alloc (Below.refl _ _) _)).r (fun e => HP.out.gh e.symm); have c3' : w2r.cell? ⟨h, 3, none⟩ = some (.int .i64 st) := blk_cell HR2 3; have c4' : w2r.cell? ⟨h, 4, none⟩ = some (.string d) := blk_cell HR2 4; have c5' : w2r.cell? ⟨h, 5, none⟩ = some (.slice G2 ng2 cg2) := blk_cell HR2 5; have f3' := blk_frozen HR2 3; have f4' := blk_frozen HR2 4; have f5' := blk_frozen HR2 5; have HR3 := Aside0.mk HR2; have HE2 := Aside0.mk hE2; have HF2 := Aside0.mk hf2; clear hE2 hf2 HR2))
          go_roundw
          case rel => exact ⟨k + 1, 0, _, none, 0, 0, none, 0, 0, [], hlt, by go_num, ⟨reset_pair (HP.out.below (below_alloc (Below.refl _ _) _)) HF2.out HE2.out (by exact (((Fr.refl (only h) w2r).setCell (p := ⟨h, 3, none⟩) (.inl rfl) _).setCell (p := ⟨h, 4, none⟩) (.inl rfl) _).setCell (p := ⟨h, 5, none⟩) (.inl rfl) _) (by exact blk_put (blk_put (blk_put HR3.out 3 _ rfl) 4 _ rfl) 5 _ rfl)⟩, ⟨fun x hx => by cases hx⟩⟩
          case measure => simp [intOf]; omega
        | false =>
          obtain ⟨pl, hpl⟩ : ∃ t, t = lq.take 120 := ⟨_, rfl⟩
          have hcu := cut_120 lq
          have hpn : pl.length ≤ 120 := by rw [hpl, List.length_take]; omega
          have hpr : ∀ x ∈ pl, 0 ≤ x ∧ x < 256 := fun x hx => hrq x (List.mem_of_mem_take (by rw [← hpl]; exact hx))
          rw [← hpl] at hcu
          have HQ := Aside0.mk (And.intro hlq (And.intro hCq hcu))
          have HPL := Aside0.mk (copy_f pl (by omega))
          have HPN := Aside0.mk (And.intro (show pl.length ≤ 1000000 by omega) hpr)
          have HGL := Aside0.mk (And.intro (hearS_gl t1 t2 l3 st d gl oq pl (fun l => l.length ≤ 5) (by simp) HP.out.glen (fun m => List.length_filter_le _ [0, 1, 2, 3, 4])) (hearS_gl t1 t2 l3 st d gl oq pl (fun l => ∀ x ∈ l, 0 ≤ x ∧ x < 256) (fun x hx => by cases hx) HGR.out (fun m => five_mem (show Five (sortedL m) from List.filter_sublist))))
          clear hpl hcu hpn hpr hlq hCq hrq hlk
          go_wp2_with (first | (go_at_call 30; go_must (refine (vitrineref01_Cut.calls Aq cq lq 120 pl _ (by exact Kd.C_alloc HQ.out.2.1 _) HQ.out.1 HQ.out.2.2).mono ?_; rintro e wa ⟨va, rfl, hoa, hba⟩; obtain ⟨Aa, ca, rfl, hca, hCa⟩ := OwnB.reads hoa; have HBa := Aside0.mk (below_alloc (Below.refl wr.heap.size wr) _ |>.trans (hba.mono (by simp))); have HPa := Aside0.mk (HP.out.below HBa.out); have HCa := Aside0.mk (And.intro hca hCa); have y1 := (blk_cell (blk_below (blk_new wr _) hba) 1).trans rfl; have HYa := Aside0.mk (blk_below (blk_new wr _) hba); clear hoa hba hca hCa)) | (go_at_call 41; go_must (refine (vitrineref01_Copy.calls Aa ca pl pl _ HCa.out.2 HCa.out.1 HPL.out).mono ?_; rintro e wb ⟨vb, rfl, hob, hbb⟩; have HLb := Aside0.mk (own_lt (own_nums (show OwnB wb _ vb pl from hob))); have HOb := Aside0.mk (show OwnB wb wa.heap.size vb pl from hob); obtain ⟨Ab, cb, rfl, hcb, hCb⟩ := OwnB.reads hob; have HBb := Aside0.mk hbb; have HPb := Aside0.mk (HPa.out.below hbb); have HCb := Aside0.mk (And.intro hcb hCb); have y1 := (blk_cell (blk_below HYa.out hbb) 1).trans rfl; have HYb := Aside0.mk (blk_below HYa.out hbb); clear hob hbb hcb hCb)) | (go_at_call 28; go_must (refine (hearA _ g t1 t2 F nf cf l3 st d G ng cg gl HPb.out.e HPb.out.f HPb.out.fz HPb.out.len HRG.out HOK.out.2.2 (by have := HT.out.1; omega) (by have := HT.out.2.1; omega) _ _ _ _ pl HCb.out.2 HCb.out.1 HPN.out.1 HPN.out.2).mono ?_; rintro e wc ⟨vx, G1, ng1, cg1, rfl, hox, hEx, hfx, hgx⟩; have HX := Aside0.mk (And.intro hox (And.intro hEx (And.intro hfx hgx))); have HLx := Aside0.mk (own_lt (own_nums hox)); obtain ⟨Ax, nx, cx, rfl, hcx, hCx, _⟩ := OwnB.open hox; have HRc := Aside0.mk (hfx.blk HPb.out.r (fun e => HPb.out.gh e.symm) : RefB wc h t1 t2 (.slice A2 l3.length c2) st d (.slice G2 ng2 cg2)); have y1 := (blk_cell (hfx.blk HYb.out (fun e => by (have h1 := blk_lt HP.out.e; have h2 : wr.heap.size = g := e; omega))) 1).trans rfl; clear hox hEx hfx hgx hcx hCx)) | (go_at_call 42; go_must (refine (hearB _ h t1 t2 A2 l3.length c2 l3 st d G2 ng2 cg2 gl HRc.out (C_fr HPb.out.f2 HX.out.2.2.1 (C_apart HPb.out.f2 HPb.out.e)) HPb.out.f2c (by have := HPb.out.len; omega) HRG.out (by have := HT.out.1; omega) (by have := HT.out.2.1; omega) _ _ _ _ pl (C_fr (Kd.C_below HCa.out.2 HBb.out) HX.out.2.2.1 (C_apart (Kd.C_below HCa.out.2 HBb.out) HPb.out.e)) HCa.out.1 HPN.out.1 HPN.out.2).mono ?_; rintro e wd ⟨vy, G3, ng3, cg3, rfl, hoy, hEy, hfy, hgy⟩; have HY := Aside0.mk (And.intro hoy (And.intro hEy (And.intro hfy hgy))); obtain ⟨Ay, ny, cy, rfl, hcy, hCy, _⟩ := OwnB.open hoy; have HPd := Aside0.mk (step_pair HPb.out HX.out.2.2.1 HX.out.2.1 HX.out.2.2.2 hfy hEy hgy HGL.out.1); have HCy := Aside0.mk (And.intro hcy hCy); have HOx := Aside0.mk (OwnB.fr HX.out.1 hfy (fun k hk hk2 => by (have h1 := own_ge HX.out.1 k hk; have h2 : k = h := hk2; have h3 := blk_lt HPb.out.r; omega))); have HOq := Aside0.mk (OwnB.fr (OwnB.fr HOb.out HX.out.2.2.1 (fun k hk hk2 => by (have h1 := own_ge HOb.out k hk; have h2 : k = g := hk2; have h3 := blk_lt HPa.out.e; omega))) hfy (fun k hk hk2 => by (have h1 := own_ge HOb.out k hk; have h2 : k = h := hk2; have h3 := blk_lt HPa.out.r; omega))); have HCp := Aside0.mk (C_fr (C_fr (Kd.C_below HCa.out.2 HBb.out) HX.out.2.2.1 (C_apart (Kd.C_below HCa.out.2 HBb.out) HPb.out.e)) hfy (C_apart78 (C_fr (Kd.C_below HCa.out.2 HBb.out) HX.out.2.2.1 (C_apart (Kd.C_below HCa.out.2 HBb.out) HPb.out.e)) HRc.out)); have HCx := Aside0.mk (show nx ≤ cx ∧ Kd.C (Kd.int .u8) wd Ax nx _ from by (obtain ⟨A', n', c', he, h1, h2, _⟩ := OwnB.open HOx.out; cases he; exact ⟨h1, h2⟩)); have HCq := Aside0.mk (show pl.length ≤ cb ∧ Kd.C (Kd.int .u8) wd Ab pl.length _ from by (obtain ⟨A', c', he, h1, h2⟩ := OwnB.reads HOq.out; cases he; exact ⟨h1, h2⟩)); clear hoy hEy hfy hgy hcy hCy)) | (go_at_call 37; have tk := HCx; go_must (clear tk; refine (same_q _ _ _ _ _ _ _ _ HCx.out.2 HCx.out.1 HCy.out.2 HCy.out.1).mono ?_; rintro e w37 ⟨rfl, q1, rfl⟩; clear HCx)) | (go_at_call 37; go_must (refine (same_q _ _ _ _ _ _ _ pl (Kd.C_drewN HCq.out.2 _) HCq.out.1 (Kd.C_drewN HCp.out _) HCa.out.1).mono ?_; rintro e w38 ⟨rfl, q2, rfl⟩)) | (go_at_call 43; go_must (refine (same_pair _ g h t1 t2 F nf cf A2 l3.length c2 l3 _ _ _ _ _ _ _ _ _ w (HPd.out.below (pw_below_drewN (Below.refl _ _) _)) HGL.out.2).mono ?_; rintro e we ⟨rfl, hbe⟩; have HBe := Aside0.mk ((pw_below_drewN (Below.refl wd.heap.size wd) _).trans (hbe.mono (by simp))); have HPe := Aside0.mk (HPd.out.below HBe.out); clear hbe)) | (go_at_call 40; have tk := HPe; go_must (clear tk; refine (flip_own _ wa.heap.size _ pl (OwnB.below HOq.out HBe.out) ?zs).mono ?_; (case zs => exact Nat.le_trans HBb.out.size (Nat.le_trans HX.out.2.2.1.size (Nat.le_trans HY.out.2.2.1.size HBe.out.size))); rintro e wf ⟨rfl, hff⟩; have HPf := Aside0.mk (HPe.out.off hff (fun k hk => Nat.le_trans HPa.out.b.size (own_ge HOb.out k hk)) (fun hk => by (have h1 := own_ge HOb.out _ hk; have h2 := blk_lt HPa.out.e; omega)) (fun hk => by (have h1 := own_ge HOb.out _ hk; have h2 := blk_lt HPa.out.r; omega)) (fun ad e hn hk => by (have h1 := own_ge HOb.out _ hk; have h2 := C_lt HPa.out.f ad e hn; omega)) (fun ad e hn hk => by (have h1 := own_ge HOb.out _ hk; have h2 := C_lt HPa.out.f2 ad e hn; omega)) (fun h3 ad e hn hk => by (have h1 := own_ge HOb.out _ hk; have h4 := HLb.out _ hk; rcases HX.out.2.2.2 h3 with ⟨r1, r2, _, r4, _⟩ | ⟨_, _, r5⟩; (subst r1; subst r2; have h2 := C_lt (HPa.out.a r4) ad e hn; omega); (have h2 := (r5 ad e hn).1; omega))) (fun h3 ad e hn hk => by (have h1 := own_ge HOb.out _ hk; have h4 := HLb.out _ hk; rcases HY.out.2.2.2 h3 with ⟨r1, r2, _, r4, _⟩ | ⟨_, _, r5⟩; (subst r1; subst r2; have h2 := C_lt (HPa.out.a2 r4) ad e hn; omega); (have h2 := (r5 ad e hn).1; have h6 := HX.out.2.2.1.size; omega)))); have HOf := Aside0.mk (OwnB.fr (OwnB.below HOx.out HBe.out) hff (fun k hk hk2 => by (have h1 := own_ge HX.out.1 k hk; have h2 := HLb.out k hk2; omega))); have HSf := Aside0.mk hff.size; clear hff HPe)) | (go_at_call 40; go_must (refine (flip_own _ wb.heap.size _ _ HOf.out ?zs).mono ?_; (case zs => exact Nat.le_trans HX.out.2.2.1.size (Nat.le_trans HY.out.2.2.1.size (Nat.le_trans HBe.out.size HSf.out))); rintro e wg ⟨rfl, hfg⟩; have HPg := Aside0.mk (HPf.out.off hfg (fun k hk => Nat.le_trans HPb.out.b.size (own_ge HX.out.1 k hk)) (fun hk => by (have h1 := own_ge HX.out.1 _ hk; have h2 := blk_lt HPb.out.e; omega)) (fun hk => by (have h1 := own_ge HX.out.1 _ hk; have h2 := blk_lt HPb.out.r; omega)) (fun ad e hn hk => by (have h1 := own_ge HX.out.1 _ hk; have h2 := C_lt HPb.out.f ad e hn; omega)) (fun ad e hn hk => by (have h1 := own_ge HX.out.1 _ hk; have h2 := C_lt HPb.out.f2 ad e hn; omega)) (fun h3 ad e hn hk => by (have h1 := own_ge HX.out.1 _ hk; rcases HX.out.2.2.2 h3 with ⟨r1, r2, _, r4, _⟩ | ⟨_, _, r5⟩; (subst r1; subst r2; have h2 := C_lt (HPb.out.a r4) ad e hn; omega); exact (r5 ad e hn).2 hk)) (fun h3 ad e hn hk => by (have h1 := own_ge HX.out.1 _ hk; have h4 := HLx.out _ hk; rcases HY.out.2.2.2 h3 with ⟨r1, r2, _, r4, _⟩ | ⟨_, _, r5⟩; (subst r1; subst r2; have h2 := C_lt (HPb.out.a2 r4) ad e hn; omega); (have h2 := (r5 ad e hn).1; omega)))); clear hfg HPf)))
          go_roundw
          case rel => exact ⟨k + 1, _, _, _, _, _, _, _, _, _, hlt, by go_num, HPg, ⟨HGL.out.2⟩⟩
          case measure => simp [intOf]; omega
      · have h30i : (30 : Int) ≤ (k : Int) := by omega
        go_wp2_with (go_at_call 43; go_must (refine (same_pair _ g h t1 t2 F nf cf A2 l3.length c2 l3 st d G ng cg G2 ng2 cg2 gl w (HP.out.below (below_alloc (Below.refl _ _) _)) HGR.out).mono ?_; rintro e we ⟨rfl, hbe⟩; have HBe := Aside0.mk ((HP.out.below (below_alloc (Below.refl _ _) _)).b.trans (hbe.mono (HP.out.below (below_alloc (Below.refl _ _) _)).b.size)); clear hbe))
        go_ret
        exact ⟨rfl, HBe.out⟩
    · go_wp2_with (go_at_call 43; go_must (refine (same_pair _ g h t1 t2 F nf cf A2 l3.length c2 l3 st d G ng cg G2 ng2 cg2 gl w HP.out HGR.out).mono ?_; rintro e we ⟨rfl, hbe⟩; have HBe := Aside0.mk (HP.out.b.trans (hbe.mono HP.out.b.size)); clear hbe))
      go_ret
      exact ⟨rfl, HBe.out⟩
theorem plays_walk (w : World) (ty dev : ByteArray) (A : Option Addr) (n c : Nat) (fl : List Int) (B : Option Addr) (m cm : Nat) (ops : List (Bool × Int × List Int))
    (hr : Kd.C (Kd.int .u8) w A n fl) (hc : n ≤ c) (hH : Kd.C opT w B m ops) (hm2 : m ≤ 140737488351232) (hrng : ∀ x ∈ fl, 0 ≤ x ∧ x < 256) (hro : ∀ q ∈ ops, ∀ x ∈ q.2.2, 0 ≤ x ∧ x < 256) :
    Calls Try.prog 8 #[.agg #[.string ty, .string dev, .slice A n c], .slice B m cm] w fun e w' => e = .returned (.bool true) ∧ Below w.heap.size w w' := by
  by_cases hno : codeNew (cutS ty 45) (cutS dev 45) (fl.take 8) = 0
  · exact plays_good w ty dev A n c fl B m cm ops hr hc hH hm2 hrng hro hno
  · exact plays_bad w ty dev A n c fl B m cm ops hr hc hH hm2 hrng hro hno
end Go.Proofs.Ytclpkbgjaiacpaa
