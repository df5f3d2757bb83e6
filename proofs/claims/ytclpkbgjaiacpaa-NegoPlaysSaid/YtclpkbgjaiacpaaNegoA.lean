/- What is proved: what the small functions of the package nego do, and words for slices of bytes and for what a call keeps. Conditions: those that each theorem states. -/
import Derived.Test.YtclpkbgjaiacpaaPNegoAgreesx1
import Derived.Test.YtclpkbgjaiacpaaPNegoAgreesx8
import Derived.WalkSpells
import Derived.Lib.SliceRun
import Derived.Test.YtclpkbgjaiacpaaShelf
import Derived.Deep.DeepMust
namespace Go.Proofs.Ytclpkbgjaiacpaa
open Go.RowKit Go.Proofs.YtclpkbgjaiacpaaW.PrintWords Go.Proofs.YtclpkbgjaiacpaaW.PrintLast Go.Proofs.YtclpkbgjaiacpaaW.PrintMore
open Go.Proofs.Ytclpkbgjaiacpaa.PNegoAgrees
set_option linter.unusedVariables false
set_option linter.unusedSimpArgs false
/-! ### words -/
/-- What a call may write of what was there: the blocks of S alone. -/
structure Fr (S : Nat → Prop) (w w' : World) : Prop where
  os : w'.os = w.os
  tape : w'.tape = w.tape
  output : w'.output = w.output
  size : w.heap.size ≤ w'.heap.size
  block : ∀ k, k < w.heap.size → ¬ S k → w'.heap[k]? = w.heap[k]?
namespace Fr
variable {S S' : Nat → Prop} {w w1 w2 : World}
theorem refl (S : Nat → Prop) (w : World) : Fr S w w := ⟨rfl, rfl, rfl, Nat.le_refl _, fun _ _ _ => rfl⟩
theorem of_below (h : Below w.heap.size w w1) : Fr S w w1 := ⟨h.os, h.tape, h.output, h.size, fun k hk _ => h.block k hk⟩
theorem to_below (h : Fr S w w1) (hs : ∀ k, S k → w.heap.size ≤ k) : Below w.heap.size w w1 :=
  ⟨h.os, h.tape, h.output, h.size, fun k hk => h.block k hk (fun hS => by have := hs k hS; omega)⟩
/-- Later blocks (those at or beyond the first world's size) may be written freely. -/
theorem then_ (h : Fr S w w1) (k : Fr S' w1 w2) (hs : ∀ i, S' i → S i ∨ w.heap.size ≤ i) : Fr S w w2 :=
  ⟨k.os.trans h.os, k.tape.trans h.tape, k.output.trans h.output, Nat.le_trans h.size k.size,
   fun i hi hn => (k.block i (Nat.lt_of_lt_of_le hi h.size) (fun h2 => (hs i h2).elim hn (fun h3 => by omega))).trans (h.block i hi hn)⟩
theorem mono (h : Fr S w w1) (hs : ∀ i, S i → S' i) : Fr S' w w1 := ⟨h.os, h.tape, h.output, h.size, fun i hi hn => h.block i hi (fun hk => hn (hs i hk))⟩
theorem below (h : Fr S w w1) (k : Below w1.heap.size w1 w2) : Fr S w w2 := h.then_ (of_below (S := fun _ => False) k) (fun _ hk => hk.elim)
theorem grown (h : Fr S w w1) {row : Option Nat} (k : w1.grownBy w2 row) (hr : ∀ i, row = some i → S i ∨ w.heap.size ≤ i) : Fr S w w2 :=
  h.then_ (S' := fun i => row = some i) ⟨k.os, k.tape, k.output, k.size, fun i hi hn => k.block i hi (fun he => hn he.symm)⟩ hr
theorem alloc (h : Fr S w w1) (o : Obj) : Fr S w (w1.alloc o) := h.below (below_alloc (Below.refl _ _) o)
theorem drew (h : Fr S w w1) : Fr S w w1.drew := ⟨h.os, h.tape, h.output, h.size, h.block⟩
theorem drewN (h : Fr S w w1) (n : Nat) : Fr S w (w1.drewN n) := ⟨h.os, h.tape, h.output, h.size, h.block⟩
theorem setCell (h : Fr S w w1) {p : Addr} (hp : S p.block ∨ w.heap.size ≤ p.block) (u : Value) : Fr S w (w1.setCell p u) :=
  h.then_ (S' := fun i => i = p.block) ⟨rfl, rfl, rfl, by simp [World.setCell], fun i _ hn => Below.heap_setCell w1 p u i hn⟩ (fun i hi => by rw [hi]; exact hp)
theorem blk (h : Fr S w w1) {g : Nat} {o : Obj} (hb : w.heap[g]? = some o) (hn : ¬ S g) : w1.heap[g]? = some o := (h.block g (blk_lt hb) hn).trans hb
end Fr

theorem blk_new_set (w : World) (p : Addr) (u : Value) (o : Obj) : ((w.setCell p u).alloc o).heap[w.heap.size]? = some o := by
  have h := blk_new (w.setCell p u) o
  rwa [show (w.setCell p u).heap.size = w.heap.size from by simp [World.setCell]] at h
/-- Only block g. -/
def only (g : Nat) : Nat → Prop := fun k => k = g
/-- Nothing that was there. -/
def nothing : Nat → Prop := fun _ => False

/-- A terminal's end at block g. -/
def EndB (w : World) (g : Nat) (ty dev : ByteArray) (fs : Value) (st : Int) (d : ByteArray) (ag : Value) : Prop :=
  w.heap[g]? = some (.cells #[.string ty, .string dev, fs, .int .i64 st, .string d, ag] 113 (0, 0))

theorem state_at (w : World) (g : Nat) (ty dev : ByteArray) (fs : Value) (st : Int) (d : ByteArray) (ag : Value) (h : EndB w g ty dev fs st d ag) :
    Calls Try.prog 29 #[.pointer (some ⟨g, 0, none⟩)] w fun e w' => e = .returned (.int .i64 st) ∧ w = w' := by
  have hc3 : w.cell? ⟨g, 3, none⟩ = some (.int .i64 st) := blk_cell h 3
  clear h
  go_enter Try.func29, Try.ntmps29
  go_wp2
  go_ret
  exact ⟨rfl, rfl⟩

theorem state_nil (w : World) :
    Calls Try.prog 29 #[.pointer none] w fun e w' => e = .returned (.int .i64 4) ∧ w = w' := by
  go_enter Try.func29, Try.ntmps29
  go_wp2
  go_ret
  exact ⟨rfl, rfl⟩

theorem ready_at (w : World) (g : Nat) (ty dev : ByteArray) (fs : Value) (st : Int) (d : ByteArray) (ag : Value) (h : EndB w g ty dev fs st d ag) :
    Calls Try.prog 31 #[.pointer (some ⟨g, 0, none⟩)] w fun e w' => e = .returned (.bool (st == 3)) ∧ w = w' := by
  go_enter Try.func31, Try.ntmps31
  go_wp2_with (go_at_call 29; refine (state_at _ _ _ _ _ _ _ _ h).mono ?_; rintro e w' ⟨rfl, rfl⟩)
  go_ret
  exact ⟨rfl, rfl⟩

theorem functions_not (w : World) (g : Nat) (ty dev : ByteArray) (fs : Value) (st : Int) (d : ByteArray) (ag : Value) (h : EndB w g ty dev fs st d ag) (hst : st ≠ 3) :
    Calls Try.prog 32 #[.pointer (some ⟨g, 0, none⟩)] w fun e w' => e = .returned (.slice none 0 0) ∧ w = w' := by
  have hb : (st == 3) = false := beq_eq_false_iff_ne.2 hst
  clear hst
  go_enter Try.func32, Try.ntmps32
  go_wp2_with (go_at_call 31; refine (ready_at _ _ _ _ _ _ _ _ h).mono ?_; rintro e w' ⟨rfl, rfl⟩)
  go_ret
  exact ⟨rfl, rfl⟩

theorem reset_at (w : World) (g : Nat) (ty dev : ByteArray) (fs : Value) (st : Int) (d : ByteArray) (ag : Value) (h : EndB w g ty dev fs st d ag) :
    Calls Try.prog 33 #[.pointer (some ⟨g, 0, none⟩)] w fun e w' => e = .returned (.tuple #[]) ∧ EndB w' g ty dev fs 0 (⟨#[]⟩ : ByteArray) (.slice none 0 0) ∧ Fr (only g) w w' := by
  have hc3 : w.cell? ⟨g, 3, none⟩ = some (.int .i64 st) := blk_cell h 3
  have hc4 : w.cell? ⟨g, 4, none⟩ = some (.string d) := blk_cell h 4
  have hc5 : w.cell? ⟨g, 5, none⟩ = some ag := blk_cell h 5
  have hf3 := blk_frozen h 3
  have hf4 := blk_frozen h 4
  have hf5 := blk_frozen h 5
  have H := Aside0.mk h
  clear h
  go_enter Try.func33, Try.ntmps33
  go_wp2
  go_end0
  exact ⟨rfl, blk_put (blk_put (blk_put H.out 3 _ rfl) 4 _ rfl) 5 _ rfl, (((Fr.refl (only g) w).setCell (p := ⟨g, 3, none⟩) (.inl rfl) _).setCell (p := ⟨g, 4, none⟩) (.inl rfl) _).setCell (p := ⟨g, 5, none⟩) (.inl rfl) _⟩

/-! ### bytes -/
section
variable {ops : Array Oper} {rest : List Oper} {o : Oper} {a : Act} {Q : Exit → Act → World → Prop}
/-- append(v, l...) of bytes, v of the call's own. -/
theorem appB {w0 W : World} (base : Nat) (hgd : o.guard = none) (s x : Operand) (ho : o.op = .call { callee := .builtin .append, args := #[s, x], argTypes := #[49, 49] })
    (v : Value) (xs ys : List Int) (A : Option Addr) (c : Nat) (hs : a.eval s = v) (hx : a.eval x = .slice A ys.length c)
    (HO : Kd.R (Kd.int .u8) 5 W base (fun _ => True) v xs) (HR : Kd.C (Kd.int .u8) W A ys.length ys)
    (HB : Below base w0 W) (hbase : base ≤ W.heap.size) (hl : xs.length + ys.length ≤ 140737488355328)
    (h : ∀ v1 w1, Kd.R (Kd.int .u8) 5 w1 base (fun _ => True) v1 (xs ++ ys) → Below base w0 w1 → W.grownBy w1 v.ownBlock → (v1.ownBlock = v.ownBlock ∨ ∃ b, v1.ownBlock = some b ∧ W.heap.size ≤ b) → wpList Try.prog ops Q rest (a.put o.dst v1) w1) :
    wpList Try.prog ops Q (o :: rest) a W :=
  Kd.R_append_rows (Kd.int .u8) (okp := fun _ => False) base hgd s x 49 5 (.int .u8 0) 1 ho Try.underlying49 info5 rfl (by decide) (by decide) v xs ys A ys.length c (fun _ => True) hs hx HO HR (fun _ _ h => h) (fun _ h => h.elim) (fun _ _ => trivial) HB hbase (by omega) h
end

theorem clone_nil (w : World) (n c : Nat) :
    Calls Try.prog 56 #[.slice none n c] w fun e w' => e = .returned (.slice none 0 0) ∧ w = w' := by
  have hq := fun (w : World) => Lib.run_eql_slice_nil (P := Try.prog) w 49 5 none n c 0 0 Try.underlying49
  simp only [Option.isNone] at hq
  go_enter Try.func56, Try.ntmps56
  go_wp2
  go_ret
  exact ⟨rfl, rfl⟩

theorem clone_some (w : World) (ad : Addr) (l : List Int) (c : Nat) (hr : Kd.C (Kd.int .u8) w (some ad) l.length l) (hl : l.length ≤ 140737488355328) :
    Calls Try.prog 56 #[.slice (some ad) l.length c] w fun e w' => ∃ v, e = .returned v ∧ Kd.R (Kd.int .u8) 5 w' w.heap.size (fun _ => True) v l ∧ Below w.heap.size w w' := by
  have hq := fun (w : World) => Lib.run_eql_slice_nil (P := Try.prog) w 49 5 (some ad) l.length c 0 0 Try.underlying49
  simp only [Option.isNone] at hq
  have HR := Aside0.mk hr
  have HL := Aside0.mk hl
  clear hr hl
  go_enter Try.func56, Try.ntmps56
  go_wp2_with (first | ((with_reducible refine gate_dst (N := 5) rfl ?_); refine Kd.R_lit (Kd.int .u8) w.heap.size 5 ?hg (N := 5) ?hd (w0 := w) (xs := ([] : List Int)) (inner := []) (ok := fun _ => True) (okp := fun _ => True) ?hr ?hp (fun _ hk => hk) trivial (Below.refl _ _) (Nat.le_refl _) (by simp) ?_; (case hd => rfl); (case hg => rfl); (case hr => first | (go_simp; done) | (go_simp; rfl)); (case hp => exact (Reps.none _ _)); intro v1 w1 ho1 hb1 hg1 hn1; clear hg1 hn1; have HO1 := Aside0.mk ho1; have HB1 := Aside0.mk hb1; clear ho1 hb1) | ((with_reducible refine gate_builtin (b := .append) (xs := #[.tmp 5, .tmp 6]) rfl ?_); refine appB (w0 := w) w.heap.size rfl (.tmp 5) (.tmp 6) rfl _ [] l (some ad) c rfl rfl HO1.out (Kd.C_below HR.out HB1.out) HB1.out HB1.out.size (by have := HL.out; simp; omega) ?_; intro v2 w2 ho2 hb2 hg2 hn2; clear hg2 hn2; have HO2 := Aside0.mk ho2; have HB2 := Aside0.mk hb2; clear ho2 hb2))
  go_ret
  exact ⟨_, rfl, HO2.out, HB2.out⟩
/-! ### plain: Name, rises -/
theorem w64 {x : Int} (h0 : -9223372036854775808 ≤ x) (h1 : x < 9223372036854775808) : wrap64 x = x := by unfold wrap64; omega
def nameB (s : ByteArray) : Bool := ((List.range' 0 s.size).all fun j => decide (33 ≤ bt s j) && decide (bt s j ≤ 126)) && (!s.toList.isEmpty && decide ((s.size : Int) ≤ 40))
theorem name_l0 (s : ByteArray) (hs : s.size ≤ 4611686018427387904) (d : Nat) : ∀ (k i : Nat), i + d = s.size → d < k →
    nego_Name.l0 k s (s.size : Int) (i : Int) = some (((List.range' i d).all fun j => decide (33 ≤ bt s j) && decide (bt s j ≤ 126)) && (!s.toList.isEmpty && decide ((s.size : Int) ≤ 40))) := by
  induction d with
  | zero =>
    intro k i hi hk
    obtain ⟨k, rfl⟩ : ∃ m, k = m + 1 := ⟨k - 1, by omega⟩
    simp only [nego_Name.l0]
    rw [if_neg (by omega)]
    cases h : s.toList with
    | nil => simp
    | cons x xs => simp
  | succ d ih =>
    intro k i hi hk
    obtain ⟨k, rfl⟩ : ∃ m, k = m + 1 := ⟨k - 1, by omega⟩
    simp only [nego_Name.l0]
    rw [if_pos (by omega), if_pos (by omega), if_pos (by omega), List.range'_succ, List.all_cons]
    by_cases h1 : bt s i < 33
    · rw [if_pos h1, decide_eq_false (by omega)]; simp
    · rw [if_neg h1]
      by_cases h2 : bt s i > 126
      · rw [if_pos h2, decide_eq_true (by omega), decide_eq_false (by omega)]; simp
      · rw [if_neg h2, w64 (by omega) (by omega), decide_eq_true (by omega), decide_eq_true (by omega)]
        have := ih k (i + 1) (by omega) (by omega)
        rw [show ((i + 1 : Nat) : Int) = (i : Int) + 1 from by omega] at this
        rw [this]; simp
theorem name_f (s : ByteArray) (hs : s.size ≤ 4611686018427387904) : nego_Name.f (s.size + 1) s = some (nameB s) := name_l0 s hs s.size (s.size + 1) 0 (by omega) (by omega)

def risesB (l : List Int) : Bool := (List.range' 0 l.length).all fun j => decide (rd l j ≤ 4) && (decide (j = 0) || decide (rd l (j - 1 : Nat) < rd l j))
theorem rises_l0 (l : List Int) (hs : l.length ≤ 4611686018427387904) (d : Nat) : ∀ (k i : Nat), i + d = l.length → d < k →
    nego_rises.l0 k l l (l.length : Int) (i : Int) = some ((List.range' i d).all fun j => decide (rd l j ≤ 4) && (decide (j = 0) || decide (rd l (j - 1 : Nat) < rd l j))) := by
  induction d with
  | zero =>
    intro k i hi hk
    obtain ⟨k, rfl⟩ : ∃ m, k = m + 1 := ⟨k - 1, by omega⟩
    simp only [nego_rises.l0]
    rw [if_neg (by omega)]
    simp
  | succ d ih =>
    intro k i hi hk
    obtain ⟨k, rfl⟩ : ∃ m, k = m + 1 := ⟨k - 1, by omega⟩
    simp only [nego_rises.l0]
    have hn := ih k (i + 1) (by omega) (by omega)
    rw [show ((i + 1 : Nat) : Int) = (i : Int) + 1 from by omega] at hn
    rw [if_pos (by omega), if_pos (by omega), if_pos (by omega), List.range'_succ, List.all_cons]
    by_cases h1 : rd l i > 4
    · rw [if_pos h1, decide_eq_false (by omega)]; simp
    · rw [if_neg h1, decide_eq_true (by omega)]
      by_cases h2 : (i : Int) > 0
      · rw [if_pos h2, w64 (by omega) (by omega), if_pos (by omega), if_pos (by omega)]
        have e : rd l ((i - 1 : Nat) : Int) = rd l ((i : Int) - 1) := by rw [show ((i - 1 : Nat) : Int) = (i : Int) - 1 from by omega]
        by_cases h3 : rd l ((i : Int) - 1) ≥ rd l i
        · rw [if_pos h3, e, decide_eq_false (by omega), decide_eq_false (by omega)]; simp
        · rw [if_neg h3, w64 (by omega) (by omega), hn, e, decide_eq_false (by omega), decide_eq_true (by omega)]; simp
      · obtain rfl : i = 0 := by omega
        rw [if_neg h2, w64 (by omega) (by omega), hn]; simp
theorem rises_f (l : List Int) (hs : l.length ≤ 4611686018427387904) : nego_rises.f (l.length + 1) l = some (risesB l) := rises_l0 l hs l.length (l.length + 1) 0 (by omega) (by omega)
/-- A row of bytes that is nil, or the call's own. -/
def OwnB (w : World) (base : Nat) (v : Value) (l : List Int) : Prop := Kd.R (Kd.int .u8) 5 w base (fun _ => True) v l
namespace OwnB
variable {w w1 : World} {base : Nat} {v : Value} {l : List Int}
theorem slice (h : OwnB w base v l) : ∃ A c, v = .slice A l.length c := Kd.R_slice h
theorem reads (h : OwnB w base v l) : ∃ A c, v = .slice A l.length c ∧ l.length ≤ c ∧ Kd.C (Kd.int .u8) w A l.length l := Kd.R_reads h
theorem below (h : OwnB w base v l) (hb : Below w.heap.size w w1) : OwnB w1 base v l := Kd.R_below h hb
theorem lower {b' : Nat} (h : OwnB w base v l) (hb : b' ≤ base) : OwnB w b' v l := Kd.R_lower h hb
/-- A store into a block of another type. -/
theorem store (h : OwnB w base v l) {g t : Nat} {cs : Array Value} (hb : w.heap[g]? = some (.cells cs t (0, 0))) (ht : t ≠ 5) (j : Nat) (u : Value) : OwnB (w.setCell ⟨g, j, none⟩ u) base v l :=
  Kd.R_set h hb (fun q hq => by
    rcases List.mem_cons.1 hq with rfl | hq
    · exact fun e => ht e.symm
    · cases hq) j u
theorem fr (h : OwnB w base v l) {S : Nat → Prop} (hf : Fr S w w1) (hs : ∀ k, v.ownBlock = some k → ¬ S k) : OwnB w1 base v l := by
  obtain ⟨h0, inner, ho, hr⟩ := h
  refine ⟨h0, inner, own_move ho (fun k hk => hf.block k (own_lt ho k hk) (hs k hk)), hr⟩
end OwnB

theorem clone_any (w : World) (A : Option Addr) (l : List Int) (c : Nat) (hr : Kd.C (Kd.int .u8) w A l.length l) (hl : l.length ≤ 140737488355328) :
    Calls Try.prog 56 #[.slice A l.length c] w fun e w' => ∃ v, e = .returned v ∧ OwnB w' w.heap.size v l ∧ Below w.heap.size w w' := by
  cases A with
  | none =>
    have h0 : l = [] := by
      rcases Nat.eq_zero_or_pos l.length with h | h
      · exact List.eq_nil_of_length_eq_zero h
      · obtain ⟨ad, e, _⟩ := hr.2.2 h
        cases e
    subst h0
    refine (clone_nil w _ c).mono ?_
    rintro e w' ⟨rfl, rfl⟩
    exact ⟨_, rfl, Kd.R_nil _ _ _ _ _, Below.refl _ _⟩
  | some ad => exact clone_some w ad l c hr hl

theorem new_bad (w : World) (ty dev : ByteArray) (A : Option Addr) (l : List Int) (c : Nat) (k1 k2 : Nat) (b1 b2 : Bool)
    (h1 : nego_Name.f k1 ty = some b1) (h2 : nego_Name.f k2 dev = some b2) (hb : b1 = false ∨ (dev.toList.isEmpty = false ∧ b2 = false)) :
    Calls Try.prog 26 #[.agg #[.string ty, .string dev, .slice A l.length c]] w fun e w' => e = .returned (.tuple #[.pointer none, .int .i64 4]) ∧ Below w.heap.size w w' := by
  have H1 := Aside0.mk h1
  have H2 := Aside0.mk h2
  clear h1 h2
  rcases hb with rfl | ⟨hd, rfl⟩
  · go_enter Try.func26, Try.ntmps26
    go_wp2_with (first | (go_at_call 54; with_reducible refine (nego_Name.calls k1 ty _ _ H1.out).mono ?_; rintro e w' ⟨rfl, ⟨n, rfl⟩⟩))
    go_ret2
    exact ⟨rfl, by repeat (first | exact Below.refl _ _ | apply below_alloc | apply pw_below_drewN)⟩
  · cases b1
    · go_enter Try.func26, Try.ntmps26
      go_wp2_with (first | (go_at_call 54; with_reducible refine (nego_Name.calls k1 ty _ _ H1.out).mono ?_; rintro e w' ⟨rfl, ⟨n, rfl⟩⟩))
      go_ret2
      exact ⟨rfl, by repeat (first | exact Below.refl _ _ | apply below_alloc | apply pw_below_drewN)⟩
    · go_enter Try.func26, Try.ntmps26
      go_wp2_with (first | (go_at_call 54; with_reducible refine (nego_Name.calls k1 ty _ _ H1.out).mono ?_; clear H1; rintro e w' ⟨rfl, ⟨n, rfl⟩⟩) | (go_at_call 54; with_reducible refine (nego_Name.calls k2 dev _ _ H2.out).mono ?_; rintro e w' ⟨rfl, ⟨n2, rfl⟩⟩))
      go_ret2
      exact ⟨rfl, by repeat (first | exact Below.refl _ _ | apply below_alloc | apply pw_below_drewN)⟩
theorem new_list (w : World) (ty dev : ByteArray) (A : Option Addr) (l : List Int) (c : Nat) (k1 k2 k3 : Nat) (b2 : Bool)
    (h1 : nego_Name.f k1 ty = some true) (h2 : nego_Name.f k2 dev = some b2) (hb : dev.toList.isEmpty = true ∨ (dev.toList.isEmpty = false ∧ b2 = true))
    (h3 : nego_rises.f k3 l = some false) (hr : Kd.C (Kd.int .u8) w A l.length l) (hc : l.length ≤ c) :
    Calls Try.prog 26 #[.agg #[.string ty, .string dev, .slice A l.length c]] w fun e w' => e = .returned (.tuple #[.pointer none, .int .i64 1]) ∧ Below w.heap.size w w' := by
  have H1 := Aside0.mk h1
  have H2 := Aside0.mk h2
  have H3 := Aside0.mk h3
  have HR := Aside0.mk hr
  have HC := Aside0.mk hc
  clear h1 h2 h3 hr hc
  rcases hb with hd | ⟨hd, rfl⟩
  · go_enter Try.func26, Try.ntmps26
    go_wp2_with (first | (go_at_call 54; with_reducible refine (nego_Name.calls k1 ty _ _ H1.out).mono ?_; clear H1; rintro e w' ⟨rfl, ⟨n, rfl⟩⟩) | (go_at_call 55; with_reducible refine (nego_rises.calls k3 _ _ l _ _ ?side1 HC.out H3.out).mono ?_; (case side1 => repeat (first | exact HR.out | (with_reducible refine Kd.C_alloc ?_ _) | (with_reducible refine Kd.C_drewN ?_ _))); rintro e w' ⟨rfl, ⟨n2, rfl⟩⟩))
    go_ret2
    exact ⟨rfl, by repeat (first | exact Below.refl _ _ | apply below_alloc | apply pw_below_drewN)⟩
  · go_enter Try.func26, Try.ntmps26
    go_wp2_with (first | (go_at_call 54; with_reducible refine (nego_Name.calls k1 ty _ _ H1.out).mono ?_; clear H1; rintro e w' ⟨rfl, ⟨n, rfl⟩⟩) | (go_at_call 54; with_reducible refine (nego_Name.calls k2 dev _ _ H2.out).mono ?_; clear H2; rintro e w' ⟨rfl, ⟨n3, rfl⟩⟩) | (go_at_call 55; with_reducible refine (nego_rises.calls k3 _ _ l _ _ ?side1 HC.out H3.out).mono ?_; (case side1 => repeat (first | exact HR.out | (with_reducible refine Kd.C_alloc ?_ _) | (with_reducible refine Kd.C_drewN ?_ _))); rintro e w' ⟨rfl, ⟨n2, rfl⟩⟩))
    go_ret2
    exact ⟨rfl, by repeat (first | exact Below.refl _ _ | apply below_alloc | apply pw_below_drewN)⟩

theorem new_ok (w : World) (ty dev : ByteArray) (A : Option Addr) (l : List Int) (c : Nat) (k1 k2 k3 : Nat) (b2 : Bool)
    (h1 : nego_Name.f k1 ty = some true) (h2 : nego_Name.f k2 dev = some b2) (hb : dev.toList.isEmpty = true ∨ (dev.toList.isEmpty = false ∧ b2 = true))
    (h3 : nego_rises.f k3 l = some true) (hr : Kd.C (Kd.int .u8) w A l.length l) (hc : l.length ≤ c) (hl : l.length ≤ 140737488355328) :
    Calls Try.prog 26 #[.agg #[.string ty, .string dev, .slice A l.length c]] w fun e w' => ∃ g v, e = .returned (.tuple #[.pointer (some ⟨g, 0, none⟩), .int .i64 0]) ∧ EndB w' g ty dev v 0 (⟨#[]⟩ : ByteArray) (.slice none 0 0) ∧ w.heap.size ≤ g ∧ OwnB w' w.heap.size v l ∧ Below w.heap.size w w' := by
  have H1 := Aside0.mk h1
  have H2 := Aside0.mk h2
  have H3 := Aside0.mk h3
  have HR := Aside0.mk hr
  have HC := Aside0.mk hc
  have HL := Aside0.mk hl
  clear h1 h2 h3 hr hc hl
  rcases hb with hd | ⟨hd, rfl⟩
  · go_enter Try.func26, Try.ntmps26
    go_wp2_with (first | (go_at_call 54; with_reducible refine (nego_Name.calls k1 ty _ _ H1.out).mono ?_; clear H1; rintro e w' ⟨rfl, ⟨n, rfl⟩⟩) | (go_at_call 55; with_reducible refine (nego_rises.calls k3 _ _ l _ _ ?side1 HC.out H3.out).mono ?_; (case side1 => repeat (first | exact HR.out | (with_reducible refine Kd.C_alloc ?_ _) | (with_reducible refine Kd.C_drewN ?_ _))); rintro e w' ⟨rfl, ⟨n2, rfl⟩⟩) | (go_at_call 56; go_must (with_reducible refine (clone_any _ _ l c ?side1 HL.out).mono ?_; (case side1 => repeat (first | exact HR.out | (with_reducible refine Kd.C_alloc ?_ _) | (with_reducible refine Kd.C_drewN ?_ _))); rintro e w3 ⟨v, rfl, ho, hb⟩; obtain ⟨A9, c9, rfl⟩ := ho.slice; have BK := blk_below (blk_drewN (blk_new w _) _) hb; have x0 := (blk_cell BK 0).trans rfl; have x1 := (blk_cell BK 1).trans rfl; have x2 := (blk_cell BK 2).trans rfl; have f2 := blk_frozen BK 2; have HO := Aside0.mk ho; have HB := Aside0.mk hb; have HBK := Aside0.mk BK; clear ho hb BK)))
    have hz : w.heap.size + 1 ≤ w3.heap.size := by simpa using HB.out.size
    go_ret2
    exact ⟨w3.heap.size, _, rfl, blk_new_set _ _ _ _, by omega, ((HO.out.lower (by simp)).store HBK.out (by decide) 2 _).below (below_alloc (Below.refl _ _) _),
      (((((((Fr.refl nothing w).alloc _).drewN _).below HB.out).setCell (p := ⟨w.heap.size, 2, none⟩) (.inr (Nat.le_refl _)) _).alloc _).to_below (fun _ h => h.elim))⟩
  · go_enter Try.func26, Try.ntmps26
    go_wp2_with (first | (go_at_call 54; with_reducible refine (nego_Name.calls k1 ty _ _ H1.out).mono ?_; clear H1; rintro e w' ⟨rfl, ⟨n, rfl⟩⟩) | (go_at_call 54; with_reducible refine (nego_Name.calls k2 dev _ _ H2.out).mono ?_; clear H2; rintro e w' ⟨rfl, ⟨n3, rfl⟩⟩) | (go_at_call 55; with_reducible refine (nego_rises.calls k3 _ _ l _ _ ?side1 HC.out H3.out).mono ?_; (case side1 => repeat (first | exact HR.out | (with_reducible refine Kd.C_alloc ?_ _) | (with_reducible refine Kd.C_drewN ?_ _))); rintro e w' ⟨rfl, ⟨n2, rfl⟩⟩) | (go_at_call 56; go_must (with_reducible refine (clone_any _ _ l c ?side1 HL.out).mono ?_; (case side1 => repeat (first | exact HR.out | (with_reducible refine Kd.C_alloc ?_ _) | (with_reducible refine Kd.C_drewN ?_ _))); rintro e w3 ⟨v, rfl, ho, hb⟩; obtain ⟨A9, c9, rfl⟩ := ho.slice; have BK := blk_below (blk_drewN (blk_new w _) _) hb; have x0 := (blk_cell BK 0).trans rfl; have x1 := (blk_cell BK 1).trans rfl; have x2 := (blk_cell BK 2).trans rfl; have f2 := blk_frozen BK 2; have HO := Aside0.mk ho; have HB := Aside0.mk hb; have HBK := Aside0.mk BK; clear ho hb BK)))
    have hz : w.heap.size + 1 ≤ w3.heap.size := by simpa using HB.out.size
    go_ret2
    exact ⟨w3.heap.size, _, rfl, blk_new_set _ _ _ _, by omega, ((HO.out.lower (by simp)).store HBK.out (by decide) 2 _).below (below_alloc (Below.refl _ _) _),
      (((((((Fr.refl nothing w).alloc _).drewN _).below HB.out).setCell (p := ⟨w.heap.size, 2, none⟩) (.inr (Nat.le_refl _)) _).alloc _).to_below (fun _ h => h.elim))⟩
/-! ### bytes.Cut at one byte, got, once -/
theorem C_len {w : World} {A : Option Addr} {n : Nat} {l : List Int} (h : Kd.C (Kd.int .u8) w A n l) : l.length = n := h.1
theorem C_take {w : World} {A : Option Addr} {n : Nat} {l : List Int} (h : Kd.C (Kd.int .u8) w A n l) (i : Nat) (hi : i ≤ n) : Kd.C (Kd.int .u8) w A i (l.take i) := by
  obtain rfl : l.length = n := h.1
  have hr : ReadsOf (Value.int .u8) (0 : Int) w A l.length l := Kd.reads_of_C h
  have h2 := hr.take_ i hi
  exact Kd.C_of_reads h2
theorem C_drop {w : World} {A : Option Addr} {n : Nat} {l : List Int} (h : Kd.C (Kd.int .u8) w A n l) (i c : Nat) (hi : i ≤ n) (hc : n ≤ c) : Kd.C (Kd.int .u8) w (if c = i then A else A.map (·.add i)) (n - i) (l.drop i) := by
  obtain rfl : l.length = n := h.1
  have hr : ReadsOf (Value.int .u8) (0 : Int) w A l.length l := Kd.reads_of_C h
  have h2 := hr.drop_ (c := c) i hi hc
  exact Kd.C_of_reads h2
theorem C_cells {w : World} {ad : Addr} {l : List Int} (h : Kd.C (Kd.int .u8) w (some ad) l.length l) : ∀ i, i < l.length → w.cell? (ad.add i) = some (.int .u8 (l.getD i 0)) := by
  intro i hi
  have hr : ReadsOf (Value.int .u8) (0 : Int) w (some ad) l.length l := Kd.reads_of_C h
  obtain ⟨ad', e, hc⟩ := hr.2.2 (by omega)
  cases e
  exact hc i hi

theorem slice_take (A : Option Addr) (n c k : Nat) (hk : k ≤ n) (hc : n ≤ c) (W : World) :
    (Instr.slice 49 (.slice A n c) none (some (.int .i64 (k : Int))) none).run Try.prog W = .ok (.slice A k c) W := by
  obtain ⟨i0, hi, _, hsz, _⟩ := info_parts info5
  have h := (print_take_of (P := Try.prog) (Value.int .u8) (0 : Int) 49 5 .i64 Try.underlying49 hi hsz A c (List.replicate n 0) (k : Int) (Int.natCast_nonneg k) (by simp; omega) (by simpa using hc)).1 W
  simpa [Nat.min_eq_left hk] using h
/-- l[k:]. -/
theorem slice_drop (A : Option Addr) (n c k : Nat) (hk : k ≤ n) (W : World) :
    (Instr.slice 49 (.slice A n c) (some (.int .i64 (k : Int))) none none).run Try.prog W = .ok (.slice (if c = k then A else A.map (·.add k)) (n - k) (c - k)) W := by
  obtain ⟨i0, hi, _, hsz, _⟩ := info_parts info5
  have hel : Try.prog.elem 49 = 5 := by simp [Program.elem, Try.underlying49]
  have hu : Try.prog.underlying 49 = some (.slice (Try.prog.elem 49)) := by rw [hel]; exact Try.underlying49
  rw [run_slice_l W 49 A n c hu .i64 (k : Int) (Int.natCast_nonneg _) (by omega), hel]
  simp [sizeOf, typeInfo, hi, hsz, sliced, Result.andThen]
theorem C_none {w : World} {l : List Int} (h : Kd.C (Kd.int .u8) w none l.length l) : l = [] := by
  rcases Nat.eq_zero_or_pos l.length with h0 | h0
  · exact List.eq_nil_of_length_eq_zero h0
  · obtain ⟨ad, e, _⟩ := h.2.2 h0
    cases e
/-- Where byte cv stands in l; -1: nowhere. -/
def at1 (l : List Int) (cv : Int) : Int := Lib.indexByte (Lib.bytesOf l) cv.toNat.toUInt8
theorem index_one (w : World) (A : Option Addr) (n : Nat) (l : List Int) (c b2 d : Nat) (cv : Int) (hr : Kd.C (Kd.int .u8) w A n l) (hz : A = none → c = 0) (hc2 : w.cell? ⟨b2, 0, none⟩ = some (.int .u8 cv)) :
    Calls Try.prog 108 #[.slice A n c, .slice (some ⟨b2, 0, none⟩) 1 d] w fun e w' => e = .returned (.int .i64 (at1 l cv)) ∧ w' = w := by
  obtain rfl : l.length = n := hr.1
  cases A with
  | some ad => exact Try.bytes_Index_one_at ad l.length c b2 0 d l cv w rfl (C_cells hr) hc2
  | none =>
    obtain rfl := C_none hr
    obtain rfl := hz rfl
    exact (Try.bytes_Index_one_nil b2 0 d cv w hc2)
theorem indexByte_any (w : World) (A : Option Addr) (n : Nat) (l : List Int) (c : Nat) (cv : Int) (hr : Kd.C (Kd.int .u8) w A n l) (hz : A = none → c = 0) :
    Calls Try.prog 81 #[.slice A n c, .int .u8 cv] w fun e w' => e = .returned (.int .i64 (at1 l cv)) ∧ w' = w := by
  obtain rfl : l.length = n := hr.1
  cases A with
  | some ad => exact Try.bytes_IndexByte_at ad l.length c l cv w rfl (C_cells hr)
  | none =>
    obtain rfl := C_none hr
    obtain rfl := hz rfl
    exact (Try.bytes_IndexByte_nil cv w)
theorem at1_ge (l : List Int) (cv : Int) : -1 ≤ at1 l cv := by
  exact Lib.indexByte_ge (Lib.bytesOf l) cv.toNat.toUInt8
theorem at1_lt (l : List Int) (cv : Int) : at1 l cv < l.length := by
  have h0 := at1_ge l cv
  rcases Int.lt_or_le (at1 l cv) 0 with h | h
  · omega
  · obtain ⟨o, ho⟩ := Int.eq_ofNat_of_zero_le h
    have hs := (Lib.indexByte_some (l := Lib.bytesOf l) (c := cv.toNat.toUInt8) (o := o) ho).1
    have hlt := (List.getElem?_eq_some_iff.1 hs).1
    rw [Lib.bytesOf_length] at hlt
    omega
theorem cut_one (w : World) (A : Option Addr) (l : List Int) (c b2 d : Nat) (cv : Int) (hr : Kd.C (Kd.int .u8) w A l.length l) (hc : l.length ≤ c) (hl : l.length ≤ 140737488355328) (hz : A = none → c = 0) (hc2 : w.cell? ⟨b2, 0, none⟩ = some (.int .u8 cv)) :
    Calls Try.prog 87 #[.slice A l.length c, .slice (some ⟨b2, 0, none⟩) 1 d] w fun e w' => e = .returned (Lib.cutV A l.length c 1 (at1 l cv)) ∧ ∃ q, w' = w.drewN q :=
  Try.bytes_Cut_of A (some ⟨b2, 0, none⟩) l.length c 1 d (at1 l cv) w hc (at1_ge _ _) (fun h => by have := at1_lt l cv; omega) (by omega) ((index_one w A _ l c b2 d cv hr hz hc2).mono fun _ _ h => ⟨h.1, 0, h.2⟩)

theorem quiet_add {P : Program} {f : FuncId} {args : Array Value} {w : World} {a n : Nat} {v : Value}
    (h : Calls P f args (w.drewN (a + n)) fun e w' => e = .returned v ∧ ∃ m, w' = (w.drewN (a + n)).drewN m) :
    Calls P f args (w.drewN (a + n)) fun e w'' => e = .returned v ∧ ∃ m, w'' = w.drewN (a + m) :=
  h.mono fun _ _ ⟨he, m, hm⟩ => ⟨he, n + m, by rw [hm, World.drewN_drewN, Nat.add_assoc]⟩
theorem name_q (s : ByteArray) (b : Bool) (k : Nat) (h : nego_Name.f k s = some b) (w : World) :
    Calls Try.prog 54 #[.string s] w fun e w' => e = .returned (.bool b) ∧ ∃ m, w' = w.drewN m :=
  (nego_Name.calls k s b w h).mono fun _ _ ⟨he, ⟨hw⟩⟩ => ⟨he, hw⟩
/-- What a device's answer says: a name, and whether it is one. -/
def gotS (l : List Int) : ByteArray := if 0 ≤ at1 l 1 then Go.strOfNums (l.drop ((at1 l 1).toNat + 1)) else ⟨#[]⟩
def gotB (l : List Int) : Bool := decide (0 ≤ at1 l 1) && (nameB (Go.strOfNums (l.take (at1 l 1).toNat)) && nameB (Go.strOfNums (l.drop ((at1 l 1).toNat + 1))))
theorem got_any (w : World) (A : Option Addr) (n : Nat) (l : List Int) (c : Nat) (hr : Kd.C (Kd.int .u8) w A n l) (hc : n ≤ c) (hl : n ≤ 140737488355328) (hz : A = none → c = 0) :
    Calls Try.prog 75 #[.slice A n c] w fun e w' => e = .returned (.tuple #[.string (gotS l), .bool (gotB l)]) ∧ Below w.heap.size w w' := by
  obtain rfl : l.length = n := hr.1
  by_cases h0 : 0 ≤ at1 l 1
  · obtain ⟨i, hi⟩ : ∃ i : Nat, at1 l 1 = i := ⟨(at1 l 1).toNat, by omega⟩
    have hlt := at1_lt l 1
    have hi2 : i < l.length := by omega
    have hS : gotS l = Go.strOfNums (l.drop (i + 1)) := by unfold gotS; rw [if_pos h0, hi]; rfl
    have hB : gotB l = (nameB (Go.strOfNums (l.take i)) && nameB (Go.strOfNums (l.drop (i + 1)))) := by unfold gotB; rw [decide_eq_true h0, hi]; rfl
    rw [hS, hB]
    clear hS hB
    have hn1 := name_f (Go.strOfNums (l.take i)) (by simp [Go.strOfNums, ByteArray.size]; omega)
    have hn2 := name_f (Go.strOfNums (l.drop (i + 1))) (by simp [Go.strOfNums, ByteArray.size]; omega)
    have HR := Aside0.mk hr
    have hcut : Lib.cutV A l.length c 1 (at1 l 1) = .tuple #[.slice A i c, .slice (if c = i + 1 then A else A.map (·.add (i + 1))) (l.length - (i + 1)) (c - (i + 1)), .bool true] := by
      unfold Lib.cutV; rw [if_pos h0, hi]; rfl
    have HCUT := Aside0.mk hcut
    have HH := Aside0.mk (And.intro hc (And.intro hl hz))
    have HT := Aside0.mk (C_take hr i (by omega))
    have HD := Aside0.mk (C_drop hr (i + 1) c (by omega) hc)
    generalize (if c = i + 1 then A else A.map (·.add (i + 1))) = A2 at HCUT HD
    have hcv1 : ∀ m, (convert 49 9 (.slice A i c)).run Try.prog ((w.alloc (.cells #[.int .u8 1] 5)).drewN m) = .ok (.string (Go.strOfNums (l.take i))) ((w.alloc (.cells #[.int .u8 1] 5)).drewN m) :=
      fun m => Kd.C_string (P := Try.prog) Try.underlying49 Try.underlying5 Try.underlying9 (Kd.C_drewN (Kd.C_alloc HT.out _) m)
    have hcv2 : ∀ m, (convert 49 9 (.slice A2 (l.length - (i + 1)) (c - (i + 1)))).run Try.prog ((w.alloc (.cells #[.int .u8 1] 5)).drewN m) = .ok (.string (Go.strOfNums (l.drop (i + 1)))) ((w.alloc (.cells #[.int .u8 1] 5)).drewN m) :=
      fun m => Kd.C_string (P := Try.prog) Try.underlying49 Try.underlying5 Try.underlying9 (Kd.C_drewN (Kd.C_alloc HD.out _) m)
    clear HT HD
    generalize Go.strOfNums (l.take i) = s1 at *
    generalize Go.strOfNums (l.drop (i + 1)) = s2 at *
    clear hr hcut hc hl hz h0 hi hlt hi2
    have HN1 := Aside0.mk hn1
    have HN2 := Aside0.mk hn2
    clear hn1 hn2
    generalize s1.size + 1 = k1 at HN1
    generalize s2.size + 1 = k2 at HN2
    generalize nameB s2 = b2 at *
    generalize hb1 : nameB s1 = b1 at *
    clear hb1
    cases b1
    · go_enter Try.func75, Try.ntmps75
      go_wp2_with (go_at_call 87; go_must (refine (cut_one _ _ l c w.heap.size 1 1 ?s1 HH.out.1 HH.out.2.1 HH.out.2.2 ?s2).mono ?_; (case s1 => exact Kd.C_alloc HR.out _); (case s2 => exact (blk_cell (blk_new w _) 0).trans rfl); rintro e w' ⟨rfl, q, rfl⟩; rw [HCUT.out]))
      go_quiet ((go_at_call 54; exact quiet_add (name_q s1 _ k1 HN1.out _)))
      go_wp2
      go_ret2
      exact ⟨rfl, by repeat (first | exact Below.refl _ _ | apply below_alloc | apply pw_below_drewN)⟩
    · go_enter Try.func75, Try.ntmps75
      go_wp2_with (go_at_call 87; go_must (refine (cut_one _ _ l c w.heap.size 1 1 ?s1 HH.out.1 HH.out.2.1 HH.out.2.2 ?s2).mono ?_; (case s1 => exact Kd.C_alloc HR.out _); (case s2 => exact (blk_cell (blk_new w _) 0).trans rfl); rintro e w' ⟨rfl, q, rfl⟩; rw [HCUT.out]))
      go_quiet ((go_at_call 54; first | (with_reducible exact quiet_add (name_q s1 _ k1 HN1.out _)) | exact quiet_add (name_q s2 _ k2 HN2.out _)))
      go_wp2
      go_ret2
      exact ⟨by simp, by repeat (first | exact Below.refl _ _ | apply below_alloc | apply pw_below_drewN)⟩
  · have hS : gotS l = ⟨#[]⟩ := by unfold gotS; rw [if_neg h0]
    have hB : gotB l = false := by unfold gotB; rw [decide_eq_false h0]; rfl
    rw [hS, hB]
    clear hS hB
    have HR := Aside0.mk hr
    have hcut : Lib.cutV A l.length c 1 (at1 l 1) = .tuple #[.slice A l.length c, .slice none 0 0, .bool false] := by unfold Lib.cutV; rw [if_neg h0]
    have HCUT := Aside0.mk hcut
    have HH := Aside0.mk (And.intro hc (And.intro hl hz))
    clear hr hcut hc hl hz h0
    have hcv : ∀ w : World, (convert 49 9 (.slice none 0 0)).run Try.prog w = .ok (.string ⟨#[]⟩) w := fun w => Kd.C_string (P := Try.prog) (A := none) (c := 0) (xs := []) (w := w) Try.underlying49 Try.underlying5 Try.underlying9 (Kd.C_nil _ _)
    go_enter Try.func75, Try.ntmps75
    go_wp2_with (go_at_call 87; go_must (refine (cut_one _ _ l c w.heap.size 1 1 ?s1 HH.out.1 HH.out.2.1 HH.out.2.2 ?s2).mono ?_; (case s1 => exact Kd.C_alloc HR.out _); (case s2 => exact (blk_cell (blk_new w _) 0).trans rfl); rintro e w' ⟨rfl, q, rfl⟩; rw [HCUT.out]))
    go_quiet (fail)
    go_wp2
    go_ret2
    exact ⟨rfl, by repeat (first | exact Below.refl _ _ | apply below_alloc | apply pw_below_drewN)⟩
/-- Is each of a list a byte of its own? -/
def onceB (l : List Int) : Bool := (List.range' 0 l.length).all fun j => decide (at1 (l.take j) (rd l j) < 0)
theorem once_true {l : List Int} (h : ∀ j, j < l.length → at1 (l.take j) (rd l j) < 0) : onceB l = true := by
  unfold onceB
  rw [List.all_eq_true]
  intro j hj
  have := List.mem_range'_1.1 hj
  exact decide_eq_true (h j (by omega))
theorem once_false {l : List Int} {j : Nat} (hj : j < l.length) (h : 0 ≤ at1 (l.take j) (rd l j)) : onceB l = false := by
  unfold onceB
  rw [List.all_eq_false]
  exact ⟨j, List.mem_range'_1.2 (by omega), by simp; omega⟩

theorem once_any (w : World) (A : Option Addr) (n : Nat) (l : List Int) (c : Nat) (hr : Kd.C (Kd.int .u8) w A n l) (hc : n ≤ c) (hl : n ≤ 140737488355328) (hz : A = none → c = 0) :
    Calls Try.prog 77 #[.slice A n c] w fun e w' => e = .returned (.bool (onceB l)) ∧ w = w' := by
  obtain rfl : l.length = n := hr.1
  have HR := Aside0.mk hr
  have HH := Aside0.mk (And.intro hc (And.intro hl hz))
  have hm : l.length ≤ 9223372036854775807 := by omega
  clear hr hc hl hz
  go_enter Try.func77, Try.ntmps77
  go_wp2
  go_loop [7] (fun i => ∃ k : Nat, k ≤ l.length ∧ i = .int .i64 k ∧ Aside0 (∀ j, j < k → at1 (l.take j) (rd l j) < 0)) (fun i => l.length - (intOf i).toNat)
  case atStart => exact ⟨0, Nat.zero_le _, rfl, ⟨fun j hj => absurd hj (by omega)⟩⟩
  case round =>
    obtain ⟨k, hk, rfl, HA⟩ := hrel
    by_cases hlt : k < l.length
    · obtain ⟨ad, e, hx⟩ := Kd.at_int HR.out (k : Int) (Int.natCast_nonneg k) (Int.ofNat_lt.2 hlt)
      have hcut := slice_take A l.length c k hk HH.out.1
      have HT := Aside0.mk (C_take HR.out k hk)
      have HZ := Aside0.mk HH.out.2.2
      simp only [Int.toNat_natCast] at hx
      subst e
      by_cases hf : 0 ≤ at1 (l.take k) (rd l k)
      · have hF := Aside0.mk (once_false hlt hf)
        have hd : decide (0 ≤ at1 (l.take k) (rd l k)) = true := decide_eq_true hf
        clear hf
        go_wp2_with (go_at_call 81; go_must (refine (indexByte_any _ _ _ (l.take k) c _ HT.out HZ.out).mono ?_; rintro e w' ⟨rfl, rfl⟩))
        go_ret
        refine ⟨?_, rfl⟩
        rw [hF.out]
        rfl
      · have hA2 : Aside0 (∀ j, j < k + 1 → at1 (l.take j) (rd l j) < 0) := ⟨fun j hj => by
          rcases Nat.lt_or_ge j k with h | h
          · exact HA.out j h
          · obtain rfl : j = k := by omega
            omega⟩
        have hd : decide (0 ≤ at1 (l.take k) (rd l k)) = false := decide_eq_false hf
        clear hf HA
        go_wp2_with (go_at_call 81; go_must (refine (indexByte_any _ _ _ (l.take k) c _ HT.out HZ.out).mono ?_; rintro e w' ⟨rfl, rfl⟩))
        go_round
        case rel => exact ⟨k + 1, hlt, by go_num, hA2⟩
        case measure => simp [intOf]; omega
    · have hF := Aside0.mk (once_true (l := l) (fun j hj => HA.out j (by omega)))
      go_wp2
      go_ret
      refine ⟨?_, rfl⟩
      rw [hF.out]
      rfl
/-! ### append: lists of bytes and strings, in a list of operations or in a region that draws -/
section
variable {ops : Array Oper} {rest : List Oper} {o : Oper} {a : Act} {Q : Exit → Act → World → Prop} {Kc : Act → World → Prop}
theorem own_nums {w : World} {base : Nat} {v : Value} {l : List Int} (h : OwnB w base v l) : w.ownsRow base 5 1 v l.length (nums .u8 l) := by
  have h2 : w.ownsRow base 5 1 v l.length (encs (Value.int .u8) l) := Kd.own_of_R h
  exact h2
theorem of_nums {w : World} {base : Nat} {v : Value} {l : List Int} (h : w.ownsRow base 5 1 v l.length (nums .u8 l)) : OwnB w base v l :=
  Kd.R_of_own (h1 := fun _ => rfl) h (fun _ _ => trivial)
theorem lenBytes (s : ByteArray) : (bytesOf s).length = s.size := bytesOf_length s
theorem run_appS {W : World} (base : Nat) (ty : TypeId) (v : Value) (xs : List Int) (y : ByteArray) (HO : OwnB W base v xs) (hbase : base ≤ W.heap.size) (hl : xs.length + y.size ≤ 140737488355328) :
    ∃ v1 w1, (Builtin.append_ #[49, 9] ty #[v, .string y]).run Try.prog W = .ok v1 w1 ∧ OwnB w1 base v1 (xs ++ bytesOf y) ∧ W.grownBy w1 v.ownBlock := by
  obtain ⟨i0, hi, hz0, hz1, hz2⟩ := info_parts info5
  obtain ⟨v1, w1, hr, ho, hg, _⟩ := Lib.run_append_own_string (P := Try.prog) W base 49 9 ty 5 i0 Try.underlying49 Try.underlying9 hi hz0 hz1 hz2 v xs.length (nums .u8 xs) (own_nums HO) y (by simp only [maxLen]; omega) hl hbase
  refine ⟨v1, w1, hr, of_nums ?_, hg⟩
  have hl2 : (xs ++ bytesOf y).length = xs.length + y.size := by rw [List.length_append, bytesOf_length]
  have hs : nums .u8 (bytesOf y) = Lib.strCells y := by simp [nums, bytesOf, Lib.strCells]
  have hc : nums .u8 (xs ++ bytesOf y) = nums .u8 xs ++ Lib.strCells y := by rw [nums_append, hs]
  rw [hl2, hc]
  exact ho
theorem own_ge {w : World} {base : Nat} {v : Value} {l : List Int} (h : OwnB w base v l) : ∀ k, v.ownBlock = some k → base ≤ k := own_base (own_nums h)
theorem appS {W : World} (base : Nat) (hgd : o.guard = none) (s x : Operand) (ho : o.op = .call { callee := .builtin .append, args := #[s, x], argTypes := #[49, 9] })
    (v : Value) (xs : List Int) (y : ByteArray) (hs : a.eval s = v) (hx : a.eval x = .string y) (HO : OwnB W base v xs) (hbase : base ≤ W.heap.size) (hl : xs.length + y.size ≤ 140737488355328)
    (h : ∀ v1 w1, OwnB w1 base v1 (xs ++ bytesOf y) → W.grownBy w1 v.ownBlock → wpList Try.prog ops Q rest (a.put o.dst v1) w1) :
    wpList Try.prog ops Q (o :: rest) a W := by
  refine wpList_plain hgd fun K hK => ?_
  obtain ⟨v', w', hr, h2, h3⟩ := run_appS (W := W) base o.type v xs y HO hbase hl
  unfold Oper.wp execOp
  simp only [ho, resolve, invoke, builtin, Sem.run_bind, Sem.run_pure, Result.andThen_ok, List.map_toArray, List.map_cons, List.map_nil, hs, hx, hr]
  exact hK _ _ (h v' w' h2 h3)
theorem appS_step {W : World} (base : Nat) (hw : Region.wanted o (yielded ops a.tmps) = true) (s x : Operand) (ho : o.op = .call { callee := .builtin .append, args := #[s, x], argTypes := #[49, 9] })
    (v : Value) (xs : List Int) (y : ByteArray) (hs : a.eval s = v) (hx : a.eval x = .string y) (HO : OwnB W base v xs) (hbase : base ≤ W.heap.size) (hl : xs.length + y.size ≤ 140737488355328)
    (h : ∀ v1 w1, OwnB w1 base v1 (xs ++ bytesOf y) → W.grownBy w1 v.ownBlock → Kc (a.put o.dst v1) w1) :
    if Region.wanted o (yielded ops a.tmps) = true then Oper.wp Try.prog o a W Kc Q else Kc (a.put o.dst undef) W := by
  obtain ⟨v', w', hr, h2, h3⟩ := run_appS (W := W) base o.type v xs y HO hbase hl
  refine event_step hw (v := v') (w1 := w') ?_ (h v' w' h2 h3)
  unfold execOp
  simp only [ho, resolve, invoke, builtin, Sem.run_bind, Sem.run_pure, Result.andThen_ok, List.map_toArray, List.map_cons, List.map_nil, hs, hx, hr]
theorem appL {W : World} (base : Nat) (hgd : o.guard = none) (s x : Operand) (ho : o.op = .call { callee := .builtin .append, args := #[s, x], argTypes := #[49, 49] })
    (v : Value) (xs ys : List Int) (A : Option Addr) (n c : Nat) (hs : a.eval s = v) (hx : a.eval x = .slice A n c)
    (HO : OwnB W base v xs) (HR : Kd.C (Kd.int .u8) W A n ys) (hbase : base ≤ W.heap.size) (hl : xs.length + n ≤ 140737488355328)
    (h : ∀ v1 w1, OwnB w1 base v1 (xs ++ ys) → W.grownBy w1 v.ownBlock → wpList Try.prog ops Q rest (a.put o.dst v1) w1) :
    wpList Try.prog ops Q (o :: rest) a W :=
  Kd.R_append_rows (Kd.int .u8) (okp := fun _ => False) (w0 := W) base hgd s x 49 5 (.int .u8 0) 1 ho Try.underlying49 info5 rfl (by decide) (by decide) v xs ys A n c (fun _ => True) hs hx HO HR (fun _ _ h => h) (fun _ h => h.elim) (fun _ _ => trivial) (Below.refl _ _) hbase (by omega) (fun v1 w1 h1 _ h3 _ => h v1 w1 h1 h3)
theorem appL_step {W : World} (base : Nat) (hw : Region.wanted o (yielded ops a.tmps) = true) (s x : Operand) (ho : o.op = .call { callee := .builtin .append, args := #[s, x], argTypes := #[49, 49] })
    (v : Value) (xs ys : List Int) (A : Option Addr) (n c : Nat) (hs : a.eval s = v) (hx : a.eval x = .slice A n c)
    (HO : OwnB W base v xs) (HR : Kd.C (Kd.int .u8) W A n ys) (hbase : base ≤ W.heap.size) (hl : xs.length + n ≤ 140737488355328)
    (h : ∀ v1 w1, OwnB w1 base v1 (xs ++ ys) → W.grownBy w1 v.ownBlock → Kc (a.put o.dst v1) w1) :
    if Region.wanted o (yielded ops a.tmps) = true then Oper.wp Try.prog o a W Kc Q else Kc (a.put o.dst undef) W :=
  Kd.R_append_rows_step (Kd.int .u8) (okp := fun _ => False) (w0 := W) base hw s x 49 5 (.int .u8 0) 1 ho Try.underlying49 info5 rfl (by decide) (by decide) v xs ys A n c (fun _ => True) hs hx HO HR (fun _ _ h => h) (fun _ h => h.elim) (fun _ _ => trivial) (Below.refl _ _) hbase (by omega) (fun v1 w1 h1 _ h3 _ => h v1 w1 h1 h3)
end
/-- A new literal of bytes. -/
theorem lit_own (w : World) (base : Nat) (l : List Int) (hb : base ≤ w.heap.size) (hl : l.length ≤ 140737488355328) :
    OwnB (w.alloc (.cells (l.map (Value.int .u8)).toArray 5)) base (.slice (some ⟨w.heap.size, 0, none⟩) l.length l.length) l := by
  refine of_nums ?_
  have h2 := World.ownsRow_lit (base := base) (e := 5) (size := 1) w (l.map (Value.int .u8)).toArray l.length hb (by simp only [maxLen]; omega) (by simp)
  simpa [nums] using h2
end Go.Proofs.Ytclpkbgjaiacpaa
