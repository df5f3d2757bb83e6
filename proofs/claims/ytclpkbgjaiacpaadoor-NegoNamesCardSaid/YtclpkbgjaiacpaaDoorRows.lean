/-
  NARROWER THAN 'FOR EVERY INPUT', by the rows' own cells (each row's printed sentence says how): HostForms: laid · HostAnswers: laid · NegoNames: laid · TapeParses: laid · TapeTexts: laid.
  DERIVED. THE GIVEN ROWS OF THIS SEAT. 5 by the template 'for every input the law returns true; each argument reads behind the call as it read before'; 0 by the template 'total and deterministic' (their statements: YtclpkbgjaiacpaaDoorTotals.lean).
  GIVEN WITH THE SEED: the statements are not yours to turn. If you find one false, say at which input.
  Laid BY PROGRAM, IN A SANDBOX (cutbox-rows.mjs): the forced cells as the released guide's own fill.sh prints them over the translation 7723c78119212ff4… (all of the seat's roots in one cut). By AI agents, Wed Nov 11 2026. No macro, syntax, notation, axiom, sorry.
-/
import Derived.Test.YtclpkbgjaiacpaaDoorChecked
import GoSem.PinnedTables
import GoSem.Claim
import GoSem.ClaimJoined
import GoSem.ClaimMapViews
import Derived.JoinedTies
import Derived.KernelRfl
namespace Go.Proofs.YtclpkbgjaiacpaaDoor
/- THE CELL 'sum', in the pinned program and in every row, IS THE sha256 OF THE DUMP (.gsa) THAT YtclpkbgjaiacpaaDoorProg.lean LOADS. Nothing in Lean hashes anything: it is a label: what it is worth is what the hold of that sum in a sandbox is worth. -/
noncomputable def Tryd.pinned : Pinned := { name := "ytclpkbgjaiacpaadoor", sum := "7723c78119212ff442b3caf09fac097ab2d025e03088f9a6a9f2ade15bd25ed0", checked := Tryd.checked }
namespace Rows
def none {H : Type} : Left H := { results := [], args := [] }

/- WHAT THE LISTED PACKAGE-LEVEL VARIABLES READ AS WHEN THE CALL BEGINS. Each datum BY PROGRAM (the guide's laid-datum.mjs) off the statement by which the dump's own 'gosem.cut.vars' lays the variable. In a bare row this is a premise. The card (YtclpkbgjaiacpaaDoorCards.lean) ties it to the program's text. -/
def laid_vitrine_write_names {H : Type} : DataW H := .agg [.agg [.lit (.string [78, 111, 116, 104, 105, 110, 103]), .lit (.int .u8 3), .lit (.int .u8 3)], .agg [.lit (.string [87, 114, 105, 116, 101]), .lit (.int .u8 1), .lit (.int .u8 241)], .agg [.lit (.string [69, 114, 97, 115, 101, 87, 114, 105, 116, 101]), .lit (.int .u8 5), .lit (.int .u8 245)], .agg [.lit (.string [69, 114, 97, 115, 101, 65, 108, 116, 101, 114, 110, 97, 116, 101]), .lit (.int .u8 13), .lit (.int .u8 126)], .agg [.lit (.string [69, 114, 97, 115, 101, 85, 110, 112, 114, 111, 116, 101, 99, 116, 101, 100]), .lit (.int .u8 15), .lit (.int .u8 111)], .agg [.lit (.string [82, 101, 97, 100, 66, 117, 102, 102, 101, 114]), .lit (.int .u8 2), .lit (.int .u8 242)], .agg [.lit (.string [82, 101, 97, 100, 77, 111, 100, 105, 102, 105, 101, 100]), .lit (.int .u8 6), .lit (.int .u8 246)], .agg [.lit (.string [82, 101, 97, 100, 65, 108, 108]), .lit (.int .u8 14), .lit (.int .u8 110)], .agg [.lit (.string [83, 116, 114, 117, 99, 116, 117, 114, 101, 100]), .lit (.int .u8 17), .lit (.int .u8 243)]]
def laid_vitrine_nego_reasons {H : Type} : DataW H := .agg [.lit (.string [67, 79, 78, 78, 45, 80, 65, 82, 84, 78, 69, 82]), .lit (.string [68, 69, 86, 73, 67, 69, 45, 73, 78, 45, 85, 83, 69]), .lit (.string [73, 78, 86, 45, 65, 83, 83, 79, 67, 73, 65, 84, 69]), .lit (.string [73, 78, 86, 45, 78, 65, 77, 69]), .lit (.string [73, 78, 86, 45, 68, 69, 86, 73, 67, 69, 45, 84, 89, 80, 69]), .lit (.string [84, 89, 80, 69, 45, 78, 65, 77, 69, 45, 69, 82, 82, 79, 82]), .lit (.string [85, 78, 75, 78, 79, 87, 78, 45, 69, 82, 82, 79, 82]), .lit (.string [85, 78, 83, 85, 80, 80, 79, 82, 84, 69, 68, 45, 82, 69, 81])]
def laid_math_bits_deBruijn32tab {H : Type} : DataW H := .agg [.lit (.int .u8 0), .lit (.int .u8 1), .lit (.int .u8 28), .lit (.int .u8 2), .lit (.int .u8 29), .lit (.int .u8 14), .lit (.int .u8 24), .lit (.int .u8 3), .lit (.int .u8 30), .lit (.int .u8 22), .lit (.int .u8 20), .lit (.int .u8 15), .lit (.int .u8 25), .lit (.int .u8 17), .lit (.int .u8 4), .lit (.int .u8 8), .lit (.int .u8 31), .lit (.int .u8 27), .lit (.int .u8 13), .lit (.int .u8 23), .lit (.int .u8 21), .lit (.int .u8 19), .lit (.int .u8 16), .lit (.int .u8 7), .lit (.int .u8 26), .lit (.int .u8 12), .lit (.int .u8 18), .lit (.int .u8 6), .lit (.int .u8 11), .lit (.int .u8 5), .lit (.int .u8 10), .lit (.int .u8 9)]
def laid_math_bits_deBruijn64tab {H : Type} : DataW H := .agg [.lit (.int .u8 0), .lit (.int .u8 1), .lit (.int .u8 56), .lit (.int .u8 2), .lit (.int .u8 57), .lit (.int .u8 49), .lit (.int .u8 28), .lit (.int .u8 3), .lit (.int .u8 61), .lit (.int .u8 58), .lit (.int .u8 42), .lit (.int .u8 50), .lit (.int .u8 38), .lit (.int .u8 29), .lit (.int .u8 17), .lit (.int .u8 4), .lit (.int .u8 62), .lit (.int .u8 47), .lit (.int .u8 59), .lit (.int .u8 36), .lit (.int .u8 45), .lit (.int .u8 43), .lit (.int .u8 51), .lit (.int .u8 22), .lit (.int .u8 53), .lit (.int .u8 39), .lit (.int .u8 33), .lit (.int .u8 30), .lit (.int .u8 24), .lit (.int .u8 18), .lit (.int .u8 12), .lit (.int .u8 5), .lit (.int .u8 63), .lit (.int .u8 55), .lit (.int .u8 48), .lit (.int .u8 27), .lit (.int .u8 60), .lit (.int .u8 41), .lit (.int .u8 37), .lit (.int .u8 16), .lit (.int .u8 46), .lit (.int .u8 35), .lit (.int .u8 44), .lit (.int .u8 21), .lit (.int .u8 52), .lit (.int .u8 32), .lit (.int .u8 23), .lit (.int .u8 11), .lit (.int .u8 54), .lit (.int .u8 26), .lit (.int .u8 40), .lit (.int .u8 15), .lit (.int .u8 34), .lit (.int .u8 20), .lit (.int .u8 31), .lit (.int .u8 10), .lit (.int .u8 25), .lit (.int .u8 14), .lit (.int .u8 19), .lit (.int .u8 9), .lit (.int .u8 13), .lit (.int .u8 8), .lit (.int .u8 7), .lit (.int .u8 6)]
def laid_internal_strconv_uint64pow10 {H : Type} : DataW H := .agg [.lit (.int .u64 1), .lit (.int .u64 10), .lit (.int .u64 100), .lit (.int .u64 1000), .lit (.int .u64 10000), .lit (.int .u64 100000), .lit (.int .u64 1000000), .lit (.int .u64 10000000), .lit (.int .u64 100000000), .lit (.int .u64 1000000000), .lit (.int .u64 10000000000), .lit (.int .u64 100000000000), .lit (.int .u64 1000000000000), .lit (.int .u64 10000000000000), .lit (.int .u64 100000000000000), .lit (.int .u64 1000000000000000), .lit (.int .u64 10000000000000000), .lit (.int .u64 100000000000000000), .lit (.int .u64 1000000000000000000), .lit (.int .u64 10000000000000000000)]
def laid_unicode_utf8_acceptRanges {H : Type} : DataW H := .agg [.agg [.lit (.int .u8 128), .lit (.int .u8 191)], .agg [.lit (.int .u8 160), .lit (.int .u8 191)], .agg [.lit (.int .u8 128), .lit (.int .u8 159)], .agg [.lit (.int .u8 144), .lit (.int .u8 191)], .agg [.lit (.int .u8 128), .lit (.int .u8 143)], .agg [.lit (.int .u8 0), .lit (.int .u8 0)], .agg [.lit (.int .u8 0), .lit (.int .u8 0)], .agg [.lit (.int .u8 0), .lit (.int .u8 0)], .agg [.lit (.int .u8 0), .lit (.int .u8 0)], .agg [.lit (.int .u8 0), .lit (.int .u8 0)], .agg [.lit (.int .u8 0), .lit (.int .u8 0)], .agg [.lit (.int .u8 0), .lit (.int .u8 0)], .agg [.lit (.int .u8 0), .lit (.int .u8 0)], .agg [.lit (.int .u8 0), .lit (.int .u8 0)], .agg [.lit (.int .u8 0), .lit (.int .u8 0)], .agg [.lit (.int .u8 0), .lit (.int .u8 0)]]
def laid_strconv_ErrRange {H : Type} : DataW H := .iface "*errors.errorString" (.ptr (.agg [.lit (.string [118, 97, 108, 117, 101, 32, 111, 117, 116, 32, 111, 102, 32, 114, 97, 110, 103, 101])]))
def laid_strconv_ErrSyntax {H : Type} : DataW H := .iface "*errors.errorString" (.ptr (.agg [.lit (.string [105, 110, 118, 97, 108, 105, 100, 32, 115, 121, 110, 116, 97, 120])]))
/-- One of Go's own tables, pinned by name: the form's constant. -/
def laid_unicode_utf8_first : DataW Unit := Go.Pinned.utf8First

/-- 'vitrinelaw24.HostForms': WHATEVER THE INPUT: true; the input reads as it did. -/
def hostFormsSpec : ChangeSpec := { name := "hostForms", fn := fun _ => fun
  | [d1, d2, d3] => { results := [.lit (.bool true)], args := [d1, d2, d3] }
  | _ => none }
def hostFormsRow : OpenClaim := { program := "ytclpkbgjaiacpaadoor", sum := "7723c78119212ff442b3caf09fac097ab2d025e03088f9a6a9f2ade15bd25ed0", func := "vitrine/vitrinelaw24.HostForms", spec := "hostForms", inPlace := ["sync/atomic.LoadUint32", "(*internal/sync.Mutex).Lock", "internal/race.Disable", "sync/atomic.CompareAndSwapInt32", "internal/race.Enable", "internal/race.Acquire", "(*internal/sync.Mutex).lockSlow", "internal/sync.runtime_canSpin", "internal/sync.runtime_doSpin", "internal/sync.throw", "internal/sync.runtime_nanotime", "internal/sync.runtime_SemacquireMutex", "sync/atomic.AddInt32", "(*internal/sync.Mutex).Unlock", "internal/race.ReleaseMerge", "(*internal/sync.Mutex).unlockSlow", "internal/sync.fatal", "internal/sync.runtime_Semrelease", "sync/atomic.StoreUint32"], unfollowed := true, recurses := true, named := ["vitrine/write.names"], apart := false, laid := [("vitrine/write.names", laid_vitrine_write_names)] }
def HostFormsSaid : Prop := hostFormsRow.holds Tryd.pinned (OpenSpec.ofChange hostFormsSpec)

/-- ITS FALSE NEIGHBOUR: 'it returns false'. Refute it at one input. -/
def hostFormsWrong : ChangeSpec := { name := "hostForms", fn := fun _ => fun
  | [d1, d2, d3] => { results := [.lit (.bool false)], args := [d1, d2, d3] }
  | _ => none }
def HostFormsWrongFalsely : Prop := hostFormsRow.holds Tryd.pinned (OpenSpec.ofChange hostFormsWrong)

/-- 'vitrinelaw24.HostAnswers': WHATEVER THE INPUT: true; the input reads as it did. -/
def hostAnswersSpec : ChangeSpec := { name := "hostAnswers", fn := fun _ => fun
  | [d1, d2, d3, d4] => { results := [.lit (.bool true)], args := [d1, d2, d3, d4] }
  | _ => none }
def hostAnswersRow : OpenClaim := { program := "ytclpkbgjaiacpaadoor", sum := "7723c78119212ff442b3caf09fac097ab2d025e03088f9a6a9f2ade15bd25ed0", func := "vitrine/vitrinelaw24.HostAnswers", spec := "hostAnswers", inPlace := ["sync/atomic.LoadUint32", "(*internal/sync.Mutex).Lock", "internal/race.Disable", "sync/atomic.CompareAndSwapInt32", "internal/race.Enable", "internal/race.Acquire", "(*internal/sync.Mutex).lockSlow", "internal/sync.runtime_canSpin", "internal/sync.runtime_doSpin", "internal/sync.throw", "internal/sync.runtime_nanotime", "internal/sync.runtime_SemacquireMutex", "sync/atomic.AddInt32", "(*internal/sync.Mutex).Unlock", "internal/race.ReleaseMerge", "(*internal/sync.Mutex).unlockSlow", "internal/sync.fatal", "internal/sync.runtime_Semrelease", "sync/atomic.StoreUint32", "internal/abi.NoEscape"], unfollowed := true, recurses := true, named := ["vitrine/write.names"], apart := false, laid := [("vitrine/write.names", laid_vitrine_write_names)] }
def HostAnswersSaid : Prop := hostAnswersRow.holds Tryd.pinned (OpenSpec.ofChange hostAnswersSpec)

/-- ITS FALSE NEIGHBOUR: 'it returns false'. Refute it at one input. -/
def hostAnswersWrong : ChangeSpec := { name := "hostAnswers", fn := fun _ => fun
  | [d1, d2, d3, d4] => { results := [.lit (.bool false)], args := [d1, d2, d3, d4] }
  | _ => none }
def HostAnswersWrongFalsely : Prop := hostAnswersRow.holds Tryd.pinned (OpenSpec.ofChange hostAnswersWrong)

/-- 'vitrinelaw10.NegoNames': WHATEVER THE INPUT: true; the input reads as it did. -/
def negoNamesSpec : ChangeSpec := { name := "negoNames", fn := fun _ => fun
  | [d1, d2, d3] => { results := [.lit (.bool true)], args := [d1, d2, d3] }
  | _ => none }
def negoNamesRow : OpenClaim := { program := "ytclpkbgjaiacpaadoor", sum := "7723c78119212ff442b3caf09fac097ab2d025e03088f9a6a9f2ade15bd25ed0", func := "vitrine/vitrinelaw10.NegoNames", spec := "negoNames", inPlace := ["internal/bytealg.IndexByte", "internal/bytealg.Index"], unfollowed := true, recurses := true, named := ["internal/bytealg.MaxLen", "vitrine/nego.reasons"], apart := false, laid := [("vitrine/nego.reasons", laid_vitrine_nego_reasons)] }
def NegoNamesSaid : Prop := negoNamesRow.holds Tryd.pinned (OpenSpec.ofChange negoNamesSpec)

/-- ITS FALSE NEIGHBOUR: 'it returns false'. Refute it at one input. -/
def negoNamesWrong : ChangeSpec := { name := "negoNames", fn := fun _ => fun
  | [d1, d2, d3] => { results := [.lit (.bool false)], args := [d1, d2, d3] }
  | _ => none }
def NegoNamesWrongFalsely : Prop := negoNamesRow.holds Tryd.pinned (OpenSpec.ofChange negoNamesWrong)

/-- 'vitrinelaw28.TapeParses': WHATEVER THE INPUT: true; the input reads as it did. -/
def tapeParsesSpec : ChangeSpec := { name := "tapeParses", fn := fun _ => fun
  | [d] => { results := [.lit (.bool true)], args := [d] }
  | _ => none }
def tapeParsesRow : OpenClaim := { program := "ytclpkbgjaiacpaadoor", sum := "7723c78119212ff442b3caf09fac097ab2d025e03088f9a6a9f2ade15bd25ed0", func := "vitrine/vitrinelaw28.TapeParses", spec := "tapeParses", inPlace := ["internal/bytealg.IndexByteString", "internal/bytealg.IndexString", "internal/bytealg.CountString"], unfollowed := true, recurses := true, named := ["internal/bytealg.MaxLen", "unicode/utf8.first", "unicode/utf8.acceptRanges", "strconv.ErrSyntax", "strconv.ErrRange", "internal/strconv.uint64pow10", "math/bits.deBruijn32tab", "math/bits.deBruijn64tab"], apart := false, laid := [("math/bits.deBruijn32tab", laid_math_bits_deBruijn32tab), ("math/bits.deBruijn64tab", laid_math_bits_deBruijn64tab), ("internal/strconv.uint64pow10", laid_internal_strconv_uint64pow10), ("unicode/utf8.acceptRanges", laid_unicode_utf8_acceptRanges), ("strconv.ErrRange", laid_strconv_ErrRange), ("strconv.ErrSyntax", laid_strconv_ErrSyntax), ("unicode/utf8.first", laid_unicode_utf8_first)] }
def TapeParsesSaid : Prop := tapeParsesRow.holds Tryd.pinned (OpenSpec.ofChange tapeParsesSpec)

/-- ITS FALSE NEIGHBOUR: 'it returns false'. Refute it at one input. -/
def tapeParsesWrong : ChangeSpec := { name := "tapeParses", fn := fun _ => fun
  | [d] => { results := [.lit (.bool false)], args := [d] }
  | _ => none }
def TapeParsesWrongFalsely : Prop := tapeParsesRow.holds Tryd.pinned (OpenSpec.ofChange tapeParsesWrong)

/-- 'vitrinelaw28.TapeTexts': WHATEVER THE INPUT: true; the input reads as it did. -/
def tapeTextsSpec : ChangeSpec := { name := "tapeTexts", fn := fun _ => fun
  | [d] => { results := [.lit (.bool true)], args := [d] }
  | _ => none }
def tapeTextsRow : OpenClaim := { program := "ytclpkbgjaiacpaadoor", sum := "7723c78119212ff442b3caf09fac097ab2d025e03088f9a6a9f2ade15bd25ed0", func := "vitrine/vitrinelaw28.TapeTexts", spec := "tapeTexts", inPlace := ["internal/bytealg.IndexByteString", "internal/bytealg.IndexString", "internal/bytealg.CountString", "internal/abi.NoEscape", "internal/bytealg.MakeNoZero"], unfollowed := true, recurses := true, named := ["internal/bytealg.MaxLen", "unicode/utf8.first", "unicode/utf8.acceptRanges", "strconv.ErrSyntax", "strconv.ErrRange", "internal/strconv.uint64pow10", "math/bits.deBruijn32tab", "math/bits.deBruijn64tab"], apart := false, laid := [("math/bits.deBruijn32tab", laid_math_bits_deBruijn32tab), ("math/bits.deBruijn64tab", laid_math_bits_deBruijn64tab), ("internal/strconv.uint64pow10", laid_internal_strconv_uint64pow10), ("unicode/utf8.acceptRanges", laid_unicode_utf8_acceptRanges), ("strconv.ErrRange", laid_strconv_ErrRange), ("strconv.ErrSyntax", laid_strconv_ErrSyntax), ("unicode/utf8.first", laid_unicode_utf8_first)] }
def TapeTextsSaid : Prop := tapeTextsRow.holds Tryd.pinned (OpenSpec.ofChange tapeTextsSpec)

/-- ITS FALSE NEIGHBOUR: 'it returns false'. Refute it at one input. -/
def tapeTextsWrong : ChangeSpec := { name := "tapeTexts", fn := fun _ => fun
  | [d] => { results := [.lit (.bool false)], args := [d] }
  | _ => none }
def TapeTextsWrongFalsely : Prop := tapeTextsRow.holds Tryd.pinned (OpenSpec.ofChange tapeTextsWrong)

/- THE SECOND FORM. 'bulk': how many values and letters a reading holds, each counted each time it is reached (what is shared counts as often as it is met; a slice's spare places count too). A statement '..UptoSaid' is the law's where the arguments, and the package variables that the reading takes, are together of bulk at most 1048576: NARROWER than '..Said'. Prove '..Said' where nothing that the law and all that it calls make is longer than what came in: it says more and counts as full. Else prove '..UptoSaid'. A law counts once. -/
mutual
def uptoBulk {H : Type} : DataW H → Nat
  | .lit (.string bytes) => bytes.length + 1
  | .lit _ => 1
  | .nil => 1
  | .ptr d => uptoBulk d + 1
  | .slice elems spare => uptoBulkAll elems + uptoBulkAll spare + 1
  | .agg parts => uptoBulkAll parts + 1
  | .iface _ d => uptoBulk d + 1
  | .map entries => uptoBulkEntries entries + 1
  | .held _ => 1
def uptoBulkAll {H : Type} : List (DataW H) → Nat
  | [] => 0
  | d :: r => uptoBulk d + uptoBulkAll r
def uptoBulkEntries {H : Type} : List (Lit × DataW H) → Nat
  | [] => 0
  | x :: r => uptoBulkEntry x + uptoBulkEntries r
def uptoBulkEntry {H : Type} : Lit × DataW H → Nat
  | (.string bytes, d) => bytes.length + uptoBulk d + 1
  | (_, d) => uptoBulk d + 1
 end
def uptoSmall : (H : Type) → List (DataW H) → Bool := fun _ ds => decide (uptoBulkAll ds ≤ 1048576)
def OpenSpec.upto (s : _root_.Go.ChangeSpec) : _root_.Go.OpenSpec := { _root_.Go.OpenSpec.ofChange s with cond := some uptoSmall }

/-- 'vitrinelaw24.HostForms', WHERE WHAT IT READS IS OF BULK AT MOST 1048576: true; the input reads as it did. -/
def hostFormsUptoRow : OpenClaim := { program := "ytclpkbgjaiacpaadoor", sum := "7723c78119212ff442b3caf09fac097ab2d025e03088f9a6a9f2ade15bd25ed0", func := "vitrine/vitrinelaw24.HostForms", spec := "hostForms", inPlace := ["sync/atomic.LoadUint32", "(*internal/sync.Mutex).Lock", "internal/race.Disable", "sync/atomic.CompareAndSwapInt32", "internal/race.Enable", "internal/race.Acquire", "(*internal/sync.Mutex).lockSlow", "internal/sync.runtime_canSpin", "internal/sync.runtime_doSpin", "internal/sync.throw", "internal/sync.runtime_nanotime", "internal/sync.runtime_SemacquireMutex", "sync/atomic.AddInt32", "(*internal/sync.Mutex).Unlock", "internal/race.ReleaseMerge", "(*internal/sync.Mutex).unlockSlow", "internal/sync.fatal", "internal/sync.runtime_Semrelease", "sync/atomic.StoreUint32"], unfollowed := true, recurses := true, named := ["vitrine/write.names"], apart := false, laid := [("vitrine/write.names", laid_vitrine_write_names)], narrowed := true }
def HostFormsUptoSaid : Prop := hostFormsUptoRow.holds Tryd.pinned (OpenSpec.upto hostFormsSpec)

/-- 'vitrinelaw24.HostAnswers', WHERE WHAT IT READS IS OF BULK AT MOST 1048576: true; the input reads as it did. -/
def hostAnswersUptoRow : OpenClaim := { program := "ytclpkbgjaiacpaadoor", sum := "7723c78119212ff442b3caf09fac097ab2d025e03088f9a6a9f2ade15bd25ed0", func := "vitrine/vitrinelaw24.HostAnswers", spec := "hostAnswers", inPlace := ["sync/atomic.LoadUint32", "(*internal/sync.Mutex).Lock", "internal/race.Disable", "sync/atomic.CompareAndSwapInt32", "internal/race.Enable", "internal/race.Acquire", "(*internal/sync.Mutex).lockSlow", "internal/sync.runtime_canSpin", "internal/sync.runtime_doSpin", "internal/sync.throw", "internal/sync.runtime_nanotime", "internal/sync.runtime_SemacquireMutex", "sync/atomic.AddInt32", "(*internal/sync.Mutex).Unlock", "internal/race.ReleaseMerge", "(*internal/sync.Mutex).unlockSlow", "internal/sync.fatal", "internal/sync.runtime_Semrelease", "sync/atomic.StoreUint32", "internal/abi.NoEscape"], unfollowed := true, recurses := true, named := ["vitrine/write.names"], apart := false, laid := [("vitrine/write.names", laid_vitrine_write_names)], narrowed := true }
def HostAnswersUptoSaid : Prop := hostAnswersUptoRow.holds Tryd.pinned (OpenSpec.upto hostAnswersSpec)

/-- 'vitrinelaw10.NegoNames', WHERE WHAT IT READS IS OF BULK AT MOST 1048576: true; the input reads as it did. -/
def negoNamesUptoRow : OpenClaim := { program := "ytclpkbgjaiacpaadoor", sum := "7723c78119212ff442b3caf09fac097ab2d025e03088f9a6a9f2ade15bd25ed0", func := "vitrine/vitrinelaw10.NegoNames", spec := "negoNames", inPlace := ["internal/bytealg.IndexByte", "internal/bytealg.Index"], unfollowed := true, recurses := true, named := ["internal/bytealg.MaxLen", "vitrine/nego.reasons"], apart := false, laid := [("vitrine/nego.reasons", laid_vitrine_nego_reasons)], narrowed := true }
def NegoNamesUptoSaid : Prop := negoNamesUptoRow.holds Tryd.pinned (OpenSpec.upto negoNamesSpec)

/-- 'vitrinelaw28.TapeParses', WHERE WHAT IT READS IS OF BULK AT MOST 1048576: true; the input reads as it did. -/
def tapeParsesUptoRow : OpenClaim := { program := "ytclpkbgjaiacpaadoor", sum := "7723c78119212ff442b3caf09fac097ab2d025e03088f9a6a9f2ade15bd25ed0", func := "vitrine/vitrinelaw28.TapeParses", spec := "tapeParses", inPlace := ["internal/bytealg.IndexByteString", "internal/bytealg.IndexString", "internal/bytealg.CountString"], unfollowed := true, recurses := true, named := ["internal/bytealg.MaxLen", "unicode/utf8.first", "unicode/utf8.acceptRanges", "strconv.ErrSyntax", "strconv.ErrRange", "internal/strconv.uint64pow10", "math/bits.deBruijn32tab", "math/bits.deBruijn64tab"], apart := false, laid := [("math/bits.deBruijn32tab", laid_math_bits_deBruijn32tab), ("math/bits.deBruijn64tab", laid_math_bits_deBruijn64tab), ("internal/strconv.uint64pow10", laid_internal_strconv_uint64pow10), ("unicode/utf8.acceptRanges", laid_unicode_utf8_acceptRanges), ("strconv.ErrRange", laid_strconv_ErrRange), ("strconv.ErrSyntax", laid_strconv_ErrSyntax), ("unicode/utf8.first", laid_unicode_utf8_first)], narrowed := true }
def TapeParsesUptoSaid : Prop := tapeParsesUptoRow.holds Tryd.pinned (OpenSpec.upto tapeParsesSpec)

/-- 'vitrinelaw28.TapeTexts', WHERE WHAT IT READS IS OF BULK AT MOST 1048576: true; the input reads as it did. -/
def tapeTextsUptoRow : OpenClaim := { program := "ytclpkbgjaiacpaadoor", sum := "7723c78119212ff442b3caf09fac097ab2d025e03088f9a6a9f2ade15bd25ed0", func := "vitrine/vitrinelaw28.TapeTexts", spec := "tapeTexts", inPlace := ["internal/bytealg.IndexByteString", "internal/bytealg.IndexString", "internal/bytealg.CountString", "internal/abi.NoEscape", "internal/bytealg.MakeNoZero"], unfollowed := true, recurses := true, named := ["internal/bytealg.MaxLen", "unicode/utf8.first", "unicode/utf8.acceptRanges", "strconv.ErrSyntax", "strconv.ErrRange", "internal/strconv.uint64pow10", "math/bits.deBruijn32tab", "math/bits.deBruijn64tab"], apart := false, laid := [("math/bits.deBruijn32tab", laid_math_bits_deBruijn32tab), ("math/bits.deBruijn64tab", laid_math_bits_deBruijn64tab), ("internal/strconv.uint64pow10", laid_internal_strconv_uint64pow10), ("unicode/utf8.acceptRanges", laid_unicode_utf8_acceptRanges), ("strconv.ErrRange", laid_strconv_ErrRange), ("strconv.ErrSyntax", laid_strconv_ErrSyntax), ("unicode/utf8.first", laid_unicode_utf8_first)], narrowed := true }
def TapeTextsUptoSaid : Prop := tapeTextsUptoRow.holds Tryd.pinned (OpenSpec.upto tapeTextsSpec)

end Rows
end Go.Proofs.YtclpkbgjaiacpaaDoor
