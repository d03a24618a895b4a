/-
  NARROWER THAN 'FOR EVERY INPUT', by the rows' own cells (each row's printed sentence says how): CalendarMonths: laid · CalendarDays: laid · CalendarJoins: laid · CalendarSuccessors: laid · CalendarAddsMonths: laid · CalendarCivil: laid · CalendarTexts: laid · CalendarParses: laid · CalendarTimes: laid · CalendarSpans: laid · CalendarSpanParses: laid.
  DERIVED. THE GIVEN ROWS OF THIS SEAT. 11 by the template 'for every input the law returns true; each argument reads behind the call as it read before'; 0 by the template 'total and deterministic' (their statements: YthkkjfofpoifiaaDoorTotals.lean).
  GIVEN WITH THE SEED: the statements are not yours to turn. If you find one false, say at which input.
  Laid BY PROGRAM, IN A SANDBOX (cutbox-rows.mjs): the forced cells as the released guide's own fill.sh prints them over the translation 0786b813582af753… (all of the seat's roots in one cut). By AI agents, Wed Nov 11 2026. No macro, syntax, notation, axiom, sorry.
-/
import Derived.Test.YthkkjfofpoifiaaDoorChecked
import GoSem.PinnedTables
import GoSem.Claim
import GoSem.ClaimJoined
import GoSem.ClaimMapViews
import Derived.JoinedTies
import Derived.KernelRfl
namespace Go.Proofs.YthkkjfofpoifiaaDoor
/- THE CELL 'sum', in the pinned program and in every row, IS THE sha256 OF THE DUMP (.gsa) THAT YthkkjfofpoifiaaDoorProg.lean LOADS. Nothing in Lean hashes anything: it is a label: what it is worth is what the hold of that sum in a sandbox is worth. -/
noncomputable def Tryd.pinned : Pinned := { name := "ythkkjfofpoifiaadoor", sum := "0786b813582af7538c29bda0f9f9c0c628b0dd85d91b2448d11995f599ac4fe6", checked := Tryd.checked }
namespace Rows
def none {H : Type} : Left H := { results := [], args := [] }

/- WHAT THE LISTED PACKAGE-LEVEL VARIABLES READ AS WHEN THE CALL BEGINS. Each datum BY PROGRAM (the guide's laid-datum.mjs) off the statement by which the dump's own 'gosem.cut.vars' lays the variable. In a bare row this is a premise. The card (YthkkjfofpoifiaaDoorCards.lean) ties it to the program's text. -/
def laid_math_bits_deBruijn32tab {H : Type} : DataW H := .agg [.lit (.int .u8 0), .lit (.int .u8 1), .lit (.int .u8 28), .lit (.int .u8 2), .lit (.int .u8 29), .lit (.int .u8 14), .lit (.int .u8 24), .lit (.int .u8 3), .lit (.int .u8 30), .lit (.int .u8 22), .lit (.int .u8 20), .lit (.int .u8 15), .lit (.int .u8 25), .lit (.int .u8 17), .lit (.int .u8 4), .lit (.int .u8 8), .lit (.int .u8 31), .lit (.int .u8 27), .lit (.int .u8 13), .lit (.int .u8 23), .lit (.int .u8 21), .lit (.int .u8 19), .lit (.int .u8 16), .lit (.int .u8 7), .lit (.int .u8 26), .lit (.int .u8 12), .lit (.int .u8 18), .lit (.int .u8 6), .lit (.int .u8 11), .lit (.int .u8 5), .lit (.int .u8 10), .lit (.int .u8 9)]
def laid_math_bits_deBruijn64tab {H : Type} : DataW H := .agg [.lit (.int .u8 0), .lit (.int .u8 1), .lit (.int .u8 56), .lit (.int .u8 2), .lit (.int .u8 57), .lit (.int .u8 49), .lit (.int .u8 28), .lit (.int .u8 3), .lit (.int .u8 61), .lit (.int .u8 58), .lit (.int .u8 42), .lit (.int .u8 50), .lit (.int .u8 38), .lit (.int .u8 29), .lit (.int .u8 17), .lit (.int .u8 4), .lit (.int .u8 62), .lit (.int .u8 47), .lit (.int .u8 59), .lit (.int .u8 36), .lit (.int .u8 45), .lit (.int .u8 43), .lit (.int .u8 51), .lit (.int .u8 22), .lit (.int .u8 53), .lit (.int .u8 39), .lit (.int .u8 33), .lit (.int .u8 30), .lit (.int .u8 24), .lit (.int .u8 18), .lit (.int .u8 12), .lit (.int .u8 5), .lit (.int .u8 63), .lit (.int .u8 55), .lit (.int .u8 48), .lit (.int .u8 27), .lit (.int .u8 60), .lit (.int .u8 41), .lit (.int .u8 37), .lit (.int .u8 16), .lit (.int .u8 46), .lit (.int .u8 35), .lit (.int .u8 44), .lit (.int .u8 21), .lit (.int .u8 52), .lit (.int .u8 32), .lit (.int .u8 23), .lit (.int .u8 11), .lit (.int .u8 54), .lit (.int .u8 26), .lit (.int .u8 40), .lit (.int .u8 15), .lit (.int .u8 34), .lit (.int .u8 20), .lit (.int .u8 31), .lit (.int .u8 10), .lit (.int .u8 25), .lit (.int .u8 14), .lit (.int .u8 19), .lit (.int .u8 9), .lit (.int .u8 13), .lit (.int .u8 8), .lit (.int .u8 7), .lit (.int .u8 6)]
def laid_internal_strconv_uint64pow10 {H : Type} : DataW H := .agg [.lit (.int .u64 1), .lit (.int .u64 10), .lit (.int .u64 100), .lit (.int .u64 1000), .lit (.int .u64 10000), .lit (.int .u64 100000), .lit (.int .u64 1000000), .lit (.int .u64 10000000), .lit (.int .u64 100000000), .lit (.int .u64 1000000000), .lit (.int .u64 10000000000), .lit (.int .u64 100000000000), .lit (.int .u64 1000000000000), .lit (.int .u64 10000000000000), .lit (.int .u64 100000000000000), .lit (.int .u64 1000000000000000), .lit (.int .u64 10000000000000000), .lit (.int .u64 100000000000000000), .lit (.int .u64 1000000000000000000), .lit (.int .u64 10000000000000000000)]
def laid_unicode_utf8_acceptRanges {H : Type} : DataW H := .agg [.agg [.lit (.int .u8 128), .lit (.int .u8 191)], .agg [.lit (.int .u8 160), .lit (.int .u8 191)], .agg [.lit (.int .u8 128), .lit (.int .u8 159)], .agg [.lit (.int .u8 144), .lit (.int .u8 191)], .agg [.lit (.int .u8 128), .lit (.int .u8 143)], .agg [.lit (.int .u8 0), .lit (.int .u8 0)], .agg [.lit (.int .u8 0), .lit (.int .u8 0)], .agg [.lit (.int .u8 0), .lit (.int .u8 0)], .agg [.lit (.int .u8 0), .lit (.int .u8 0)], .agg [.lit (.int .u8 0), .lit (.int .u8 0)], .agg [.lit (.int .u8 0), .lit (.int .u8 0)], .agg [.lit (.int .u8 0), .lit (.int .u8 0)], .agg [.lit (.int .u8 0), .lit (.int .u8 0)], .agg [.lit (.int .u8 0), .lit (.int .u8 0)], .agg [.lit (.int .u8 0), .lit (.int .u8 0)], .agg [.lit (.int .u8 0), .lit (.int .u8 0)]]
/-- One of Go's own tables, pinned by name: the form's constant. -/
def laid_unicode_utf8_first : DataW Unit := Go.Pinned.utf8First

/-- 'manifoldlaw02.CalendarMonths': WHATEVER THE INPUT: true; the input reads as it did. -/
def calendarMonthsSpec : ChangeSpec := { name := "calendarMonths", fn := fun _ => fun
  | [d1, d2] => { results := [.lit (.bool true)], args := [d1, d2] }
  | _ => none }
def calendarMonthsRow : OpenClaim := { program := "ythkkjfofpoifiaadoor", sum := "0786b813582af7538c29bda0f9f9c0c628b0dd85d91b2448d11995f599ac4fe6", func := "manifold/manifoldlaw02.CalendarMonths", spec := "calendarMonths", inPlace := ["internal/abi.NoEscape", "internal/bytealg.MakeNoZero"], named := ["internal/strconv.uint64pow10", "math/bits.deBruijn32tab", "math/bits.deBruijn64tab"], apart := false, laid := [("math/bits.deBruijn32tab", laid_math_bits_deBruijn32tab), ("math/bits.deBruijn64tab", laid_math_bits_deBruijn64tab), ("internal/strconv.uint64pow10", laid_internal_strconv_uint64pow10)] }
def CalendarMonthsSaid : Prop := calendarMonthsRow.holds Tryd.pinned (OpenSpec.ofChange calendarMonthsSpec)

/-- ITS FALSE NEIGHBOUR: 'it returns false'. Refute it at one input. -/
def calendarMonthsWrong : ChangeSpec := { name := "calendarMonths", fn := fun _ => fun
  | [d1, d2] => { results := [.lit (.bool false)], args := [d1, d2] }
  | _ => none }
def CalendarMonthsWrongFalsely : Prop := calendarMonthsRow.holds Tryd.pinned (OpenSpec.ofChange calendarMonthsWrong)

/-- 'manifoldlaw02.CalendarDays': WHATEVER THE INPUT: true; the input reads as it did. -/
def calendarDaysSpec : ChangeSpec := { name := "calendarDays", fn := fun _ => fun
  | [d1, d2, d3] => { results := [.lit (.bool true)], args := [d1, d2, d3] }
  | _ => none }
def calendarDaysRow : OpenClaim := { program := "ythkkjfofpoifiaadoor", sum := "0786b813582af7538c29bda0f9f9c0c628b0dd85d91b2448d11995f599ac4fe6", func := "manifold/manifoldlaw02.CalendarDays", spec := "calendarDays", inPlace := ["internal/abi.NoEscape", "internal/bytealg.MakeNoZero"], named := ["internal/strconv.uint64pow10", "math/bits.deBruijn32tab", "math/bits.deBruijn64tab"], apart := false, laid := [("math/bits.deBruijn32tab", laid_math_bits_deBruijn32tab), ("math/bits.deBruijn64tab", laid_math_bits_deBruijn64tab), ("internal/strconv.uint64pow10", laid_internal_strconv_uint64pow10)] }
def CalendarDaysSaid : Prop := calendarDaysRow.holds Tryd.pinned (OpenSpec.ofChange calendarDaysSpec)

/-- ITS FALSE NEIGHBOUR: 'it returns false'. Refute it at one input. -/
def calendarDaysWrong : ChangeSpec := { name := "calendarDays", fn := fun _ => fun
  | [d1, d2, d3] => { results := [.lit (.bool false)], args := [d1, d2, d3] }
  | _ => none }
def CalendarDaysWrongFalsely : Prop := calendarDaysRow.holds Tryd.pinned (OpenSpec.ofChange calendarDaysWrong)

/-- 'manifoldlaw02.CalendarJoins': WHATEVER THE INPUT: true; the input reads as it did. -/
def calendarJoinsSpec : ChangeSpec := { name := "calendarJoins", fn := fun _ => fun
  | [d1, d2] => { results := [.lit (.bool true)], args := [d1, d2] }
  | _ => none }
def calendarJoinsRow : OpenClaim := { program := "ythkkjfofpoifiaadoor", sum := "0786b813582af7538c29bda0f9f9c0c628b0dd85d91b2448d11995f599ac4fe6", func := "manifold/manifoldlaw02.CalendarJoins", spec := "calendarJoins", inPlace := ["internal/abi.NoEscape", "internal/bytealg.MakeNoZero"], named := ["internal/strconv.uint64pow10", "math/bits.deBruijn32tab", "math/bits.deBruijn64tab"], apart := false, laid := [("math/bits.deBruijn32tab", laid_math_bits_deBruijn32tab), ("math/bits.deBruijn64tab", laid_math_bits_deBruijn64tab), ("internal/strconv.uint64pow10", laid_internal_strconv_uint64pow10)] }
def CalendarJoinsSaid : Prop := calendarJoinsRow.holds Tryd.pinned (OpenSpec.ofChange calendarJoinsSpec)

/-- ITS FALSE NEIGHBOUR: 'it returns false'. Refute it at one input. -/
def calendarJoinsWrong : ChangeSpec := { name := "calendarJoins", fn := fun _ => fun
  | [d1, d2] => { results := [.lit (.bool false)], args := [d1, d2] }
  | _ => none }
def CalendarJoinsWrongFalsely : Prop := calendarJoinsRow.holds Tryd.pinned (OpenSpec.ofChange calendarJoinsWrong)

/-- 'manifoldlaw02.CalendarSuccessors': WHATEVER THE INPUT: true; the input reads as it did. -/
def calendarSuccessorsSpec : ChangeSpec := { name := "calendarSuccessors", fn := fun _ => fun
  | [d] => { results := [.lit (.bool true)], args := [d] }
  | _ => none }
def calendarSuccessorsRow : OpenClaim := { program := "ythkkjfofpoifiaadoor", sum := "0786b813582af7538c29bda0f9f9c0c628b0dd85d91b2448d11995f599ac4fe6", func := "manifold/manifoldlaw02.CalendarSuccessors", spec := "calendarSuccessors", inPlace := ["internal/abi.NoEscape", "internal/bytealg.MakeNoZero"], named := ["internal/strconv.uint64pow10", "math/bits.deBruijn32tab", "math/bits.deBruijn64tab"], apart := false, laid := [("math/bits.deBruijn32tab", laid_math_bits_deBruijn32tab), ("math/bits.deBruijn64tab", laid_math_bits_deBruijn64tab), ("internal/strconv.uint64pow10", laid_internal_strconv_uint64pow10)] }
def CalendarSuccessorsSaid : Prop := calendarSuccessorsRow.holds Tryd.pinned (OpenSpec.ofChange calendarSuccessorsSpec)

/-- ITS FALSE NEIGHBOUR: 'it returns false'. Refute it at one input. -/
def calendarSuccessorsWrong : ChangeSpec := { name := "calendarSuccessors", fn := fun _ => fun
  | [d] => { results := [.lit (.bool false)], args := [d] }
  | _ => none }
def CalendarSuccessorsWrongFalsely : Prop := calendarSuccessorsRow.holds Tryd.pinned (OpenSpec.ofChange calendarSuccessorsWrong)

/-- 'manifoldlaw02.CalendarAddsMonths': WHATEVER THE INPUT: true; the input reads as it did. -/
def calendarAddsMonthsSpec : ChangeSpec := { name := "calendarAddsMonths", fn := fun _ => fun
  | [d1, d2] => { results := [.lit (.bool true)], args := [d1, d2] }
  | _ => none }
def calendarAddsMonthsRow : OpenClaim := { program := "ythkkjfofpoifiaadoor", sum := "0786b813582af7538c29bda0f9f9c0c628b0dd85d91b2448d11995f599ac4fe6", func := "manifold/manifoldlaw02.CalendarAddsMonths", spec := "calendarAddsMonths", inPlace := ["internal/abi.NoEscape", "internal/bytealg.MakeNoZero"], named := ["internal/strconv.uint64pow10", "math/bits.deBruijn32tab", "math/bits.deBruijn64tab"], apart := false, laid := [("math/bits.deBruijn32tab", laid_math_bits_deBruijn32tab), ("math/bits.deBruijn64tab", laid_math_bits_deBruijn64tab), ("internal/strconv.uint64pow10", laid_internal_strconv_uint64pow10)] }
def CalendarAddsMonthsSaid : Prop := calendarAddsMonthsRow.holds Tryd.pinned (OpenSpec.ofChange calendarAddsMonthsSpec)

/-- ITS FALSE NEIGHBOUR: 'it returns false'. Refute it at one input. -/
def calendarAddsMonthsWrong : ChangeSpec := { name := "calendarAddsMonths", fn := fun _ => fun
  | [d1, d2] => { results := [.lit (.bool false)], args := [d1, d2] }
  | _ => none }
def CalendarAddsMonthsWrongFalsely : Prop := calendarAddsMonthsRow.holds Tryd.pinned (OpenSpec.ofChange calendarAddsMonthsWrong)

/-- 'manifoldlaw02.CalendarCivil': WHATEVER THE INPUT: true; the input reads as it did. -/
def calendarCivilSpec : ChangeSpec := { name := "calendarCivil", fn := fun _ => fun
  | [d] => { results := [.lit (.bool true)], args := [d] }
  | _ => none }
def calendarCivilRow : OpenClaim := { program := "ythkkjfofpoifiaadoor", sum := "0786b813582af7538c29bda0f9f9c0c628b0dd85d91b2448d11995f599ac4fe6", func := "manifold/manifoldlaw02.CalendarCivil", spec := "calendarCivil", inPlace := ["internal/abi.NoEscape", "internal/bytealg.MakeNoZero"], named := ["internal/strconv.uint64pow10", "math/bits.deBruijn32tab", "math/bits.deBruijn64tab"], apart := false, laid := [("math/bits.deBruijn32tab", laid_math_bits_deBruijn32tab), ("math/bits.deBruijn64tab", laid_math_bits_deBruijn64tab), ("internal/strconv.uint64pow10", laid_internal_strconv_uint64pow10)] }
def CalendarCivilSaid : Prop := calendarCivilRow.holds Tryd.pinned (OpenSpec.ofChange calendarCivilSpec)

/-- ITS FALSE NEIGHBOUR: 'it returns false'. Refute it at one input. -/
def calendarCivilWrong : ChangeSpec := { name := "calendarCivil", fn := fun _ => fun
  | [d] => { results := [.lit (.bool false)], args := [d] }
  | _ => none }
def CalendarCivilWrongFalsely : Prop := calendarCivilRow.holds Tryd.pinned (OpenSpec.ofChange calendarCivilWrong)

/-- 'manifoldlaw02.CalendarTexts': WHATEVER THE INPUT: true; the input reads as it did. -/
def calendarTextsSpec : ChangeSpec := { name := "calendarTexts", fn := fun _ => fun
  | [d] => { results := [.lit (.bool true)], args := [d] }
  | _ => none }
def calendarTextsRow : OpenClaim := { program := "ythkkjfofpoifiaadoor", sum := "0786b813582af7538c29bda0f9f9c0c628b0dd85d91b2448d11995f599ac4fe6", func := "manifold/manifoldlaw02.CalendarTexts", spec := "calendarTexts", inPlace := ["internal/abi.NoEscape", "internal/bytealg.MakeNoZero"], named := ["internal/strconv.uint64pow10", "math/bits.deBruijn32tab", "math/bits.deBruijn64tab"], apart := false, laid := [("math/bits.deBruijn32tab", laid_math_bits_deBruijn32tab), ("math/bits.deBruijn64tab", laid_math_bits_deBruijn64tab), ("internal/strconv.uint64pow10", laid_internal_strconv_uint64pow10)] }
def CalendarTextsSaid : Prop := calendarTextsRow.holds Tryd.pinned (OpenSpec.ofChange calendarTextsSpec)

/-- ITS FALSE NEIGHBOUR: 'it returns false'. Refute it at one input. -/
def calendarTextsWrong : ChangeSpec := { name := "calendarTexts", fn := fun _ => fun
  | [d] => { results := [.lit (.bool false)], args := [d] }
  | _ => none }
def CalendarTextsWrongFalsely : Prop := calendarTextsRow.holds Tryd.pinned (OpenSpec.ofChange calendarTextsWrong)

/-- 'manifoldlaw02.CalendarParses': WHATEVER THE INPUT: true; the input reads as it did. -/
def calendarParsesSpec : ChangeSpec := { name := "calendarParses", fn := fun _ => fun
  | [d] => { results := [.lit (.bool true)], args := [d] }
  | _ => none }
def calendarParsesRow : OpenClaim := { program := "ythkkjfofpoifiaadoor", sum := "0786b813582af7538c29bda0f9f9c0c628b0dd85d91b2448d11995f599ac4fe6", func := "manifold/manifoldlaw02.CalendarParses", spec := "calendarParses", inPlace := ["internal/abi.NoEscape", "internal/bytealg.MakeNoZero"], named := ["internal/strconv.uint64pow10", "math/bits.deBruijn32tab", "math/bits.deBruijn64tab"], apart := false, laid := [("math/bits.deBruijn32tab", laid_math_bits_deBruijn32tab), ("math/bits.deBruijn64tab", laid_math_bits_deBruijn64tab), ("internal/strconv.uint64pow10", laid_internal_strconv_uint64pow10)] }
def CalendarParsesSaid : Prop := calendarParsesRow.holds Tryd.pinned (OpenSpec.ofChange calendarParsesSpec)

/-- ITS FALSE NEIGHBOUR: 'it returns false'. Refute it at one input. -/
def calendarParsesWrong : ChangeSpec := { name := "calendarParses", fn := fun _ => fun
  | [d] => { results := [.lit (.bool false)], args := [d] }
  | _ => none }
def CalendarParsesWrongFalsely : Prop := calendarParsesRow.holds Tryd.pinned (OpenSpec.ofChange calendarParsesWrong)

/-- 'manifoldlaw02.CalendarTimes': WHATEVER THE INPUT: true; the input reads as it did. -/
def calendarTimesSpec : ChangeSpec := { name := "calendarTimes", fn := fun _ => fun
  | [d] => { results := [.lit (.bool true)], args := [d] }
  | _ => none }
def calendarTimesRow : OpenClaim := { program := "ythkkjfofpoifiaadoor", sum := "0786b813582af7538c29bda0f9f9c0c628b0dd85d91b2448d11995f599ac4fe6", func := "manifold/manifoldlaw02.CalendarTimes", spec := "calendarTimes", inPlace := ["internal/abi.NoEscape", "internal/bytealg.MakeNoZero"], named := ["internal/strconv.uint64pow10", "math/bits.deBruijn32tab", "math/bits.deBruijn64tab"], apart := false, laid := [("math/bits.deBruijn32tab", laid_math_bits_deBruijn32tab), ("math/bits.deBruijn64tab", laid_math_bits_deBruijn64tab), ("internal/strconv.uint64pow10", laid_internal_strconv_uint64pow10)] }
def CalendarTimesSaid : Prop := calendarTimesRow.holds Tryd.pinned (OpenSpec.ofChange calendarTimesSpec)

/-- ITS FALSE NEIGHBOUR: 'it returns false'. Refute it at one input. -/
def calendarTimesWrong : ChangeSpec := { name := "calendarTimes", fn := fun _ => fun
  | [d] => { results := [.lit (.bool false)], args := [d] }
  | _ => none }
def CalendarTimesWrongFalsely : Prop := calendarTimesRow.holds Tryd.pinned (OpenSpec.ofChange calendarTimesWrong)

/-- 'manifoldlaw02.CalendarSpans': WHATEVER THE INPUT: true; the input reads as it did. -/
def calendarSpansSpec : ChangeSpec := { name := "calendarSpans", fn := fun _ => fun
  | [d] => { results := [.lit (.bool true)], args := [d] }
  | _ => none }
def calendarSpansRow : OpenClaim := { program := "ythkkjfofpoifiaadoor", sum := "0786b813582af7538c29bda0f9f9c0c628b0dd85d91b2448d11995f599ac4fe6", func := "manifold/manifoldlaw02.CalendarSpans", spec := "calendarSpans", inPlace := ["internal/abi.NoEscape", "internal/bytealg.MakeNoZero", "internal/bytealg.IndexByteString", "internal/bytealg.IndexString"], recurses := true, named := ["internal/strconv.uint64pow10", "math/bits.deBruijn32tab", "math/bits.deBruijn64tab", "unicode/utf8.first", "unicode/utf8.acceptRanges", "internal/bytealg.MaxLen"], apart := false, laid := [("math/bits.deBruijn32tab", laid_math_bits_deBruijn32tab), ("math/bits.deBruijn64tab", laid_math_bits_deBruijn64tab), ("internal/strconv.uint64pow10", laid_internal_strconv_uint64pow10), ("unicode/utf8.acceptRanges", laid_unicode_utf8_acceptRanges), ("unicode/utf8.first", laid_unicode_utf8_first)] }
def CalendarSpansSaid : Prop := calendarSpansRow.holds Tryd.pinned (OpenSpec.ofChange calendarSpansSpec)

/-- ITS FALSE NEIGHBOUR: 'it returns false'. Refute it at one input. -/
def calendarSpansWrong : ChangeSpec := { name := "calendarSpans", fn := fun _ => fun
  | [d] => { results := [.lit (.bool false)], args := [d] }
  | _ => none }
def CalendarSpansWrongFalsely : Prop := calendarSpansRow.holds Tryd.pinned (OpenSpec.ofChange calendarSpansWrong)

/-- 'manifoldlaw02.CalendarSpanParses': WHATEVER THE INPUT: true; the input reads as it did. -/
def calendarSpanParsesSpec : ChangeSpec := { name := "calendarSpanParses", fn := fun _ => fun
  | [d] => { results := [.lit (.bool true)], args := [d] }
  | _ => none }
def calendarSpanParsesRow : OpenClaim := { program := "ythkkjfofpoifiaadoor", sum := "0786b813582af7538c29bda0f9f9c0c628b0dd85d91b2448d11995f599ac4fe6", func := "manifold/manifoldlaw02.CalendarSpanParses", spec := "calendarSpanParses", inPlace := ["internal/bytealg.IndexByteString", "internal/bytealg.IndexString", "internal/abi.NoEscape", "internal/bytealg.MakeNoZero"], recurses := true, named := ["unicode/utf8.first", "unicode/utf8.acceptRanges", "internal/strconv.uint64pow10", "math/bits.deBruijn32tab", "math/bits.deBruijn64tab", "internal/bytealg.MaxLen"], apart := false, laid := [("math/bits.deBruijn32tab", laid_math_bits_deBruijn32tab), ("math/bits.deBruijn64tab", laid_math_bits_deBruijn64tab), ("internal/strconv.uint64pow10", laid_internal_strconv_uint64pow10), ("unicode/utf8.acceptRanges", laid_unicode_utf8_acceptRanges), ("unicode/utf8.first", laid_unicode_utf8_first)] }
def CalendarSpanParsesSaid : Prop := calendarSpanParsesRow.holds Tryd.pinned (OpenSpec.ofChange calendarSpanParsesSpec)

/-- ITS FALSE NEIGHBOUR: 'it returns false'. Refute it at one input. -/
def calendarSpanParsesWrong : ChangeSpec := { name := "calendarSpanParses", fn := fun _ => fun
  | [d] => { results := [.lit (.bool false)], args := [d] }
  | _ => none }
def CalendarSpanParsesWrongFalsely : Prop := calendarSpanParsesRow.holds Tryd.pinned (OpenSpec.ofChange calendarSpanParsesWrong)

/- THE SECOND FORM. 'bulk': how many values and letters a reading holds, each counted each time it is reached (what is shared counts as often as it is met; a slice's spare places count too). A statement '..UptoSaid' is the law's where the arguments, and the package variables that the reading takes, are together of bulk at most 1048576: NARROWER than '..Said'. Prove '..Said' where nothing that the law and all that it calls make is longer than what came in: it says more and counts as full. Else prove '..UptoSaid'. A law counts once. -/
mutual
def uptoBulk {H : Type} : DataW H → Nat
  | .lit (.string bytes) => bytes.length + 1
  | .lit _ => 1
  | .nil => 1
  | .ptr d => uptoBulk d + 1
  | .slice elems spare => uptoBulkAll elems + uptoBulkAll spare + 1
  | .agg parts => uptoBulkAll parts + 1
  | .iface _ d => uptoBulk d + 1
  | .map entries => uptoBulkEntries entries + 1
  | .held _ => 1
def uptoBulkAll {H : Type} : List (DataW H) → Nat
  | [] => 0
  | d :: r => uptoBulk d + uptoBulkAll r
def uptoBulkEntries {H : Type} : List (Lit × DataW H) → Nat
  | [] => 0
  | x :: r => uptoBulkEntry x + uptoBulkEntries r
def uptoBulkEntry {H : Type} : Lit × DataW H → Nat
  | (.string bytes, d) => bytes.length + uptoBulk d + 1
  | (_, d) => uptoBulk d + 1
 end
def uptoSmall : (H : Type) → List (DataW H) → Bool := fun _ ds => decide (uptoBulkAll ds ≤ 1048576)
def OpenSpec.upto (s : _root_.Go.ChangeSpec) : _root_.Go.OpenSpec := { _root_.Go.OpenSpec.ofChange s with cond := some uptoSmall }

/-- 'manifoldlaw02.CalendarMonths', WHERE WHAT IT READS IS OF BULK AT MOST 1048576: true; the input reads as it did. -/
def calendarMonthsUptoRow : OpenClaim := { program := "ythkkjfofpoifiaadoor", sum := "0786b813582af7538c29bda0f9f9c0c628b0dd85d91b2448d11995f599ac4fe6", func := "manifold/manifoldlaw02.CalendarMonths", spec := "calendarMonths", inPlace := ["internal/abi.NoEscape", "internal/bytealg.MakeNoZero"], named := ["internal/strconv.uint64pow10", "math/bits.deBruijn32tab", "math/bits.deBruijn64tab"], apart := false, laid := [("math/bits.deBruijn32tab", laid_math_bits_deBruijn32tab), ("math/bits.deBruijn64tab", laid_math_bits_deBruijn64tab), ("internal/strconv.uint64pow10", laid_internal_strconv_uint64pow10)], narrowed := true }
def CalendarMonthsUptoSaid : Prop := calendarMonthsUptoRow.holds Tryd.pinned (OpenSpec.upto calendarMonthsSpec)

/-- 'manifoldlaw02.CalendarDays', WHERE WHAT IT READS IS OF BULK AT MOST 1048576: true; the input reads as it did. -/
def calendarDaysUptoRow : OpenClaim := { program := "ythkkjfofpoifiaadoor", sum := "0786b813582af7538c29bda0f9f9c0c628b0dd85d91b2448d11995f599ac4fe6", func := "manifold/manifoldlaw02.CalendarDays", spec := "calendarDays", inPlace := ["internal/abi.NoEscape", "internal/bytealg.MakeNoZero"], named := ["internal/strconv.uint64pow10", "math/bits.deBruijn32tab", "math/bits.deBruijn64tab"], apart := false, laid := [("math/bits.deBruijn32tab", laid_math_bits_deBruijn32tab), ("math/bits.deBruijn64tab", laid_math_bits_deBruijn64tab), ("internal/strconv.uint64pow10", laid_internal_strconv_uint64pow10)], narrowed := true }
def CalendarDaysUptoSaid : Prop := calendarDaysUptoRow.holds Tryd.pinned (OpenSpec.upto calendarDaysSpec)

/-- 'manifoldlaw02.CalendarJoins', WHERE WHAT IT READS IS OF BULK AT MOST 1048576: true; the input reads as it did. -/
def calendarJoinsUptoRow : OpenClaim := { program := "ythkkjfofpoifiaadoor", sum := "0786b813582af7538c29bda0f9f9c0c628b0dd85d91b2448d11995f599ac4fe6", func := "manifold/manifoldlaw02.CalendarJoins", spec := "calendarJoins", inPlace := ["internal/abi.NoEscape", "internal/bytealg.MakeNoZero"], named := ["internal/strconv.uint64pow10", "math/bits.deBruijn32tab", "math/bits.deBruijn64tab"], apart := false, laid := [("math/bits.deBruijn32tab", laid_math_bits_deBruijn32tab), ("math/bits.deBruijn64tab", laid_math_bits_deBruijn64tab), ("internal/strconv.uint64pow10", laid_internal_strconv_uint64pow10)], narrowed := true }
def CalendarJoinsUptoSaid : Prop := calendarJoinsUptoRow.holds Tryd.pinned (OpenSpec.upto calendarJoinsSpec)

/-- 'manifoldlaw02.CalendarSuccessors', WHERE WHAT IT READS IS OF BULK AT MOST 1048576: true; the input reads as it did. -/
def calendarSuccessorsUptoRow : OpenClaim := { program := "ythkkjfofpoifiaadoor", sum := "0786b813582af7538c29bda0f9f9c0c628b0dd85d91b2448d11995f599ac4fe6", func := "manifold/manifoldlaw02.CalendarSuccessors", spec := "calendarSuccessors", inPlace := ["internal/abi.NoEscape", "internal/bytealg.MakeNoZero"], named := ["internal/strconv.uint64pow10", "math/bits.deBruijn32tab", "math/bits.deBruijn64tab"], apart := false, laid := [("math/bits.deBruijn32tab", laid_math_bits_deBruijn32tab), ("math/bits.deBruijn64tab", laid_math_bits_deBruijn64tab), ("internal/strconv.uint64pow10", laid_internal_strconv_uint64pow10)], narrowed := true }
def CalendarSuccessorsUptoSaid : Prop := calendarSuccessorsUptoRow.holds Tryd.pinned (OpenSpec.upto calendarSuccessorsSpec)

/-- 'manifoldlaw02.CalendarAddsMonths', WHERE WHAT IT READS IS OF BULK AT MOST 1048576: true; the input reads as it did. -/
def calendarAddsMonthsUptoRow : OpenClaim := { program := "ythkkjfofpoifiaadoor", sum := "0786b813582af7538c29bda0f9f9c0c628b0dd85d91b2448d11995f599ac4fe6", func := "manifold/manifoldlaw02.CalendarAddsMonths", spec := "calendarAddsMonths", inPlace := ["internal/abi.NoEscape", "internal/bytealg.MakeNoZero"], named := ["internal/strconv.uint64pow10", "math/bits.deBruijn32tab", "math/bits.deBruijn64tab"], apart := false, laid := [("math/bits.deBruijn32tab", laid_math_bits_deBruijn32tab), ("math/bits.deBruijn64tab", laid_math_bits_deBruijn64tab), ("internal/strconv.uint64pow10", laid_internal_strconv_uint64pow10)], narrowed := true }
def CalendarAddsMonthsUptoSaid : Prop := calendarAddsMonthsUptoRow.holds Tryd.pinned (OpenSpec.upto calendarAddsMonthsSpec)

/-- 'manifoldlaw02.CalendarCivil', WHERE WHAT IT READS IS OF BULK AT MOST 1048576: true; the input reads as it did. -/
def calendarCivilUptoRow : OpenClaim := { program := "ythkkjfofpoifiaadoor", sum := "0786b813582af7538c29bda0f9f9c0c628b0dd85d91b2448d11995f599ac4fe6", func := "manifold/manifoldlaw02.CalendarCivil", spec := "calendarCivil", inPlace := ["internal/abi.NoEscape", "internal/bytealg.MakeNoZero"], named := ["internal/strconv.uint64pow10", "math/bits.deBruijn32tab", "math/bits.deBruijn64tab"], apart := false, laid := [("math/bits.deBruijn32tab", laid_math_bits_deBruijn32tab), ("math/bits.deBruijn64tab", laid_math_bits_deBruijn64tab), ("internal/strconv.uint64pow10", laid_internal_strconv_uint64pow10)], narrowed := true }
def CalendarCivilUptoSaid : Prop := calendarCivilUptoRow.holds Tryd.pinned (OpenSpec.upto calendarCivilSpec)

/-- 'manifoldlaw02.CalendarTexts', WHERE WHAT IT READS IS OF BULK AT MOST 1048576: true; the input reads as it did. -/
def calendarTextsUptoRow : OpenClaim := { program := "ythkkjfofpoifiaadoor", sum := "0786b813582af7538c29bda0f9f9c0c628b0dd85d91b2448d11995f599ac4fe6", func := "manifold/manifoldlaw02.CalendarTexts", spec := "calendarTexts", inPlace := ["internal/abi.NoEscape", "internal/bytealg.MakeNoZero"], named := ["internal/strconv.uint64pow10", "math/bits.deBruijn32tab", "math/bits.deBruijn64tab"], apart := false, laid := [("math/bits.deBruijn32tab", laid_math_bits_deBruijn32tab), ("math/bits.deBruijn64tab", laid_math_bits_deBruijn64tab), ("internal/strconv.uint64pow10", laid_internal_strconv_uint64pow10)], narrowed := true }
def CalendarTextsUptoSaid : Prop := calendarTextsUptoRow.holds Tryd.pinned (OpenSpec.upto calendarTextsSpec)

/-- 'manifoldlaw02.CalendarParses', WHERE WHAT IT READS IS OF BULK AT MOST 1048576: true; the input reads as it did. -/
def calendarParsesUptoRow : OpenClaim := { program := "ythkkjfofpoifiaadoor", sum := "0786b813582af7538c29bda0f9f9c0c628b0dd85d91b2448d11995f599ac4fe6", func := "manifold/manifoldlaw02.CalendarParses", spec := "calendarParses", inPlace := ["internal/abi.NoEscape", "internal/bytealg.MakeNoZero"], named := ["internal/strconv.uint64pow10", "math/bits.deBruijn32tab", "math/bits.deBruijn64tab"], apart := false, laid := [("math/bits.deBruijn32tab", laid_math_bits_deBruijn32tab), ("math/bits.deBruijn64tab", laid_math_bits_deBruijn64tab), ("internal/strconv.uint64pow10", laid_internal_strconv_uint64pow10)], narrowed := true }
def CalendarParsesUptoSaid : Prop := calendarParsesUptoRow.holds Tryd.pinned (OpenSpec.upto calendarParsesSpec)

/-- 'manifoldlaw02.CalendarTimes', WHERE WHAT IT READS IS OF BULK AT MOST 1048576: true; the input reads as it did. -/
def calendarTimesUptoRow : OpenClaim := { program := "ythkkjfofpoifiaadoor", sum := "0786b813582af7538c29bda0f9f9c0c628b0dd85d91b2448d11995f599ac4fe6", func := "manifold/manifoldlaw02.CalendarTimes", spec := "calendarTimes", inPlace := ["internal/abi.NoEscape", "internal/bytealg.MakeNoZero"], named := ["internal/strconv.uint64pow10", "math/bits.deBruijn32tab", "math/bits.deBruijn64tab"], apart := false, laid := [("math/bits.deBruijn32tab", laid_math_bits_deBruijn32tab), ("math/bits.deBruijn64tab", laid_math_bits_deBruijn64tab), ("internal/strconv.uint64pow10", laid_internal_strconv_uint64pow10)], narrowed := true }
def CalendarTimesUptoSaid : Prop := calendarTimesUptoRow.holds Tryd.pinned (OpenSpec.upto calendarTimesSpec)

/-- 'manifoldlaw02.CalendarSpans', WHERE WHAT IT READS IS OF BULK AT MOST 1048576: true; the input reads as it did. -/
def calendarSpansUptoRow : OpenClaim := { program := "ythkkjfofpoifiaadoor", sum := "0786b813582af7538c29bda0f9f9c0c628b0dd85d91b2448d11995f599ac4fe6", func := "manifold/manifoldlaw02.CalendarSpans", spec := "calendarSpans", inPlace := ["internal/abi.NoEscape", "internal/bytealg.MakeNoZero", "internal/bytealg.IndexByteString", "internal/bytealg.IndexString"], recurses := true, named := ["internal/strconv.uint64pow10", "math/bits.deBruijn32tab", "math/bits.deBruijn64tab", "unicode/utf8.first", "unicode/utf8.acceptRanges", "internal/bytealg.MaxLen"], apart := false, laid := [("math/bits.deBruijn32tab", laid_math_bits_deBruijn32tab), ("math/bits.deBruijn64tab", laid_math_bits_deBruijn64tab), ("internal/strconv.uint64pow10", laid_internal_strconv_uint64pow10), ("unicode/utf8.acceptRanges", laid_unicode_utf8_acceptRanges), ("unicode/utf8.first", laid_unicode_utf8_first)], narrowed := true }
def CalendarSpansUptoSaid : Prop := calendarSpansUptoRow.holds Tryd.pinned (OpenSpec.upto calendarSpansSpec)

/-- 'manifoldlaw02.CalendarSpanParses', WHERE WHAT IT READS IS OF BULK AT MOST 1048576: true; the input reads as it did. -/
def calendarSpanParsesUptoRow : OpenClaim := { program := "ythkkjfofpoifiaadoor", sum := "0786b813582af7538c29bda0f9f9c0c628b0dd85d91b2448d11995f599ac4fe6", func := "manifold/manifoldlaw02.CalendarSpanParses", spec := "calendarSpanParses", inPlace := ["internal/bytealg.IndexByteString", "internal/bytealg.IndexString", "internal/abi.NoEscape", "internal/bytealg.MakeNoZero"], recurses := true, named := ["unicode/utf8.first", "unicode/utf8.acceptRanges", "internal/strconv.uint64pow10", "math/bits.deBruijn32tab", "math/bits.deBruijn64tab", "internal/bytealg.MaxLen"], apart := false, laid := [("math/bits.deBruijn32tab", laid_math_bits_deBruijn32tab), ("math/bits.deBruijn64tab", laid_math_bits_deBruijn64tab), ("internal/strconv.uint64pow10", laid_internal_strconv_uint64pow10), ("unicode/utf8.acceptRanges", laid_unicode_utf8_acceptRanges), ("unicode/utf8.first", laid_unicode_utf8_first)], narrowed := true }
def CalendarSpanParsesUptoSaid : Prop := calendarSpanParsesUptoRow.holds Tryd.pinned (OpenSpec.upto calendarSpanParsesSpec)

end Rows
end Go.Proofs.YthkkjfofpoifiaaDoor
