/-
  NARROWER THAN 'FOR EVERY INPUT', by the rows' own cells (each row's printed sentence says how): ExchangeInboxes: laid · ExchangeLong: laid · ExchangeFull: laid · ExchangeOutboxes: laid · ExchangeNil: laid · ExchangePackets: laid · ExchangeDecodes: laid · ExchangeRestarts: laid · ExchangeDelivers: laid.
  DERIVED. THE GIVEN ROWS OF THIS SEAT. 9 by the template 'for every input the law returns true; each argument reads behind the call as it read before'; 0 by the template 'total and deterministic' (their statements: YthmndclmecnpmaaDoorTotals.lean).
  GIVEN WITH THE SEED: the statements are not yours to turn. If you find one false, say at which input.
  Laid BY PROGRAM, IN A SANDBOX (cutbox-rows.mjs): the forced cells as the released guide's own fill.sh prints them over the translation 8882317706c20428… (all of the seat's roots in one cut). By AI agents, Wed Nov 11 2026. No macro, syntax, notation, axiom, sorry.
-/
import Derived.Test.YthmndclmecnpmaaDoorChecked
import GoSem.Claim
import GoSem.ClaimJoined
import GoSem.ClaimMapViews
import Derived.JoinedTies
import Derived.KernelRfl
namespace Go.Proofs.YthmndclmecnpmaaDoor
/- THE CELL 'sum', in the pinned program and in every row, IS THE sha256 OF THE DUMP (.gsa) THAT YthmndclmecnpmaaDoorProg.lean LOADS. Nothing in Lean hashes anything: it is a label: what it is worth is what the hold of that sum in a sandbox is worth. -/
noncomputable def Tryd.pinned : Pinned := { name := "ythmndclmecnpmaadoor", sum := "8882317706c20428b3e6136912aac4cff7f3806ce7464942b6eb7f4fbc9e3f22", checked := Tryd.checked }
namespace Rows
def none {H : Type} : Left H := { results := [], args := [] }

/- WHAT THE LISTED PACKAGE-LEVEL VARIABLES READ AS WHEN THE CALL BEGINS. Each datum BY PROGRAM (the guide's laid-datum.mjs) off the statement by which the dump's own 'gosem.cut.vars' lays the variable. In a bare row this is a premise. The card (YthmndclmecnpmaaDoorCards.lean) ties it to the program's text. -/
def laid_math_bits_deBruijn32tab {H : Type} : DataW H := .agg [.lit (.int .u8 0), .lit (.int .u8 1), .lit (.int .u8 28), .lit (.int .u8 2), .lit (.int .u8 29), .lit (.int .u8 14), .lit (.int .u8 24), .lit (.int .u8 3), .lit (.int .u8 30), .lit (.int .u8 22), .lit (.int .u8 20), .lit (.int .u8 15), .lit (.int .u8 25), .lit (.int .u8 17), .lit (.int .u8 4), .lit (.int .u8 8), .lit (.int .u8 31), .lit (.int .u8 27), .lit (.int .u8 13), .lit (.int .u8 23), .lit (.int .u8 21), .lit (.int .u8 19), .lit (.int .u8 16), .lit (.int .u8 7), .lit (.int .u8 26), .lit (.int .u8 12), .lit (.int .u8 18), .lit (.int .u8 6), .lit (.int .u8 11), .lit (.int .u8 5), .lit (.int .u8 10), .lit (.int .u8 9)]
def laid_math_bits_deBruijn64tab {H : Type} : DataW H := .agg [.lit (.int .u8 0), .lit (.int .u8 1), .lit (.int .u8 56), .lit (.int .u8 2), .lit (.int .u8 57), .lit (.int .u8 49), .lit (.int .u8 28), .lit (.int .u8 3), .lit (.int .u8 61), .lit (.int .u8 58), .lit (.int .u8 42), .lit (.int .u8 50), .lit (.int .u8 38), .lit (.int .u8 29), .lit (.int .u8 17), .lit (.int .u8 4), .lit (.int .u8 62), .lit (.int .u8 47), .lit (.int .u8 59), .lit (.int .u8 36), .lit (.int .u8 45), .lit (.int .u8 43), .lit (.int .u8 51), .lit (.int .u8 22), .lit (.int .u8 53), .lit (.int .u8 39), .lit (.int .u8 33), .lit (.int .u8 30), .lit (.int .u8 24), .lit (.int .u8 18), .lit (.int .u8 12), .lit (.int .u8 5), .lit (.int .u8 63), .lit (.int .u8 55), .lit (.int .u8 48), .lit (.int .u8 27), .lit (.int .u8 60), .lit (.int .u8 41), .lit (.int .u8 37), .lit (.int .u8 16), .lit (.int .u8 46), .lit (.int .u8 35), .lit (.int .u8 44), .lit (.int .u8 21), .lit (.int .u8 52), .lit (.int .u8 32), .lit (.int .u8 23), .lit (.int .u8 11), .lit (.int .u8 54), .lit (.int .u8 26), .lit (.int .u8 40), .lit (.int .u8 15), .lit (.int .u8 34), .lit (.int .u8 20), .lit (.int .u8 31), .lit (.int .u8 10), .lit (.int .u8 25), .lit (.int .u8 14), .lit (.int .u8 19), .lit (.int .u8 9), .lit (.int .u8 13), .lit (.int .u8 8), .lit (.int .u8 7), .lit (.int .u8 6)]
def laid_internal_strconv_uint64pow10 {H : Type} : DataW H := .agg [.lit (.int .u64 1), .lit (.int .u64 10), .lit (.int .u64 100), .lit (.int .u64 1000), .lit (.int .u64 10000), .lit (.int .u64 100000), .lit (.int .u64 1000000), .lit (.int .u64 10000000), .lit (.int .u64 100000000), .lit (.int .u64 1000000000), .lit (.int .u64 10000000000), .lit (.int .u64 100000000000), .lit (.int .u64 1000000000000), .lit (.int .u64 10000000000000), .lit (.int .u64 100000000000000), .lit (.int .u64 1000000000000000), .lit (.int .u64 10000000000000000), .lit (.int .u64 100000000000000000), .lit (.int .u64 1000000000000000000), .lit (.int .u64 10000000000000000000)]
def laid_strconv_ErrRange {H : Type} : DataW H := .iface "*errors.errorString" (.ptr (.agg [.lit (.string [118, 97, 108, 117, 101, 32, 111, 117, 116, 32, 111, 102, 32, 114, 97, 110, 103, 101])]))
def laid_strconv_ErrSyntax {H : Type} : DataW H := .iface "*errors.errorString" (.ptr (.agg [.lit (.string [105, 110, 118, 97, 108, 105, 100, 32, 115, 121, 110, 116, 97, 120])]))

/-- 'manifoldlaw49.ExchangeInboxes': WHATEVER THE INPUT: true; the input reads as it did. -/
def exchangeInboxesSpec : ChangeSpec := { name := "exchangeInboxes", fn := fun _ => fun
  | [d1, d2] => { results := [.lit (.bool true)], args := [d1, d2] }
  | _ => none }
def exchangeInboxesRow : OpenClaim := { program := "ythmndclmecnpmaadoor", sum := "8882317706c20428b3e6136912aac4cff7f3806ce7464942b6eb7f4fbc9e3f22", func := "manifold/manifoldlaw49.ExchangeInboxes", spec := "exchangeInboxes", recurses := true, named := ["internal/strconv.uint64pow10", "math/bits.deBruijn32tab", "math/bits.deBruijn64tab"], plainKeys := false, apart := false, laid := [("math/bits.deBruijn32tab", laid_math_bits_deBruijn32tab), ("math/bits.deBruijn64tab", laid_math_bits_deBruijn64tab), ("internal/strconv.uint64pow10", laid_internal_strconv_uint64pow10)] }
def ExchangeInboxesSaid : Prop := exchangeInboxesRow.holds Tryd.pinned (OpenSpec.ofChange exchangeInboxesSpec)

/-- ITS FALSE NEIGHBOUR: 'it returns false'. Refute it at one input. -/
def exchangeInboxesWrong : ChangeSpec := { name := "exchangeInboxes", fn := fun _ => fun
  | [d1, d2] => { results := [.lit (.bool false)], args := [d1, d2] }
  | _ => none }
def ExchangeInboxesWrongFalsely : Prop := exchangeInboxesRow.holds Tryd.pinned (OpenSpec.ofChange exchangeInboxesWrong)

/-- 'manifoldlaw49.ExchangeLong': WHATEVER THE INPUT: true; the input reads as it did. -/
def exchangeLongSpec : ChangeSpec := { name := "exchangeLong", fn := fun _ => fun
  | [d] => { results := [.lit (.bool true)], args := [d] }
  | _ => none }
def exchangeLongRow : OpenClaim := { program := "ythmndclmecnpmaadoor", sum := "8882317706c20428b3e6136912aac4cff7f3806ce7464942b6eb7f4fbc9e3f22", func := "manifold/manifoldlaw49.ExchangeLong", spec := "exchangeLong", named := ["internal/strconv.uint64pow10", "math/bits.deBruijn32tab", "math/bits.deBruijn64tab"], plainKeys := false, apart := false, laid := [("math/bits.deBruijn32tab", laid_math_bits_deBruijn32tab), ("math/bits.deBruijn64tab", laid_math_bits_deBruijn64tab), ("internal/strconv.uint64pow10", laid_internal_strconv_uint64pow10)] }
def ExchangeLongSaid : Prop := exchangeLongRow.holds Tryd.pinned (OpenSpec.ofChange exchangeLongSpec)

/-- ITS FALSE NEIGHBOUR: 'it returns false'. Refute it at one input. -/
def exchangeLongWrong : ChangeSpec := { name := "exchangeLong", fn := fun _ => fun
  | [d] => { results := [.lit (.bool false)], args := [d] }
  | _ => none }
def ExchangeLongWrongFalsely : Prop := exchangeLongRow.holds Tryd.pinned (OpenSpec.ofChange exchangeLongWrong)

/-- 'manifoldlaw49.ExchangeFull': WHATEVER THE INPUT: true; the input reads as it did. -/
def exchangeFullSpec : ChangeSpec := { name := "exchangeFull", fn := fun _ => fun
  | [d] => { results := [.lit (.bool true)], args := [d] }
  | _ => none }
def exchangeFullRow : OpenClaim := { program := "ythmndclmecnpmaadoor", sum := "8882317706c20428b3e6136912aac4cff7f3806ce7464942b6eb7f4fbc9e3f22", func := "manifold/manifoldlaw49.ExchangeFull", spec := "exchangeFull", named := ["internal/strconv.uint64pow10", "math/bits.deBruijn32tab", "math/bits.deBruijn64tab"], plainKeys := false, apart := false, laid := [("math/bits.deBruijn32tab", laid_math_bits_deBruijn32tab), ("math/bits.deBruijn64tab", laid_math_bits_deBruijn64tab), ("internal/strconv.uint64pow10", laid_internal_strconv_uint64pow10)] }
def ExchangeFullSaid : Prop := exchangeFullRow.holds Tryd.pinned (OpenSpec.ofChange exchangeFullSpec)

/-- ITS FALSE NEIGHBOUR: 'it returns false'. Refute it at one input. -/
def exchangeFullWrong : ChangeSpec := { name := "exchangeFull", fn := fun _ => fun
  | [d] => { results := [.lit (.bool false)], args := [d] }
  | _ => none }
def ExchangeFullWrongFalsely : Prop := exchangeFullRow.holds Tryd.pinned (OpenSpec.ofChange exchangeFullWrong)

/-- 'manifoldlaw49.ExchangeOutboxes': WHATEVER THE INPUT: true; the input reads as it did. -/
def exchangeOutboxesSpec : ChangeSpec := { name := "exchangeOutboxes", fn := fun _ => fun
  | [d1, d2] => { results := [.lit (.bool true)], args := [d1, d2] }
  | _ => none }
def exchangeOutboxesRow : OpenClaim := { program := "ythmndclmecnpmaadoor", sum := "8882317706c20428b3e6136912aac4cff7f3806ce7464942b6eb7f4fbc9e3f22", func := "manifold/manifoldlaw49.ExchangeOutboxes", spec := "exchangeOutboxes", recurses := true, named := ["internal/strconv.uint64pow10", "math/bits.deBruijn32tab", "math/bits.deBruijn64tab"], plainKeys := false, apart := false, laid := [("math/bits.deBruijn32tab", laid_math_bits_deBruijn32tab), ("math/bits.deBruijn64tab", laid_math_bits_deBruijn64tab), ("internal/strconv.uint64pow10", laid_internal_strconv_uint64pow10)] }
def ExchangeOutboxesSaid : Prop := exchangeOutboxesRow.holds Tryd.pinned (OpenSpec.ofChange exchangeOutboxesSpec)

/-- ITS FALSE NEIGHBOUR: 'it returns false'. Refute it at one input. -/
def exchangeOutboxesWrong : ChangeSpec := { name := "exchangeOutboxes", fn := fun _ => fun
  | [d1, d2] => { results := [.lit (.bool false)], args := [d1, d2] }
  | _ => none }
def ExchangeOutboxesWrongFalsely : Prop := exchangeOutboxesRow.holds Tryd.pinned (OpenSpec.ofChange exchangeOutboxesWrong)

/-- 'manifoldlaw49.ExchangeNil': WHATEVER THE INPUT: true; the input reads as it did. -/
def exchangeNilSpec : ChangeSpec := { name := "exchangeNil", fn := fun _ => fun
  | [d1, d2, d3] => { results := [.lit (.bool true)], args := [d1, d2, d3] }
  | _ => none }
def exchangeNilRow : OpenClaim := { program := "ythmndclmecnpmaadoor", sum := "8882317706c20428b3e6136912aac4cff7f3806ce7464942b6eb7f4fbc9e3f22", func := "manifold/manifoldlaw49.ExchangeNil", spec := "exchangeNil", named := ["internal/strconv.uint64pow10", "math/bits.deBruijn32tab", "math/bits.deBruijn64tab"], plainKeys := false, apart := false, laid := [("math/bits.deBruijn32tab", laid_math_bits_deBruijn32tab), ("math/bits.deBruijn64tab", laid_math_bits_deBruijn64tab), ("internal/strconv.uint64pow10", laid_internal_strconv_uint64pow10)] }
def ExchangeNilSaid : Prop := exchangeNilRow.holds Tryd.pinned (OpenSpec.ofChange exchangeNilSpec)

/-- ITS FALSE NEIGHBOUR: 'it returns false'. Refute it at one input. -/
def exchangeNilWrong : ChangeSpec := { name := "exchangeNil", fn := fun _ => fun
  | [d1, d2, d3] => { results := [.lit (.bool false)], args := [d1, d2, d3] }
  | _ => none }
def ExchangeNilWrongFalsely : Prop := exchangeNilRow.holds Tryd.pinned (OpenSpec.ofChange exchangeNilWrong)

/-- 'manifoldlaw49.ExchangePackets': WHATEVER THE INPUT: true; the input reads as it did. -/
def exchangePacketsSpec : ChangeSpec := { name := "exchangePackets", fn := fun _ => fun
  | [d] => { results := [.lit (.bool true)], args := [d] }
  | _ => none }
def exchangePacketsRow : OpenClaim := { program := "ythmndclmecnpmaadoor", sum := "8882317706c20428b3e6136912aac4cff7f3806ce7464942b6eb7f4fbc9e3f22", func := "manifold/manifoldlaw49.ExchangePackets", spec := "exchangePackets", inPlace := ["internal/bytealg.IndexByteString", "internal/bytealg.IndexString"], recurses := true, named := ["internal/strconv.uint64pow10", "math/bits.deBruijn32tab", "math/bits.deBruijn64tab", "internal/bytealg.MaxLen", "strconv.ErrSyntax", "strconv.ErrRange"], plainKeys := false, apart := false, laid := [("math/bits.deBruijn32tab", laid_math_bits_deBruijn32tab), ("math/bits.deBruijn64tab", laid_math_bits_deBruijn64tab), ("internal/strconv.uint64pow10", laid_internal_strconv_uint64pow10), ("strconv.ErrRange", laid_strconv_ErrRange), ("strconv.ErrSyntax", laid_strconv_ErrSyntax)] }
def ExchangePacketsSaid : Prop := exchangePacketsRow.holds Tryd.pinned (OpenSpec.ofChange exchangePacketsSpec)

/-- ITS FALSE NEIGHBOUR: 'it returns false'. Refute it at one input. -/
def exchangePacketsWrong : ChangeSpec := { name := "exchangePackets", fn := fun _ => fun
  | [d] => { results := [.lit (.bool false)], args := [d] }
  | _ => none }
def ExchangePacketsWrongFalsely : Prop := exchangePacketsRow.holds Tryd.pinned (OpenSpec.ofChange exchangePacketsWrong)

/-- 'manifoldlaw49.ExchangeDecodes': WHATEVER THE INPUT: true; the input reads as it did. -/
def exchangeDecodesSpec : ChangeSpec := { name := "exchangeDecodes", fn := fun _ => fun
  | [d] => { results := [.lit (.bool true)], args := [d] }
  | _ => none }
def exchangeDecodesRow : OpenClaim := { program := "ythmndclmecnpmaadoor", sum := "8882317706c20428b3e6136912aac4cff7f3806ce7464942b6eb7f4fbc9e3f22", func := "manifold/manifoldlaw49.ExchangeDecodes", spec := "exchangeDecodes", inPlace := ["internal/bytealg.IndexByteString", "internal/bytealg.IndexString"], recurses := true, named := ["internal/bytealg.MaxLen", "strconv.ErrSyntax", "strconv.ErrRange", "internal/strconv.uint64pow10", "math/bits.deBruijn32tab", "math/bits.deBruijn64tab"], plainKeys := false, apart := false, laid := [("math/bits.deBruijn32tab", laid_math_bits_deBruijn32tab), ("math/bits.deBruijn64tab", laid_math_bits_deBruijn64tab), ("internal/strconv.uint64pow10", laid_internal_strconv_uint64pow10), ("strconv.ErrRange", laid_strconv_ErrRange), ("strconv.ErrSyntax", laid_strconv_ErrSyntax)] }
def ExchangeDecodesSaid : Prop := exchangeDecodesRow.holds Tryd.pinned (OpenSpec.ofChange exchangeDecodesSpec)

/-- ITS FALSE NEIGHBOUR: 'it returns false'. Refute it at one input. -/
def exchangeDecodesWrong : ChangeSpec := { name := "exchangeDecodes", fn := fun _ => fun
  | [d] => { results := [.lit (.bool false)], args := [d] }
  | _ => none }
def ExchangeDecodesWrongFalsely : Prop := exchangeDecodesRow.holds Tryd.pinned (OpenSpec.ofChange exchangeDecodesWrong)

/-- 'manifoldlaw49.ExchangeRestarts': WHATEVER THE INPUT: true; the input reads as it did. -/
def exchangeRestartsSpec : ChangeSpec := { name := "exchangeRestarts", fn := fun _ => fun
  | [d1, d2, d3] => { results := [.lit (.bool true)], args := [d1, d2, d3] }
  | _ => none }
def exchangeRestartsRow : OpenClaim := { program := "ythmndclmecnpmaadoor", sum := "8882317706c20428b3e6136912aac4cff7f3806ce7464942b6eb7f4fbc9e3f22", func := "manifold/manifoldlaw49.ExchangeRestarts", spec := "exchangeRestarts", inPlace := ["internal/bytealg.IndexByteString", "internal/bytealg.IndexString"], unfollowed := true, recurses := true, named := ["internal/strconv.uint64pow10", "math/bits.deBruijn32tab", "math/bits.deBruijn64tab", "internal/bytealg.MaxLen", "strconv.ErrSyntax", "strconv.ErrRange"], plainKeys := false, apart := false, laid := [("math/bits.deBruijn32tab", laid_math_bits_deBruijn32tab), ("math/bits.deBruijn64tab", laid_math_bits_deBruijn64tab), ("internal/strconv.uint64pow10", laid_internal_strconv_uint64pow10), ("strconv.ErrRange", laid_strconv_ErrRange), ("strconv.ErrSyntax", laid_strconv_ErrSyntax)] }
def ExchangeRestartsSaid : Prop := exchangeRestartsRow.holds Tryd.pinned (OpenSpec.ofChange exchangeRestartsSpec)

/-- ITS FALSE NEIGHBOUR: 'it returns false'. Refute it at one input. -/
def exchangeRestartsWrong : ChangeSpec := { name := "exchangeRestarts", fn := fun _ => fun
  | [d1, d2, d3] => { results := [.lit (.bool false)], args := [d1, d2, d3] }
  | _ => none }
def ExchangeRestartsWrongFalsely : Prop := exchangeRestartsRow.holds Tryd.pinned (OpenSpec.ofChange exchangeRestartsWrong)

/-- 'manifoldlaw49.ExchangeDelivers': WHATEVER THE INPUT: true; the input reads as it did. -/
def exchangeDeliversSpec : ChangeSpec := { name := "exchangeDelivers", fn := fun _ => fun
  | [d1, d2, d3] => { results := [.lit (.bool true)], args := [d1, d2, d3] }
  | _ => none }
def exchangeDeliversRow : OpenClaim := { program := "ythmndclmecnpmaadoor", sum := "8882317706c20428b3e6136912aac4cff7f3806ce7464942b6eb7f4fbc9e3f22", func := "manifold/manifoldlaw49.ExchangeDelivers", spec := "exchangeDelivers", inPlace := ["internal/bytealg.IndexByteString", "internal/bytealg.IndexString"], unfollowed := true, recurses := true, named := ["internal/strconv.uint64pow10", "math/bits.deBruijn32tab", "math/bits.deBruijn64tab", "internal/bytealg.MaxLen", "strconv.ErrSyntax", "strconv.ErrRange"], plainKeys := false, apart := false, laid := [("math/bits.deBruijn32tab", laid_math_bits_deBruijn32tab), ("math/bits.deBruijn64tab", laid_math_bits_deBruijn64tab), ("internal/strconv.uint64pow10", laid_internal_strconv_uint64pow10), ("strconv.ErrRange", laid_strconv_ErrRange), ("strconv.ErrSyntax", laid_strconv_ErrSyntax)] }
def ExchangeDeliversSaid : Prop := exchangeDeliversRow.holds Tryd.pinned (OpenSpec.ofChange exchangeDeliversSpec)

/-- ITS FALSE NEIGHBOUR: 'it returns false'. Refute it at one input. -/
def exchangeDeliversWrong : ChangeSpec := { name := "exchangeDelivers", fn := fun _ => fun
  | [d1, d2, d3] => { results := [.lit (.bool false)], args := [d1, d2, d3] }
  | _ => none }
def ExchangeDeliversWrongFalsely : Prop := exchangeDeliversRow.holds Tryd.pinned (OpenSpec.ofChange exchangeDeliversWrong)

/- THE SECOND FORM. 'bulk': how many values and letters a reading holds, each counted each time it is reached (what is shared counts as often as it is met; a slice's spare places count too). A statement '..UptoSaid' is the law's where the arguments, and the package variables that the reading takes, are together of bulk at most 1048576: NARROWER than '..Said'. Prove '..Said' where nothing that the law and all that it calls make is longer than what came in: it says more and counts as full. Else prove '..UptoSaid'. A law counts once. -/
mutual
def uptoBulk {H : Type} : DataW H → Nat
  | .lit (.string bytes) => bytes.length + 1
  | .lit _ => 1
  | .nil => 1
  | .ptr d => uptoBulk d + 1
  | .slice elems spare => uptoBulkAll elems + uptoBulkAll spare + 1
  | .agg parts => uptoBulkAll parts + 1
  | .iface _ d => uptoBulk d + 1
  | .map entries => uptoBulkEntries entries + 1
  | .held _ => 1
def uptoBulkAll {H : Type} : List (DataW H) → Nat
  | [] => 0
  | d :: r => uptoBulk d + uptoBulkAll r
def uptoBulkEntries {H : Type} : List (Lit × DataW H) → Nat
  | [] => 0
  | x :: r => uptoBulkEntry x + uptoBulkEntries r
def uptoBulkEntry {H : Type} : Lit × DataW H → Nat
  | (.string bytes, d) => bytes.length + uptoBulk d + 1
  | (_, d) => uptoBulk d + 1
 end
def uptoSmall : (H : Type) → List (DataW H) → Bool := fun _ ds => decide (uptoBulkAll ds ≤ 1048576)
def OpenSpec.upto (s : _root_.Go.ChangeSpec) : _root_.Go.OpenSpec := { _root_.Go.OpenSpec.ofChange s with cond := some uptoSmall }

/-- 'manifoldlaw49.ExchangeInboxes', WHERE WHAT IT READS IS OF BULK AT MOST 1048576: true; the input reads as it did. -/
def exchangeInboxesUptoRow : OpenClaim := { program := "ythmndclmecnpmaadoor", sum := "8882317706c20428b3e6136912aac4cff7f3806ce7464942b6eb7f4fbc9e3f22", func := "manifold/manifoldlaw49.ExchangeInboxes", spec := "exchangeInboxes", recurses := true, named := ["internal/strconv.uint64pow10", "math/bits.deBruijn32tab", "math/bits.deBruijn64tab"], plainKeys := false, apart := false, laid := [("math/bits.deBruijn32tab", laid_math_bits_deBruijn32tab), ("math/bits.deBruijn64tab", laid_math_bits_deBruijn64tab), ("internal/strconv.uint64pow10", laid_internal_strconv_uint64pow10)], narrowed := true }
def ExchangeInboxesUptoSaid : Prop := exchangeInboxesUptoRow.holds Tryd.pinned (OpenSpec.upto exchangeInboxesSpec)

/-- 'manifoldlaw49.ExchangeLong', WHERE WHAT IT READS IS OF BULK AT MOST 1048576: true; the input reads as it did. -/
def exchangeLongUptoRow : OpenClaim := { program := "ythmndclmecnpmaadoor", sum := "8882317706c20428b3e6136912aac4cff7f3806ce7464942b6eb7f4fbc9e3f22", func := "manifold/manifoldlaw49.ExchangeLong", spec := "exchangeLong", named := ["internal/strconv.uint64pow10", "math/bits.deBruijn32tab", "math/bits.deBruijn64tab"], plainKeys := false, apart := false, laid := [("math/bits.deBruijn32tab", laid_math_bits_deBruijn32tab), ("math/bits.deBruijn64tab", laid_math_bits_deBruijn64tab), ("internal/strconv.uint64pow10", laid_internal_strconv_uint64pow10)], narrowed := true }
def ExchangeLongUptoSaid : Prop := exchangeLongUptoRow.holds Tryd.pinned (OpenSpec.upto exchangeLongSpec)

/-- 'manifoldlaw49.ExchangeFull', WHERE WHAT IT READS IS OF BULK AT MOST 1048576: true; the input reads as it did. -/
def exchangeFullUptoRow : OpenClaim := { program := "ythmndclmecnpmaadoor", sum := "8882317706c20428b3e6136912aac4cff7f3806ce7464942b6eb7f4fbc9e3f22", func := "manifold/manifoldlaw49.ExchangeFull", spec := "exchangeFull", named := ["internal/strconv.uint64pow10", "math/bits.deBruijn32tab", "math/bits.deBruijn64tab"], plainKeys := false, apart := false, laid := [("math/bits.deBruijn32tab", laid_math_bits_deBruijn32tab), ("math/bits.deBruijn64tab", laid_math_bits_deBruijn64tab), ("internal/strconv.uint64pow10", laid_internal_strconv_uint64pow10)], narrowed := true }
def ExchangeFullUptoSaid : Prop := exchangeFullUptoRow.holds Tryd.pinned (OpenSpec.upto exchangeFullSpec)

/-- 'manifoldlaw49.ExchangeOutboxes', WHERE WHAT IT READS IS OF BULK AT MOST 1048576: true; the input reads as it did. -/
def exchangeOutboxesUptoRow : OpenClaim := { program := "ythmndclmecnpmaadoor", sum := "8882317706c20428b3e6136912aac4cff7f3806ce7464942b6eb7f4fbc9e3f22", func := "manifold/manifoldlaw49.ExchangeOutboxes", spec := "exchangeOutboxes", recurses := true, named := ["internal/strconv.uint64pow10", "math/bits.deBruijn32tab", "math/bits.deBruijn64tab"], plainKeys := false, apart := false, laid := [("math/bits.deBruijn32tab", laid_math_bits_deBruijn32tab), ("math/bits.deBruijn64tab", laid_math_bits_deBruijn64tab), ("internal/strconv.uint64pow10", laid_internal_strconv_uint64pow10)], narrowed := true }
def ExchangeOutboxesUptoSaid : Prop := exchangeOutboxesUptoRow.holds Tryd.pinned (OpenSpec.upto exchangeOutboxesSpec)

/-- 'manifoldlaw49.ExchangeNil', WHERE WHAT IT READS IS OF BULK AT MOST 1048576: true; the input reads as it did. -/
def exchangeNilUptoRow : OpenClaim := { program := "ythmndclmecnpmaadoor", sum := "8882317706c20428b3e6136912aac4cff7f3806ce7464942b6eb7f4fbc9e3f22", func := "manifold/manifoldlaw49.ExchangeNil", spec := "exchangeNil", named := ["internal/strconv.uint64pow10", "math/bits.deBruijn32tab", "math/bits.deBruijn64tab"], plainKeys := false, apart := false, laid := [("math/bits.deBruijn32tab", laid_math_bits_deBruijn32tab), ("math/bits.deBruijn64tab", laid_math_bits_deBruijn64tab), ("internal/strconv.uint64pow10", laid_internal_strconv_uint64pow10)], narrowed := true }
def ExchangeNilUptoSaid : Prop := exchangeNilUptoRow.holds Tryd.pinned (OpenSpec.upto exchangeNilSpec)

/-- 'manifoldlaw49.ExchangePackets', WHERE WHAT IT READS IS OF BULK AT MOST 1048576: true; the input reads as it did. -/
def exchangePacketsUptoRow : OpenClaim := { program := "ythmndclmecnpmaadoor", sum := "8882317706c20428b3e6136912aac4cff7f3806ce7464942b6eb7f4fbc9e3f22", func := "manifold/manifoldlaw49.ExchangePackets", spec := "exchangePackets", inPlace := ["internal/bytealg.IndexByteString", "internal/bytealg.IndexString"], recurses := true, named := ["internal/strconv.uint64pow10", "math/bits.deBruijn32tab", "math/bits.deBruijn64tab", "internal/bytealg.MaxLen", "strconv.ErrSyntax", "strconv.ErrRange"], plainKeys := false, apart := false, laid := [("math/bits.deBruijn32tab", laid_math_bits_deBruijn32tab), ("math/bits.deBruijn64tab", laid_math_bits_deBruijn64tab), ("internal/strconv.uint64pow10", laid_internal_strconv_uint64pow10), ("strconv.ErrRange", laid_strconv_ErrRange), ("strconv.ErrSyntax", laid_strconv_ErrSyntax)], narrowed := true }
def ExchangePacketsUptoSaid : Prop := exchangePacketsUptoRow.holds Tryd.pinned (OpenSpec.upto exchangePacketsSpec)

/-- 'manifoldlaw49.ExchangeDecodes', WHERE WHAT IT READS IS OF BULK AT MOST 1048576: true; the input reads as it did. -/
def exchangeDecodesUptoRow : OpenClaim := { program := "ythmndclmecnpmaadoor", sum := "8882317706c20428b3e6136912aac4cff7f3806ce7464942b6eb7f4fbc9e3f22", func := "manifold/manifoldlaw49.ExchangeDecodes", spec := "exchangeDecodes", inPlace := ["internal/bytealg.IndexByteString", "internal/bytealg.IndexString"], recurses := true, named := ["internal/bytealg.MaxLen", "strconv.ErrSyntax", "strconv.ErrRange", "internal/strconv.uint64pow10", "math/bits.deBruijn32tab", "math/bits.deBruijn64tab"], plainKeys := false, apart := false, laid := [("math/bits.deBruijn32tab", laid_math_bits_deBruijn32tab), ("math/bits.deBruijn64tab", laid_math_bits_deBruijn64tab), ("internal/strconv.uint64pow10", laid_internal_strconv_uint64pow10), ("strconv.ErrRange", laid_strconv_ErrRange), ("strconv.ErrSyntax", laid_strconv_ErrSyntax)], narrowed := true }
def ExchangeDecodesUptoSaid : Prop := exchangeDecodesUptoRow.holds Tryd.pinned (OpenSpec.upto exchangeDecodesSpec)

/-- 'manifoldlaw49.ExchangeRestarts', WHERE WHAT IT READS IS OF BULK AT MOST 1048576: true; the input reads as it did. -/
def exchangeRestartsUptoRow : OpenClaim := { program := "ythmndclmecnpmaadoor", sum := "8882317706c20428b3e6136912aac4cff7f3806ce7464942b6eb7f4fbc9e3f22", func := "manifold/manifoldlaw49.ExchangeRestarts", spec := "exchangeRestarts", inPlace := ["internal/bytealg.IndexByteString", "internal/bytealg.IndexString"], unfollowed := true, recurses := true, named := ["internal/strconv.uint64pow10", "math/bits.deBruijn32tab", "math/bits.deBruijn64tab", "internal/bytealg.MaxLen", "strconv.ErrSyntax", "strconv.ErrRange"], plainKeys := false, apart := false, laid := [("math/bits.deBruijn32tab", laid_math_bits_deBruijn32tab), ("math/bits.deBruijn64tab", laid_math_bits_deBruijn64tab), ("internal/strconv.uint64pow10", laid_internal_strconv_uint64pow10), ("strconv.ErrRange", laid_strconv_ErrRange), ("strconv.ErrSyntax", laid_strconv_ErrSyntax)], narrowed := true }
def ExchangeRestartsUptoSaid : Prop := exchangeRestartsUptoRow.holds Tryd.pinned (OpenSpec.upto exchangeRestartsSpec)

/-- 'manifoldlaw49.ExchangeDelivers', WHERE WHAT IT READS IS OF BULK AT MOST 1048576: true; the input reads as it did. -/
def exchangeDeliversUptoRow : OpenClaim := { program := "ythmndclmecnpmaadoor", sum := "8882317706c20428b3e6136912aac4cff7f3806ce7464942b6eb7f4fbc9e3f22", func := "manifold/manifoldlaw49.ExchangeDelivers", spec := "exchangeDelivers", inPlace := ["internal/bytealg.IndexByteString", "internal/bytealg.IndexString"], unfollowed := true, recurses := true, named := ["internal/strconv.uint64pow10", "math/bits.deBruijn32tab", "math/bits.deBruijn64tab", "internal/bytealg.MaxLen", "strconv.ErrSyntax", "strconv.ErrRange"], plainKeys := false, apart := false, laid := [("math/bits.deBruijn32tab", laid_math_bits_deBruijn32tab), ("math/bits.deBruijn64tab", laid_math_bits_deBruijn64tab), ("internal/strconv.uint64pow10", laid_internal_strconv_uint64pow10), ("strconv.ErrRange", laid_strconv_ErrRange), ("strconv.ErrSyntax", laid_strconv_ErrSyntax)], narrowed := true }
def ExchangeDeliversUptoSaid : Prop := exchangeDeliversUptoRow.holds Tryd.pinned (OpenSpec.upto exchangeDeliversSpec)

end Rows
end Go.Proofs.YthmndclmecnpmaaDoor
