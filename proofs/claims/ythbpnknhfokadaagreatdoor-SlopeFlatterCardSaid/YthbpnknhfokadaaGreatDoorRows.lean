/-
  NARROWER THAN 'FOR EVERY INPUT', by the rows' own cells (each row's printed sentence says how): SurdAdds: laid · SurdMultiplies: laid · SurdSigns: laid · SurdRoots: laid · SurdValues: laid · SurdConjugates: laid · SlopeFlatter: laid · SlopeFactors: laid.
  DERIVED. THE GIVEN ROWS OF THIS SEAT. 8 by the template 'for every input the law returns true; each argument reads behind the call as it read before'; 0 by the template 'total and deterministic' (their statements: YthbpnknhfokadaaGreatDoorTotals.lean).
  GIVEN WITH THE SEED: the statements are not yours to turn. If you find one false, say at which input.
  Laid BY PROGRAM, IN A SANDBOX (cutbox-rows.mjs): the forced cells as the released guide's own fill.sh prints them over the translation c2152e83cf1cb41f… (all of the seat's roots in one cut). By AI agents, Wed Nov 11 2026. No macro, syntax, notation, axiom, sorry.
-/
import Derived.Test.YthbpnknhfokadaaGreatDoorChecked
import GoSem.PinnedTables
import GoSem.Claim
import GoSem.ClaimJoined
import GoSem.ClaimMapViews
import Derived.JoinedTies
import Derived.KernelRfl
namespace Go.Proofs.YthbpnknhfokadaaGreatDoor
/- THE CELL 'sum', in the pinned program and in every row, IS THE sha256 OF THE DUMP (.gsa) THAT YthbpnknhfokadaaGreatDoorProg.lean LOADS. Nothing in Lean hashes anything: it is a label: what it is worth is what the hold of that sum in a sandbox is worth. -/
noncomputable def Tryz.pinned : Pinned := { name := "ythbpnknhfokadaagreatdoor", sum := "c2152e83cf1cb41f5a4f44a34568600c1bd60d0cd7e2b28b427131aa597d4251", checked := Tryz.checked }
namespace Rows
def none {H : Type} : Left H := { results := [], args := [] }

/- WHAT THE LISTED PACKAGE-LEVEL VARIABLES READ AS WHEN THE CALL BEGINS. Each datum BY PROGRAM (the guide's laid-datum.mjs) off the statement by which the dump's own 'gosem.cut.vars' lays the variable. In a bare row this is a premise. The card (YthbpnknhfokadaaGreatDoorCards.lean) ties it to the program's text. -/
def laid_math_bits_deBruijn32tab {H : Type} : DataW H := .agg [.lit (.int .u8 0), .lit (.int .u8 1), .lit (.int .u8 28), .lit (.int .u8 2), .lit (.int .u8 29), .lit (.int .u8 14), .lit (.int .u8 24), .lit (.int .u8 3), .lit (.int .u8 30), .lit (.int .u8 22), .lit (.int .u8 20), .lit (.int .u8 15), .lit (.int .u8 25), .lit (.int .u8 17), .lit (.int .u8 4), .lit (.int .u8 8), .lit (.int .u8 31), .lit (.int .u8 27), .lit (.int .u8 13), .lit (.int .u8 23), .lit (.int .u8 21), .lit (.int .u8 19), .lit (.int .u8 16), .lit (.int .u8 7), .lit (.int .u8 26), .lit (.int .u8 12), .lit (.int .u8 18), .lit (.int .u8 6), .lit (.int .u8 11), .lit (.int .u8 5), .lit (.int .u8 10), .lit (.int .u8 9)]
def laid_math_bits_deBruijn64tab {H : Type} : DataW H := .agg [.lit (.int .u8 0), .lit (.int .u8 1), .lit (.int .u8 56), .lit (.int .u8 2), .lit (.int .u8 57), .lit (.int .u8 49), .lit (.int .u8 28), .lit (.int .u8 3), .lit (.int .u8 61), .lit (.int .u8 58), .lit (.int .u8 42), .lit (.int .u8 50), .lit (.int .u8 38), .lit (.int .u8 29), .lit (.int .u8 17), .lit (.int .u8 4), .lit (.int .u8 62), .lit (.int .u8 47), .lit (.int .u8 59), .lit (.int .u8 36), .lit (.int .u8 45), .lit (.int .u8 43), .lit (.int .u8 51), .lit (.int .u8 22), .lit (.int .u8 53), .lit (.int .u8 39), .lit (.int .u8 33), .lit (.int .u8 30), .lit (.int .u8 24), .lit (.int .u8 18), .lit (.int .u8 12), .lit (.int .u8 5), .lit (.int .u8 63), .lit (.int .u8 55), .lit (.int .u8 48), .lit (.int .u8 27), .lit (.int .u8 60), .lit (.int .u8 41), .lit (.int .u8 37), .lit (.int .u8 16), .lit (.int .u8 46), .lit (.int .u8 35), .lit (.int .u8 44), .lit (.int .u8 21), .lit (.int .u8 52), .lit (.int .u8 32), .lit (.int .u8 23), .lit (.int .u8 11), .lit (.int .u8 54), .lit (.int .u8 26), .lit (.int .u8 40), .lit (.int .u8 15), .lit (.int .u8 34), .lit (.int .u8 20), .lit (.int .u8 31), .lit (.int .u8 10), .lit (.int .u8 25), .lit (.int .u8 14), .lit (.int .u8 19), .lit (.int .u8 9), .lit (.int .u8 13), .lit (.int .u8 8), .lit (.int .u8 7), .lit (.int .u8 6)]
def laid_internal_strconv_uint64pow10 {H : Type} : DataW H := .agg [.lit (.int .u64 1), .lit (.int .u64 10), .lit (.int .u64 100), .lit (.int .u64 1000), .lit (.int .u64 10000), .lit (.int .u64 100000), .lit (.int .u64 1000000), .lit (.int .u64 10000000), .lit (.int .u64 100000000), .lit (.int .u64 1000000000), .lit (.int .u64 10000000000), .lit (.int .u64 100000000000), .lit (.int .u64 1000000000000), .lit (.int .u64 10000000000000), .lit (.int .u64 100000000000000), .lit (.int .u64 1000000000000000), .lit (.int .u64 10000000000000000), .lit (.int .u64 100000000000000000), .lit (.int .u64 1000000000000000000), .lit (.int .u64 10000000000000000000)]
def laid_unicode_utf8_acceptRanges {H : Type} : DataW H := .agg [.agg [.lit (.int .u8 128), .lit (.int .u8 191)], .agg [.lit (.int .u8 160), .lit (.int .u8 191)], .agg [.lit (.int .u8 128), .lit (.int .u8 159)], .agg [.lit (.int .u8 144), .lit (.int .u8 191)], .agg [.lit (.int .u8 128), .lit (.int .u8 143)], .agg [.lit (.int .u8 0), .lit (.int .u8 0)], .agg [.lit (.int .u8 0), .lit (.int .u8 0)], .agg [.lit (.int .u8 0), .lit (.int .u8 0)], .agg [.lit (.int .u8 0), .lit (.int .u8 0)], .agg [.lit (.int .u8 0), .lit (.int .u8 0)], .agg [.lit (.int .u8 0), .lit (.int .u8 0)], .agg [.lit (.int .u8 0), .lit (.int .u8 0)], .agg [.lit (.int .u8 0), .lit (.int .u8 0)], .agg [.lit (.int .u8 0), .lit (.int .u8 0)], .agg [.lit (.int .u8 0), .lit (.int .u8 0)], .agg [.lit (.int .u8 0), .lit (.int .u8 0)]]
def laid_strconv_ErrRange {H : Type} : DataW H := .iface "*errors.errorString" (.ptr (.agg [.lit (.string [118, 97, 108, 117, 101, 32, 111, 117, 116, 32, 111, 102, 32, 114, 97, 110, 103, 101])]))
def laid_strconv_ErrSyntax {H : Type} : DataW H := .iface "*errors.errorString" (.ptr (.agg [.lit (.string [105, 110, 118, 97, 108, 105, 100, 32, 115, 121, 110, 116, 97, 120])]))
def laid_kingpost_root_primes {H : Type} : DataW H := .agg [.lit (.string [50]), .lit (.string [51]), .lit (.string [53]), .lit (.string [55]), .lit (.string [49, 49]), .lit (.string [49, 51]), .lit (.string [49, 55]), .lit (.string [49, 57]), .lit (.string [50, 51]), .lit (.string [50, 57]), .lit (.string [51, 49]), .lit (.string [51, 55]), .lit (.string [52, 49]), .lit (.string [52, 51]), .lit (.string [52, 55]), .lit (.string [53, 51]), .lit (.string [53, 57]), .lit (.string [54, 49]), .lit (.string [54, 55]), .lit (.string [55, 49]), .lit (.string [55, 51]), .lit (.string [55, 57]), .lit (.string [56, 51]), .lit (.string [56, 57]), .lit (.string [57, 55])]
def laid_kingpost_surd_signPlaces {H : Type} : DataW H := .agg [.lit (.int .i64 4), .lit (.int .i64 16), .lit (.int .i64 64)]
/-- One of Go's own tables, pinned by name: the form's constant. -/
def laid_unicode_utf8_first : DataW Unit := Go.Pinned.utf8First

/-- 'kingpostlaw04.SurdAdds': WHATEVER THE INPUT: true; the input reads as it did. -/
def surdAddsSpec : ChangeSpec := { name := "surdAdds", fn := fun _ => fun
  | [d1, d2, d3] => { results := [.lit (.bool true)], args := [d1, d2, d3] }
  | _ => none }
def surdAddsRow : OpenClaim := { program := "ythbpnknhfokadaagreatdoor", sum := "c2152e83cf1cb41f5a4f44a34568600c1bd60d0cd7e2b28b427131aa597d4251", func := "kingpost/kingpostlaw04.SurdAdds", spec := "surdAdds", inPlace := ["internal/bytealg.IndexByteString", "internal/bytealg.IndexString", "internal/abi.NoEscape", "internal/bytealg.MakeNoZero"], unfollowed := true, recurses := true, named := ["internal/strconv.uint64pow10", "math/bits.deBruijn32tab", "math/bits.deBruijn64tab", "internal/bytealg.MaxLen", "unicode/utf8.first", "unicode/utf8.acceptRanges", "strconv.ErrSyntax", "strconv.ErrRange", "kingpost/root.primes", "kingpost/surd.signPlaces"], apart := false, laid := [("math/bits.deBruijn32tab", laid_math_bits_deBruijn32tab), ("math/bits.deBruijn64tab", laid_math_bits_deBruijn64tab), ("internal/strconv.uint64pow10", laid_internal_strconv_uint64pow10), ("unicode/utf8.acceptRanges", laid_unicode_utf8_acceptRanges), ("strconv.ErrRange", laid_strconv_ErrRange), ("strconv.ErrSyntax", laid_strconv_ErrSyntax), ("kingpost/root.primes", laid_kingpost_root_primes), ("kingpost/surd.signPlaces", laid_kingpost_surd_signPlaces), ("unicode/utf8.first", laid_unicode_utf8_first)] }
def SurdAddsSaid : Prop := surdAddsRow.holds Tryz.pinned (OpenSpec.ofChange surdAddsSpec)

/-- ITS FALSE NEIGHBOUR: 'it returns false'. Refute it at one input. -/
def surdAddsWrong : ChangeSpec := { name := "surdAdds", fn := fun _ => fun
  | [d1, d2, d3] => { results := [.lit (.bool false)], args := [d1, d2, d3] }
  | _ => none }
def SurdAddsWrongFalsely : Prop := surdAddsRow.holds Tryz.pinned (OpenSpec.ofChange surdAddsWrong)

/-- 'kingpostlaw04.SurdMultiplies': WHATEVER THE INPUT: true; the input reads as it did. -/
def surdMultipliesSpec : ChangeSpec := { name := "surdMultiplies", fn := fun _ => fun
  | [d1, d2, d3] => { results := [.lit (.bool true)], args := [d1, d2, d3] }
  | _ => none }
def surdMultipliesRow : OpenClaim := { program := "ythbpnknhfokadaagreatdoor", sum := "c2152e83cf1cb41f5a4f44a34568600c1bd60d0cd7e2b28b427131aa597d4251", func := "kingpost/kingpostlaw04.SurdMultiplies", spec := "surdMultiplies", inPlace := ["internal/bytealg.IndexByteString", "internal/bytealg.IndexString", "internal/abi.NoEscape", "internal/bytealg.MakeNoZero"], unfollowed := true, recurses := true, named := ["internal/strconv.uint64pow10", "math/bits.deBruijn32tab", "math/bits.deBruijn64tab", "internal/bytealg.MaxLen", "unicode/utf8.first", "unicode/utf8.acceptRanges", "strconv.ErrSyntax", "strconv.ErrRange", "kingpost/root.primes", "kingpost/surd.signPlaces"], apart := false, laid := [("math/bits.deBruijn32tab", laid_math_bits_deBruijn32tab), ("math/bits.deBruijn64tab", laid_math_bits_deBruijn64tab), ("internal/strconv.uint64pow10", laid_internal_strconv_uint64pow10), ("unicode/utf8.acceptRanges", laid_unicode_utf8_acceptRanges), ("strconv.ErrRange", laid_strconv_ErrRange), ("strconv.ErrSyntax", laid_strconv_ErrSyntax), ("kingpost/root.primes", laid_kingpost_root_primes), ("kingpost/surd.signPlaces", laid_kingpost_surd_signPlaces), ("unicode/utf8.first", laid_unicode_utf8_first)] }
def SurdMultipliesSaid : Prop := surdMultipliesRow.holds Tryz.pinned (OpenSpec.ofChange surdMultipliesSpec)

/-- ITS FALSE NEIGHBOUR: 'it returns false'. Refute it at one input. -/
def surdMultipliesWrong : ChangeSpec := { name := "surdMultiplies", fn := fun _ => fun
  | [d1, d2, d3] => { results := [.lit (.bool false)], args := [d1, d2, d3] }
  | _ => none }
def SurdMultipliesWrongFalsely : Prop := surdMultipliesRow.holds Tryz.pinned (OpenSpec.ofChange surdMultipliesWrong)

/-- 'kingpostlaw04.SurdSigns': WHATEVER THE INPUT: true; the input reads as it did. -/
def surdSignsSpec : ChangeSpec := { name := "surdSigns", fn := fun _ => fun
  | [d1, d2] => { results := [.lit (.bool true)], args := [d1, d2] }
  | _ => none }
def surdSignsRow : OpenClaim := { program := "ythbpnknhfokadaagreatdoor", sum := "c2152e83cf1cb41f5a4f44a34568600c1bd60d0cd7e2b28b427131aa597d4251", func := "kingpost/kingpostlaw04.SurdSigns", spec := "surdSigns", inPlace := ["internal/bytealg.IndexByteString", "internal/bytealg.IndexString", "internal/abi.NoEscape", "internal/bytealg.MakeNoZero"], unfollowed := true, recurses := true, named := ["internal/strconv.uint64pow10", "math/bits.deBruijn32tab", "math/bits.deBruijn64tab", "internal/bytealg.MaxLen", "unicode/utf8.first", "unicode/utf8.acceptRanges", "strconv.ErrSyntax", "strconv.ErrRange", "kingpost/root.primes", "kingpost/surd.signPlaces"], apart := false, laid := [("math/bits.deBruijn32tab", laid_math_bits_deBruijn32tab), ("math/bits.deBruijn64tab", laid_math_bits_deBruijn64tab), ("internal/strconv.uint64pow10", laid_internal_strconv_uint64pow10), ("unicode/utf8.acceptRanges", laid_unicode_utf8_acceptRanges), ("strconv.ErrRange", laid_strconv_ErrRange), ("strconv.ErrSyntax", laid_strconv_ErrSyntax), ("kingpost/root.primes", laid_kingpost_root_primes), ("kingpost/surd.signPlaces", laid_kingpost_surd_signPlaces), ("unicode/utf8.first", laid_unicode_utf8_first)] }
def SurdSignsSaid : Prop := surdSignsRow.holds Tryz.pinned (OpenSpec.ofChange surdSignsSpec)

/-- ITS FALSE NEIGHBOUR: 'it returns false'. Refute it at one input. -/
def surdSignsWrong : ChangeSpec := { name := "surdSigns", fn := fun _ => fun
  | [d1, d2] => { results := [.lit (.bool false)], args := [d1, d2] }
  | _ => none }
def SurdSignsWrongFalsely : Prop := surdSignsRow.holds Tryz.pinned (OpenSpec.ofChange surdSignsWrong)

/-- 'kingpostlaw04.SurdRoots': WHATEVER THE INPUT: true; the input reads as it did. -/
def surdRootsSpec : ChangeSpec := { name := "surdRoots", fn := fun _ => fun
  | [d1, d2, d3, d4] => { results := [.lit (.bool true)], args := [d1, d2, d3, d4] }
  | _ => none }
def surdRootsRow : OpenClaim := { program := "ythbpnknhfokadaagreatdoor", sum := "c2152e83cf1cb41f5a4f44a34568600c1bd60d0cd7e2b28b427131aa597d4251", func := "kingpost/kingpostlaw04.SurdRoots", spec := "surdRoots", inPlace := ["internal/bytealg.IndexByteString", "internal/bytealg.IndexString", "internal/abi.NoEscape", "internal/bytealg.MakeNoZero"], unfollowed := true, recurses := true, named := ["internal/strconv.uint64pow10", "math/bits.deBruijn32tab", "math/bits.deBruijn64tab", "internal/bytealg.MaxLen", "unicode/utf8.first", "unicode/utf8.acceptRanges", "strconv.ErrSyntax", "strconv.ErrRange", "kingpost/root.primes", "kingpost/surd.signPlaces"], apart := false, laid := [("math/bits.deBruijn32tab", laid_math_bits_deBruijn32tab), ("math/bits.deBruijn64tab", laid_math_bits_deBruijn64tab), ("internal/strconv.uint64pow10", laid_internal_strconv_uint64pow10), ("unicode/utf8.acceptRanges", laid_unicode_utf8_acceptRanges), ("strconv.ErrRange", laid_strconv_ErrRange), ("strconv.ErrSyntax", laid_strconv_ErrSyntax), ("kingpost/root.primes", laid_kingpost_root_primes), ("kingpost/surd.signPlaces", laid_kingpost_surd_signPlaces), ("unicode/utf8.first", laid_unicode_utf8_first)] }
def SurdRootsSaid : Prop := surdRootsRow.holds Tryz.pinned (OpenSpec.ofChange surdRootsSpec)

/-- ITS FALSE NEIGHBOUR: 'it returns false'. Refute it at one input. -/
def surdRootsWrong : ChangeSpec := { name := "surdRoots", fn := fun _ => fun
  | [d1, d2, d3, d4] => { results := [.lit (.bool false)], args := [d1, d2, d3, d4] }
  | _ => none }
def SurdRootsWrongFalsely : Prop := surdRootsRow.holds Tryz.pinned (OpenSpec.ofChange surdRootsWrong)

/-- 'kingpostlaw04.SurdValues': WHATEVER THE INPUT: true; the input reads as it did. -/
def surdValuesSpec : ChangeSpec := { name := "surdValues", fn := fun _ => fun
  | [d] => { results := [.lit (.bool true)], args := [d] }
  | _ => none }
def surdValuesRow : OpenClaim := { program := "ythbpnknhfokadaagreatdoor", sum := "c2152e83cf1cb41f5a4f44a34568600c1bd60d0cd7e2b28b427131aa597d4251", func := "kingpost/kingpostlaw04.SurdValues", spec := "surdValues", inPlace := ["internal/bytealg.IndexByteString", "internal/bytealg.IndexString", "internal/abi.NoEscape", "internal/bytealg.MakeNoZero"], unfollowed := true, recurses := true, named := ["internal/strconv.uint64pow10", "math/bits.deBruijn32tab", "math/bits.deBruijn64tab", "internal/bytealg.MaxLen", "unicode/utf8.first", "unicode/utf8.acceptRanges", "strconv.ErrSyntax", "strconv.ErrRange", "kingpost/root.primes", "kingpost/surd.signPlaces"], apart := false, laid := [("math/bits.deBruijn32tab", laid_math_bits_deBruijn32tab), ("math/bits.deBruijn64tab", laid_math_bits_deBruijn64tab), ("internal/strconv.uint64pow10", laid_internal_strconv_uint64pow10), ("unicode/utf8.acceptRanges", laid_unicode_utf8_acceptRanges), ("strconv.ErrRange", laid_strconv_ErrRange), ("strconv.ErrSyntax", laid_strconv_ErrSyntax), ("kingpost/root.primes", laid_kingpost_root_primes), ("kingpost/surd.signPlaces", laid_kingpost_surd_signPlaces), ("unicode/utf8.first", laid_unicode_utf8_first)] }
def SurdValuesSaid : Prop := surdValuesRow.holds Tryz.pinned (OpenSpec.ofChange surdValuesSpec)

/-- ITS FALSE NEIGHBOUR: 'it returns false'. Refute it at one input. -/
def surdValuesWrong : ChangeSpec := { name := "surdValues", fn := fun _ => fun
  | [d] => { results := [.lit (.bool false)], args := [d] }
  | _ => none }
def SurdValuesWrongFalsely : Prop := surdValuesRow.holds Tryz.pinned (OpenSpec.ofChange surdValuesWrong)

/-- 'kingpostlaw04.SurdConjugates': WHATEVER THE INPUT: true; the input reads as it did. -/
def surdConjugatesSpec : ChangeSpec := { name := "surdConjugates", fn := fun _ => fun
  | [d1, d2, d3] => { results := [.lit (.bool true)], args := [d1, d2, d3] }
  | _ => none }
def surdConjugatesRow : OpenClaim := { program := "ythbpnknhfokadaagreatdoor", sum := "c2152e83cf1cb41f5a4f44a34568600c1bd60d0cd7e2b28b427131aa597d4251", func := "kingpost/kingpostlaw04.SurdConjugates", spec := "surdConjugates", inPlace := ["internal/bytealg.IndexByteString", "internal/bytealg.IndexString", "internal/abi.NoEscape", "internal/bytealg.MakeNoZero"], unfollowed := true, recurses := true, named := ["internal/strconv.uint64pow10", "math/bits.deBruijn32tab", "math/bits.deBruijn64tab", "internal/bytealg.MaxLen", "unicode/utf8.first", "unicode/utf8.acceptRanges", "strconv.ErrSyntax", "strconv.ErrRange", "kingpost/root.primes", "kingpost/surd.signPlaces"], apart := false, laid := [("math/bits.deBruijn32tab", laid_math_bits_deBruijn32tab), ("math/bits.deBruijn64tab", laid_math_bits_deBruijn64tab), ("internal/strconv.uint64pow10", laid_internal_strconv_uint64pow10), ("unicode/utf8.acceptRanges", laid_unicode_utf8_acceptRanges), ("strconv.ErrRange", laid_strconv_ErrRange), ("strconv.ErrSyntax", laid_strconv_ErrSyntax), ("kingpost/root.primes", laid_kingpost_root_primes), ("kingpost/surd.signPlaces", laid_kingpost_surd_signPlaces), ("unicode/utf8.first", laid_unicode_utf8_first)] }
def SurdConjugatesSaid : Prop := surdConjugatesRow.holds Tryz.pinned (OpenSpec.ofChange surdConjugatesSpec)

/-- ITS FALSE NEIGHBOUR: 'it returns false'. Refute it at one input. -/
def surdConjugatesWrong : ChangeSpec := { name := "surdConjugates", fn := fun _ => fun
  | [d1, d2, d3] => { results := [.lit (.bool false)], args := [d1, d2, d3] }
  | _ => none }
def SurdConjugatesWrongFalsely : Prop := surdConjugatesRow.holds Tryz.pinned (OpenSpec.ofChange surdConjugatesWrong)

/-- 'kingpostlaw08.SlopeFlatter': WHATEVER THE INPUT: true; the input reads as it did. -/
def slopeFlatterSpec : ChangeSpec := { name := "slopeFlatter", fn := fun _ => fun
  | [d1, d2, d3, d4] => { results := [.lit (.bool true)], args := [d1, d2, d3, d4] }
  | _ => none }
def slopeFlatterRow : OpenClaim := { program := "ythbpnknhfokadaagreatdoor", sum := "c2152e83cf1cb41f5a4f44a34568600c1bd60d0cd7e2b28b427131aa597d4251", func := "kingpost/kingpostlaw08.SlopeFlatter", spec := "slopeFlatter", inPlace := ["internal/bytealg.IndexByteString", "internal/bytealg.IndexString", "internal/abi.NoEscape", "internal/bytealg.MakeNoZero"], unfollowed := true, recurses := true, named := ["internal/strconv.uint64pow10", "math/bits.deBruijn32tab", "math/bits.deBruijn64tab", "unicode/utf8.first", "unicode/utf8.acceptRanges", "strconv.ErrSyntax", "strconv.ErrRange", "internal/bytealg.MaxLen", "kingpost/root.primes", "kingpost/surd.signPlaces"], apart := false, laid := [("math/bits.deBruijn32tab", laid_math_bits_deBruijn32tab), ("math/bits.deBruijn64tab", laid_math_bits_deBruijn64tab), ("internal/strconv.uint64pow10", laid_internal_strconv_uint64pow10), ("unicode/utf8.acceptRanges", laid_unicode_utf8_acceptRanges), ("strconv.ErrRange", laid_strconv_ErrRange), ("strconv.ErrSyntax", laid_strconv_ErrSyntax), ("kingpost/root.primes", laid_kingpost_root_primes), ("kingpost/surd.signPlaces", laid_kingpost_surd_signPlaces), ("unicode/utf8.first", laid_unicode_utf8_first)] }
def SlopeFlatterSaid : Prop := slopeFlatterRow.holds Tryz.pinned (OpenSpec.ofChange slopeFlatterSpec)

/-- ITS FALSE NEIGHBOUR: 'it returns false'. Refute it at one input. -/
def slopeFlatterWrong : ChangeSpec := { name := "slopeFlatter", fn := fun _ => fun
  | [d1, d2, d3, d4] => { results := [.lit (.bool false)], args := [d1, d2, d3, d4] }
  | _ => none }
def SlopeFlatterWrongFalsely : Prop := slopeFlatterRow.holds Tryz.pinned (OpenSpec.ofChange slopeFlatterWrong)

/-- 'kingpostlaw08.SlopeFactors': WHATEVER THE INPUT: true; the input reads as it did. -/
def slopeFactorsSpec : ChangeSpec := { name := "slopeFactors", fn := fun _ => fun
  | [d1, d2, d3, d4] => { results := [.lit (.bool true)], args := [d1, d2, d3, d4] }
  | _ => none }
def slopeFactorsRow : OpenClaim := { program := "ythbpnknhfokadaagreatdoor", sum := "c2152e83cf1cb41f5a4f44a34568600c1bd60d0cd7e2b28b427131aa597d4251", func := "kingpost/kingpostlaw08.SlopeFactors", spec := "slopeFactors", inPlace := ["internal/bytealg.IndexByteString", "internal/bytealg.IndexString", "internal/abi.NoEscape", "internal/bytealg.MakeNoZero"], unfollowed := true, recurses := true, named := ["internal/strconv.uint64pow10", "math/bits.deBruijn32tab", "math/bits.deBruijn64tab", "unicode/utf8.first", "unicode/utf8.acceptRanges", "strconv.ErrSyntax", "strconv.ErrRange", "internal/bytealg.MaxLen", "kingpost/root.primes", "kingpost/surd.signPlaces"], apart := false, laid := [("math/bits.deBruijn32tab", laid_math_bits_deBruijn32tab), ("math/bits.deBruijn64tab", laid_math_bits_deBruijn64tab), ("internal/strconv.uint64pow10", laid_internal_strconv_uint64pow10), ("unicode/utf8.acceptRanges", laid_unicode_utf8_acceptRanges), ("strconv.ErrRange", laid_strconv_ErrRange), ("strconv.ErrSyntax", laid_strconv_ErrSyntax), ("kingpost/root.primes", laid_kingpost_root_primes), ("kingpost/surd.signPlaces", laid_kingpost_surd_signPlaces), ("unicode/utf8.first", laid_unicode_utf8_first)] }
def SlopeFactorsSaid : Prop := slopeFactorsRow.holds Tryz.pinned (OpenSpec.ofChange slopeFactorsSpec)

/-- ITS FALSE NEIGHBOUR: 'it returns false'. Refute it at one input. -/
def slopeFactorsWrong : ChangeSpec := { name := "slopeFactors", fn := fun _ => fun
  | [d1, d2, d3, d4] => { results := [.lit (.bool false)], args := [d1, d2, d3, d4] }
  | _ => none }
def SlopeFactorsWrongFalsely : Prop := slopeFactorsRow.holds Tryz.pinned (OpenSpec.ofChange slopeFactorsWrong)

/- THE SECOND FORM. 'bulk': how many values and letters a reading holds, each counted each time it is reached (what is shared counts as often as it is met; a slice's spare places count too). A statement '..UptoSaid' is the law's where the arguments, and the package variables that the reading takes, are together of bulk at most 1048576: NARROWER than '..Said'. Prove '..Said' where nothing that the law and all that it calls make is longer than what came in: it says more and counts as full. Else prove '..UptoSaid'. A law counts once. -/
mutual
def uptoBulk {H : Type} : DataW H → Nat
  | .lit (.string bytes) => bytes.length + 1
  | .lit _ => 1
  | .nil => 1
  | .ptr d => uptoBulk d + 1
  | .slice elems spare => uptoBulkAll elems + uptoBulkAll spare + 1
  | .agg parts => uptoBulkAll parts + 1
  | .iface _ d => uptoBulk d + 1
  | .map entries => uptoBulkEntries entries + 1
  | .held _ => 1
def uptoBulkAll {H : Type} : List (DataW H) → Nat
  | [] => 0
  | d :: r => uptoBulk d + uptoBulkAll r
def uptoBulkEntries {H : Type} : List (Lit × DataW H) → Nat
  | [] => 0
  | x :: r => uptoBulkEntry x + uptoBulkEntries r
def uptoBulkEntry {H : Type} : Lit × DataW H → Nat
  | (.string bytes, d) => bytes.length + uptoBulk d + 1
  | (_, d) => uptoBulk d + 1
 end
def uptoSmall : (H : Type) → List (DataW H) → Bool := fun _ ds => decide (uptoBulkAll ds ≤ 1048576)
def OpenSpec.upto (s : _root_.Go.ChangeSpec) : _root_.Go.OpenSpec := { _root_.Go.OpenSpec.ofChange s with cond := some uptoSmall }

/-- 'kingpostlaw04.SurdAdds', WHERE WHAT IT READS IS OF BULK AT MOST 1048576: true; the input reads as it did. -/
def surdAddsUptoRow : OpenClaim := { program := "ythbpnknhfokadaagreatdoor", sum := "c2152e83cf1cb41f5a4f44a34568600c1bd60d0cd7e2b28b427131aa597d4251", func := "kingpost/kingpostlaw04.SurdAdds", spec := "surdAdds", inPlace := ["internal/bytealg.IndexByteString", "internal/bytealg.IndexString", "internal/abi.NoEscape", "internal/bytealg.MakeNoZero"], unfollowed := true, recurses := true, named := ["internal/strconv.uint64pow10", "math/bits.deBruijn32tab", "math/bits.deBruijn64tab", "internal/bytealg.MaxLen", "unicode/utf8.first", "unicode/utf8.acceptRanges", "strconv.ErrSyntax", "strconv.ErrRange", "kingpost/root.primes", "kingpost/surd.signPlaces"], apart := false, laid := [("math/bits.deBruijn32tab", laid_math_bits_deBruijn32tab), ("math/bits.deBruijn64tab", laid_math_bits_deBruijn64tab), ("internal/strconv.uint64pow10", laid_internal_strconv_uint64pow10), ("unicode/utf8.acceptRanges", laid_unicode_utf8_acceptRanges), ("strconv.ErrRange", laid_strconv_ErrRange), ("strconv.ErrSyntax", laid_strconv_ErrSyntax), ("kingpost/root.primes", laid_kingpost_root_primes), ("kingpost/surd.signPlaces", laid_kingpost_surd_signPlaces), ("unicode/utf8.first", laid_unicode_utf8_first)], narrowed := true }
def SurdAddsUptoSaid : Prop := surdAddsUptoRow.holds Tryz.pinned (OpenSpec.upto surdAddsSpec)

/-- 'kingpostlaw04.SurdMultiplies', WHERE WHAT IT READS IS OF BULK AT MOST 1048576: true; the input reads as it did. -/
def surdMultipliesUptoRow : OpenClaim := { program := "ythbpnknhfokadaagreatdoor", sum := "c2152e83cf1cb41f5a4f44a34568600c1bd60d0cd7e2b28b427131aa597d4251", func := "kingpost/kingpostlaw04.SurdMultiplies", spec := "surdMultiplies", inPlace := ["internal/bytealg.IndexByteString", "internal/bytealg.IndexString", "internal/abi.NoEscape", "internal/bytealg.MakeNoZero"], unfollowed := true, recurses := true, named := ["internal/strconv.uint64pow10", "math/bits.deBruijn32tab", "math/bits.deBruijn64tab", "internal/bytealg.MaxLen", "unicode/utf8.first", "unicode/utf8.acceptRanges", "strconv.ErrSyntax", "strconv.ErrRange", "kingpost/root.primes", "kingpost/surd.signPlaces"], apart := false, laid := [("math/bits.deBruijn32tab", laid_math_bits_deBruijn32tab), ("math/bits.deBruijn64tab", laid_math_bits_deBruijn64tab), ("internal/strconv.uint64pow10", laid_internal_strconv_uint64pow10), ("unicode/utf8.acceptRanges", laid_unicode_utf8_acceptRanges), ("strconv.ErrRange", laid_strconv_ErrRange), ("strconv.ErrSyntax", laid_strconv_ErrSyntax), ("kingpost/root.primes", laid_kingpost_root_primes), ("kingpost/surd.signPlaces", laid_kingpost_surd_signPlaces), ("unicode/utf8.first", laid_unicode_utf8_first)], narrowed := true }
def SurdMultipliesUptoSaid : Prop := surdMultipliesUptoRow.holds Tryz.pinned (OpenSpec.upto surdMultipliesSpec)

/-- 'kingpostlaw04.SurdSigns', WHERE WHAT IT READS IS OF BULK AT MOST 1048576: true; the input reads as it did. -/
def surdSignsUptoRow : OpenClaim := { program := "ythbpnknhfokadaagreatdoor", sum := "c2152e83cf1cb41f5a4f44a34568600c1bd60d0cd7e2b28b427131aa597d4251", func := "kingpost/kingpostlaw04.SurdSigns", spec := "surdSigns", inPlace := ["internal/bytealg.IndexByteString", "internal/bytealg.IndexString", "internal/abi.NoEscape", "internal/bytealg.MakeNoZero"], unfollowed := true, recurses := true, named := ["internal/strconv.uint64pow10", "math/bits.deBruijn32tab", "math/bits.deBruijn64tab", "internal/bytealg.MaxLen", "unicode/utf8.first", "unicode/utf8.acceptRanges", "strconv.ErrSyntax", "strconv.ErrRange", "kingpost/root.primes", "kingpost/surd.signPlaces"], apart := false, laid := [("math/bits.deBruijn32tab", laid_math_bits_deBruijn32tab), ("math/bits.deBruijn64tab", laid_math_bits_deBruijn64tab), ("internal/strconv.uint64pow10", laid_internal_strconv_uint64pow10), ("unicode/utf8.acceptRanges", laid_unicode_utf8_acceptRanges), ("strconv.ErrRange", laid_strconv_ErrRange), ("strconv.ErrSyntax", laid_strconv_ErrSyntax), ("kingpost/root.primes", laid_kingpost_root_primes), ("kingpost/surd.signPlaces", laid_kingpost_surd_signPlaces), ("unicode/utf8.first", laid_unicode_utf8_first)], narrowed := true }
def SurdSignsUptoSaid : Prop := surdSignsUptoRow.holds Tryz.pinned (OpenSpec.upto surdSignsSpec)

/-- 'kingpostlaw04.SurdRoots', WHERE WHAT IT READS IS OF BULK AT MOST 1048576: true; the input reads as it did. -/
def surdRootsUptoRow : OpenClaim := { program := "ythbpnknhfokadaagreatdoor", sum := "c2152e83cf1cb41f5a4f44a34568600c1bd60d0cd7e2b28b427131aa597d4251", func := "kingpost/kingpostlaw04.SurdRoots", spec := "surdRoots", inPlace := ["internal/bytealg.IndexByteString", "internal/bytealg.IndexString", "internal/abi.NoEscape", "internal/bytealg.MakeNoZero"], unfollowed := true, recurses := true, named := ["internal/strconv.uint64pow10", "math/bits.deBruijn32tab", "math/bits.deBruijn64tab", "internal/bytealg.MaxLen", "unicode/utf8.first", "unicode/utf8.acceptRanges", "strconv.ErrSyntax", "strconv.ErrRange", "kingpost/root.primes", "kingpost/surd.signPlaces"], apart := false, laid := [("math/bits.deBruijn32tab", laid_math_bits_deBruijn32tab), ("math/bits.deBruijn64tab", laid_math_bits_deBruijn64tab), ("internal/strconv.uint64pow10", laid_internal_strconv_uint64pow10), ("unicode/utf8.acceptRanges", laid_unicode_utf8_acceptRanges), ("strconv.ErrRange", laid_strconv_ErrRange), ("strconv.ErrSyntax", laid_strconv_ErrSyntax), ("kingpost/root.primes", laid_kingpost_root_primes), ("kingpost/surd.signPlaces", laid_kingpost_surd_signPlaces), ("unicode/utf8.first", laid_unicode_utf8_first)], narrowed := true }
def SurdRootsUptoSaid : Prop := surdRootsUptoRow.holds Tryz.pinned (OpenSpec.upto surdRootsSpec)

/-- 'kingpostlaw04.SurdValues', WHERE WHAT IT READS IS OF BULK AT MOST 1048576: true; the input reads as it did. -/
def surdValuesUptoRow : OpenClaim := { program := "ythbpnknhfokadaagreatdoor", sum := "c2152e83cf1cb41f5a4f44a34568600c1bd60d0cd7e2b28b427131aa597d4251", func := "kingpost/kingpostlaw04.SurdValues", spec := "surdValues", inPlace := ["internal/bytealg.IndexByteString", "internal/bytealg.IndexString", "internal/abi.NoEscape", "internal/bytealg.MakeNoZero"], unfollowed := true, recurses := true, named := ["internal/strconv.uint64pow10", "math/bits.deBruijn32tab", "math/bits.deBruijn64tab", "internal/bytealg.MaxLen", "unicode/utf8.first", "unicode/utf8.acceptRanges", "strconv.ErrSyntax", "strconv.ErrRange", "kingpost/root.primes", "kingpost/surd.signPlaces"], apart := false, laid := [("math/bits.deBruijn32tab", laid_math_bits_deBruijn32tab), ("math/bits.deBruijn64tab", laid_math_bits_deBruijn64tab), ("internal/strconv.uint64pow10", laid_internal_strconv_uint64pow10), ("unicode/utf8.acceptRanges", laid_unicode_utf8_acceptRanges), ("strconv.ErrRange", laid_strconv_ErrRange), ("strconv.ErrSyntax", laid_strconv_ErrSyntax), ("kingpost/root.primes", laid_kingpost_root_primes), ("kingpost/surd.signPlaces", laid_kingpost_surd_signPlaces), ("unicode/utf8.first", laid_unicode_utf8_first)], narrowed := true }
def SurdValuesUptoSaid : Prop := surdValuesUptoRow.holds Tryz.pinned (OpenSpec.upto surdValuesSpec)

/-- 'kingpostlaw04.SurdConjugates', WHERE WHAT IT READS IS OF BULK AT MOST 1048576: true; the input reads as it did. -/
def surdConjugatesUptoRow : OpenClaim := { program := "ythbpnknhfokadaagreatdoor", sum := "c2152e83cf1cb41f5a4f44a34568600c1bd60d0cd7e2b28b427131aa597d4251", func := "kingpost/kingpostlaw04.SurdConjugates", spec := "surdConjugates", inPlace := ["internal/bytealg.IndexByteString", "internal/bytealg.IndexString", "internal/abi.NoEscape", "internal/bytealg.MakeNoZero"], unfollowed := true, recurses := true, named := ["internal/strconv.uint64pow10", "math/bits.deBruijn32tab", "math/bits.deBruijn64tab", "internal/bytealg.MaxLen", "unicode/utf8.first", "unicode/utf8.acceptRanges", "strconv.ErrSyntax", "strconv.ErrRange", "kingpost/root.primes", "kingpost/surd.signPlaces"], apart := false, laid := [("math/bits.deBruijn32tab", laid_math_bits_deBruijn32tab), ("math/bits.deBruijn64tab", laid_math_bits_deBruijn64tab), ("internal/strconv.uint64pow10", laid_internal_strconv_uint64pow10), ("unicode/utf8.acceptRanges", laid_unicode_utf8_acceptRanges), ("strconv.ErrRange", laid_strconv_ErrRange), ("strconv.ErrSyntax", laid_strconv_ErrSyntax), ("kingpost/root.primes", laid_kingpost_root_primes), ("kingpost/surd.signPlaces", laid_kingpost_surd_signPlaces), ("unicode/utf8.first", laid_unicode_utf8_first)], narrowed := true }
def SurdConjugatesUptoSaid : Prop := surdConjugatesUptoRow.holds Tryz.pinned (OpenSpec.upto surdConjugatesSpec)

/-- 'kingpostlaw08.SlopeFlatter', WHERE WHAT IT READS IS OF BULK AT MOST 1048576: true; the input reads as it did. -/
def slopeFlatterUptoRow : OpenClaim := { program := "ythbpnknhfokadaagreatdoor", sum := "c2152e83cf1cb41f5a4f44a34568600c1bd60d0cd7e2b28b427131aa597d4251", func := "kingpost/kingpostlaw08.SlopeFlatter", spec := "slopeFlatter", inPlace := ["internal/bytealg.IndexByteString", "internal/bytealg.IndexString", "internal/abi.NoEscape", "internal/bytealg.MakeNoZero"], unfollowed := true, recurses := true, named := ["internal/strconv.uint64pow10", "math/bits.deBruijn32tab", "math/bits.deBruijn64tab", "unicode/utf8.first", "unicode/utf8.acceptRanges", "strconv.ErrSyntax", "strconv.ErrRange", "internal/bytealg.MaxLen", "kingpost/root.primes", "kingpost/surd.signPlaces"], apart := false, laid := [("math/bits.deBruijn32tab", laid_math_bits_deBruijn32tab), ("math/bits.deBruijn64tab", laid_math_bits_deBruijn64tab), ("internal/strconv.uint64pow10", laid_internal_strconv_uint64pow10), ("unicode/utf8.acceptRanges", laid_unicode_utf8_acceptRanges), ("strconv.ErrRange", laid_strconv_ErrRange), ("strconv.ErrSyntax", laid_strconv_ErrSyntax), ("kingpost/root.primes", laid_kingpost_root_primes), ("kingpost/surd.signPlaces", laid_kingpost_surd_signPlaces), ("unicode/utf8.first", laid_unicode_utf8_first)], narrowed := true }
def SlopeFlatterUptoSaid : Prop := slopeFlatterUptoRow.holds Tryz.pinned (OpenSpec.upto slopeFlatterSpec)

/-- 'kingpostlaw08.SlopeFactors', WHERE WHAT IT READS IS OF BULK AT MOST 1048576: true; the input reads as it did. -/
def slopeFactorsUptoRow : OpenClaim := { program := "ythbpnknhfokadaagreatdoor", sum := "c2152e83cf1cb41f5a4f44a34568600c1bd60d0cd7e2b28b427131aa597d4251", func := "kingpost/kingpostlaw08.SlopeFactors", spec := "slopeFactors", inPlace := ["internal/bytealg.IndexByteString", "internal/bytealg.IndexString", "internal/abi.NoEscape", "internal/bytealg.MakeNoZero"], unfollowed := true, recurses := true, named := ["internal/strconv.uint64pow10", "math/bits.deBruijn32tab", "math/bits.deBruijn64tab", "unicode/utf8.first", "unicode/utf8.acceptRanges", "strconv.ErrSyntax", "strconv.ErrRange", "internal/bytealg.MaxLen", "kingpost/root.primes", "kingpost/surd.signPlaces"], apart := false, laid := [("math/bits.deBruijn32tab", laid_math_bits_deBruijn32tab), ("math/bits.deBruijn64tab", laid_math_bits_deBruijn64tab), ("internal/strconv.uint64pow10", laid_internal_strconv_uint64pow10), ("unicode/utf8.acceptRanges", laid_unicode_utf8_acceptRanges), ("strconv.ErrRange", laid_strconv_ErrRange), ("strconv.ErrSyntax", laid_strconv_ErrSyntax), ("kingpost/root.primes", laid_kingpost_root_primes), ("kingpost/surd.signPlaces", laid_kingpost_surd_signPlaces), ("unicode/utf8.first", laid_unicode_utf8_first)], narrowed := true }
def SlopeFactorsUptoSaid : Prop := slopeFactorsUptoRow.holds Tryz.pinned (OpenSpec.upto slopeFactorsSpec)

end Rows
end Go.Proofs.YthbpnknhfokadaaGreatDoor
