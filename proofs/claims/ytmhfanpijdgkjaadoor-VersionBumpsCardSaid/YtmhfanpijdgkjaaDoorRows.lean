/-
  NARROWER THAN 'FOR EVERY INPUT', by the rows' own cells (each row's printed sentence says how): HistoryHeads: laid · HistoryDiffs: laid · HistoryFinds: laid · HistoryCollides: laid · VersionOrders: laid · VersionShows: laid · VersionParses: laid · VersionFits: laid · VersionChains: laid · VersionBumps: laid.
  DERIVED. THE GIVEN ROWS OF THIS SEAT. 10 by the template 'for every input the law returns true; each argument reads behind the call as it read before'; 0 by the template 'total and deterministic' (their statements: YtmhfanpijdgkjaaDoorTotals.lean).
  GIVEN WITH THE SEED: the statements are not yours to turn. If you find one false, say at which input.
  Laid BY PROGRAM, IN A SANDBOX (cutbox-rows.mjs): the forced cells as the released guide's own fill.sh prints them over the translation ec4bd88c746f54fc… (all of the seat's roots in one cut). By AI agents, Wed Nov 11 2026. No macro, syntax, notation, axiom, sorry.
-/
import Derived.Test.YtmhfanpijdgkjaaDoorChecked
import GoSem.PinnedTables
import GoSem.Claim
import GoSem.ClaimJoined
import GoSem.ClaimMapViews
import Derived.JoinedTies
import Derived.KernelRfl
namespace Go.Proofs.YtmhfanpijdgkjaaDoor
/- THE CELL 'sum', in the pinned program and in every row, IS THE sha256 OF THE DUMP (.gsa) THAT YtmhfanpijdgkjaaDoorProg.lean LOADS. Nothing in Lean hashes anything: it is a label: what it is worth is what the hold of that sum in a sandbox is worth. -/
noncomputable def Tryd.pinned : Pinned := { name := "ytmhfanpijdgkjaadoor", sum := "ec4bd88c746f54fc3addce83b85c33a56f6fa50e67c9c725b74dbe07b52705ca", checked := Tryd.checked }
namespace Rows
def none {H : Type} : Left H := { results := [], args := [] }

/- WHAT THE LISTED PACKAGE-LEVEL VARIABLES READ AS WHEN THE CALL BEGINS. Each datum BY PROGRAM (the guide's laid-datum.mjs) off the statement by which the dump's own 'gosem.cut.vars' lays the variable. In a bare row this is a premise. The card (YtmhfanpijdgkjaaDoorCards.lean) ties it to the program's text. -/
def laid_math_bits_deBruijn32tab {H : Type} : DataW H := .agg [.lit (.int .u8 0), .lit (.int .u8 1), .lit (.int .u8 28), .lit (.int .u8 2), .lit (.int .u8 29), .lit (.int .u8 14), .lit (.int .u8 24), .lit (.int .u8 3), .lit (.int .u8 30), .lit (.int .u8 22), .lit (.int .u8 20), .lit (.int .u8 15), .lit (.int .u8 25), .lit (.int .u8 17), .lit (.int .u8 4), .lit (.int .u8 8), .lit (.int .u8 31), .lit (.int .u8 27), .lit (.int .u8 13), .lit (.int .u8 23), .lit (.int .u8 21), .lit (.int .u8 19), .lit (.int .u8 16), .lit (.int .u8 7), .lit (.int .u8 26), .lit (.int .u8 12), .lit (.int .u8 18), .lit (.int .u8 6), .lit (.int .u8 11), .lit (.int .u8 5), .lit (.int .u8 10), .lit (.int .u8 9)]
def laid_math_bits_deBruijn64tab {H : Type} : DataW H := .agg [.lit (.int .u8 0), .lit (.int .u8 1), .lit (.int .u8 56), .lit (.int .u8 2), .lit (.int .u8 57), .lit (.int .u8 49), .lit (.int .u8 28), .lit (.int .u8 3), .lit (.int .u8 61), .lit (.int .u8 58), .lit (.int .u8 42), .lit (.int .u8 50), .lit (.int .u8 38), .lit (.int .u8 29), .lit (.int .u8 17), .lit (.int .u8 4), .lit (.int .u8 62), .lit (.int .u8 47), .lit (.int .u8 59), .lit (.int .u8 36), .lit (.int .u8 45), .lit (.int .u8 43), .lit (.int .u8 51), .lit (.int .u8 22), .lit (.int .u8 53), .lit (.int .u8 39), .lit (.int .u8 33), .lit (.int .u8 30), .lit (.int .u8 24), .lit (.int .u8 18), .lit (.int .u8 12), .lit (.int .u8 5), .lit (.int .u8 63), .lit (.int .u8 55), .lit (.int .u8 48), .lit (.int .u8 27), .lit (.int .u8 60), .lit (.int .u8 41), .lit (.int .u8 37), .lit (.int .u8 16), .lit (.int .u8 46), .lit (.int .u8 35), .lit (.int .u8 44), .lit (.int .u8 21), .lit (.int .u8 52), .lit (.int .u8 32), .lit (.int .u8 23), .lit (.int .u8 11), .lit (.int .u8 54), .lit (.int .u8 26), .lit (.int .u8 40), .lit (.int .u8 15), .lit (.int .u8 34), .lit (.int .u8 20), .lit (.int .u8 31), .lit (.int .u8 10), .lit (.int .u8 25), .lit (.int .u8 14), .lit (.int .u8 19), .lit (.int .u8 9), .lit (.int .u8 13), .lit (.int .u8 8), .lit (.int .u8 7), .lit (.int .u8 6)]
def laid_internal_strconv_uint64pow10 {H : Type} : DataW H := .agg [.lit (.int .u64 1), .lit (.int .u64 10), .lit (.int .u64 100), .lit (.int .u64 1000), .lit (.int .u64 10000), .lit (.int .u64 100000), .lit (.int .u64 1000000), .lit (.int .u64 10000000), .lit (.int .u64 100000000), .lit (.int .u64 1000000000), .lit (.int .u64 10000000000), .lit (.int .u64 100000000000), .lit (.int .u64 1000000000000), .lit (.int .u64 10000000000000), .lit (.int .u64 100000000000000), .lit (.int .u64 1000000000000000), .lit (.int .u64 10000000000000000), .lit (.int .u64 100000000000000000), .lit (.int .u64 1000000000000000000), .lit (.int .u64 10000000000000000000)]
def laid_unicode_utf8_acceptRanges {H : Type} : DataW H := .agg [.agg [.lit (.int .u8 128), .lit (.int .u8 191)], .agg [.lit (.int .u8 160), .lit (.int .u8 191)], .agg [.lit (.int .u8 128), .lit (.int .u8 159)], .agg [.lit (.int .u8 144), .lit (.int .u8 191)], .agg [.lit (.int .u8 128), .lit (.int .u8 143)], .agg [.lit (.int .u8 0), .lit (.int .u8 0)], .agg [.lit (.int .u8 0), .lit (.int .u8 0)], .agg [.lit (.int .u8 0), .lit (.int .u8 0)], .agg [.lit (.int .u8 0), .lit (.int .u8 0)], .agg [.lit (.int .u8 0), .lit (.int .u8 0)], .agg [.lit (.int .u8 0), .lit (.int .u8 0)], .agg [.lit (.int .u8 0), .lit (.int .u8 0)], .agg [.lit (.int .u8 0), .lit (.int .u8 0)], .agg [.lit (.int .u8 0), .lit (.int .u8 0)], .agg [.lit (.int .u8 0), .lit (.int .u8 0)], .agg [.lit (.int .u8 0), .lit (.int .u8 0)]]
def laid_syngraph_sha_begin {H : Type} : DataW H := .agg [.lit (.int .u32 1779033703), .lit (.int .u32 3144134277), .lit (.int .u32 1013904242), .lit (.int .u32 2773480762), .lit (.int .u32 1359893119), .lit (.int .u32 2600822924), .lit (.int .u32 528734635), .lit (.int .u32 1541459225)]
def laid_syngraph_sha_table {H : Type} : DataW H := .agg [.lit (.int .u32 1116352408), .lit (.int .u32 1899447441), .lit (.int .u32 3049323471), .lit (.int .u32 3921009573), .lit (.int .u32 961987163), .lit (.int .u32 1508970993), .lit (.int .u32 2453635748), .lit (.int .u32 2870763221), .lit (.int .u32 3624381080), .lit (.int .u32 310598401), .lit (.int .u32 607225278), .lit (.int .u32 1426881987), .lit (.int .u32 1925078388), .lit (.int .u32 2162078206), .lit (.int .u32 2614888103), .lit (.int .u32 3248222580), .lit (.int .u32 3835390401), .lit (.int .u32 4022224774), .lit (.int .u32 264347078), .lit (.int .u32 604807628), .lit (.int .u32 770255983), .lit (.int .u32 1249150122), .lit (.int .u32 1555081692), .lit (.int .u32 1996064986), .lit (.int .u32 2554220882), .lit (.int .u32 2821834349), .lit (.int .u32 2952996808), .lit (.int .u32 3210313671), .lit (.int .u32 3336571891), .lit (.int .u32 3584528711), .lit (.int .u32 113926993), .lit (.int .u32 338241895), .lit (.int .u32 666307205), .lit (.int .u32 773529912), .lit (.int .u32 1294757372), .lit (.int .u32 1396182291), .lit (.int .u32 1695183700), .lit (.int .u32 1986661051), .lit (.int .u32 2177026350), .lit (.int .u32 2456956037), .lit (.int .u32 2730485921), .lit (.int .u32 2820302411), .lit (.int .u32 3259730800), .lit (.int .u32 3345764771), .lit (.int .u32 3516065817), .lit (.int .u32 3600352804), .lit (.int .u32 4094571909), .lit (.int .u32 275423344), .lit (.int .u32 430227734), .lit (.int .u32 506948616), .lit (.int .u32 659060556), .lit (.int .u32 883997877), .lit (.int .u32 958139571), .lit (.int .u32 1322822218), .lit (.int .u32 1537002063), .lit (.int .u32 1747873779), .lit (.int .u32 1955562222), .lit (.int .u32 2024104815), .lit (.int .u32 2227730452), .lit (.int .u32 2361852424), .lit (.int .u32 2428436474), .lit (.int .u32 2756734187), .lit (.int .u32 3204031479), .lit (.int .u32 3329325298)]
/-- One of Go's own tables, pinned by name: the form's constant. -/
def laid_unicode_utf8_first : DataW Unit := Go.Pinned.utf8First
def laid_strconv_ErrRange {H : Type} : DataW H := .iface "*errors.errorString" (.ptr (.agg [.lit (.string [118, 97, 108, 117, 101, 32, 111, 117, 116, 32, 111, 102, 32, 114, 97, 110, 103, 101])]))
def laid_strconv_ErrSyntax {H : Type} : DataW H := .iface "*errors.errorString" (.ptr (.agg [.lit (.string [105, 110, 118, 97, 108, 105, 100, 32, 115, 121, 110, 116, 97, 120])]))
def laid_syngraph_version_ops {H : Type} : DataW H := .agg [.lit (.string [33, 61]), .lit (.string [60, 61]), .lit (.string [62, 61]), .lit (.string [61]), .lit (.string [60]), .lit (.string [62]), .lit (.string [94]), .lit (.string [42])]

/-- 'syngraphlaw22.HistoryHeads': WHATEVER THE INPUT: true; the input reads as it did. -/
def historyHeadsSpec : ChangeSpec := { name := "historyHeads", fn := fun _ => fun
  | [d] => { results := [.lit (.bool true)], args := [d] }
  | _ => none }
def historyHeadsRow : OpenClaim := { program := "ytmhfanpijdgkjaadoor", sum := "ec4bd88c746f54fc3addce83b85c33a56f6fa50e67c9c725b74dbe07b52705ca", func := "syngraph/syngraphlaw22.HistoryHeads", spec := "historyHeads", inPlace := ["internal/bytealg.IndexByteString", "internal/bytealg.IndexString", "internal/abi.NoEscape", "internal/bytealg.MakeNoZero"], named := ["unicode/utf8.first", "unicode/utf8.acceptRanges", "internal/strconv.uint64pow10", "math/bits.deBruijn32tab", "math/bits.deBruijn64tab", "syngraph/sha.begin", "syngraph/sha.table", "internal/bytealg.MaxLen"], apart := false, laid := [("math/bits.deBruijn32tab", laid_math_bits_deBruijn32tab), ("math/bits.deBruijn64tab", laid_math_bits_deBruijn64tab), ("internal/strconv.uint64pow10", laid_internal_strconv_uint64pow10), ("unicode/utf8.acceptRanges", laid_unicode_utf8_acceptRanges), ("syngraph/sha.begin", laid_syngraph_sha_begin), ("syngraph/sha.table", laid_syngraph_sha_table), ("unicode/utf8.first", laid_unicode_utf8_first)] }
def HistoryHeadsSaid : Prop := historyHeadsRow.holds Tryd.pinned (OpenSpec.ofChange historyHeadsSpec)

/-- ITS FALSE NEIGHBOUR: 'it returns false'. Refute it at one input. -/
def historyHeadsWrong : ChangeSpec := { name := "historyHeads", fn := fun _ => fun
  | [d] => { results := [.lit (.bool false)], args := [d] }
  | _ => none }
def HistoryHeadsWrongFalsely : Prop := historyHeadsRow.holds Tryd.pinned (OpenSpec.ofChange historyHeadsWrong)

/-- 'syngraphlaw22.HistoryDiffs': WHATEVER THE INPUT: true; the input reads as it did. -/
def historyDiffsSpec : ChangeSpec := { name := "historyDiffs", fn := fun _ => fun
  | [d1, d2] => { results := [.lit (.bool true)], args := [d1, d2] }
  | _ => none }
def historyDiffsRow : OpenClaim := { program := "ytmhfanpijdgkjaadoor", sum := "ec4bd88c746f54fc3addce83b85c33a56f6fa50e67c9c725b74dbe07b52705ca", func := "syngraph/syngraphlaw22.HistoryDiffs", spec := "historyDiffs", inPlace := ["internal/bytealg.IndexByteString", "internal/bytealg.IndexString", "internal/abi.NoEscape", "internal/bytealg.MakeNoZero"], named := ["unicode/utf8.first", "unicode/utf8.acceptRanges", "internal/strconv.uint64pow10", "math/bits.deBruijn32tab", "math/bits.deBruijn64tab", "syngraph/sha.begin", "syngraph/sha.table", "internal/bytealg.MaxLen"], apart := false, laid := [("math/bits.deBruijn32tab", laid_math_bits_deBruijn32tab), ("math/bits.deBruijn64tab", laid_math_bits_deBruijn64tab), ("internal/strconv.uint64pow10", laid_internal_strconv_uint64pow10), ("unicode/utf8.acceptRanges", laid_unicode_utf8_acceptRanges), ("syngraph/sha.begin", laid_syngraph_sha_begin), ("syngraph/sha.table", laid_syngraph_sha_table), ("unicode/utf8.first", laid_unicode_utf8_first)] }
def HistoryDiffsSaid : Prop := historyDiffsRow.holds Tryd.pinned (OpenSpec.ofChange historyDiffsSpec)

/-- ITS FALSE NEIGHBOUR: 'it returns false'. Refute it at one input. -/
def historyDiffsWrong : ChangeSpec := { name := "historyDiffs", fn := fun _ => fun
  | [d1, d2] => { results := [.lit (.bool false)], args := [d1, d2] }
  | _ => none }
def HistoryDiffsWrongFalsely : Prop := historyDiffsRow.holds Tryd.pinned (OpenSpec.ofChange historyDiffsWrong)

/-- 'syngraphlaw22.HistoryFinds': WHATEVER THE INPUT: true; the input reads as it did. -/
def historyFindsSpec : ChangeSpec := { name := "historyFinds", fn := fun _ => fun
  | [d1, d2] => { results := [.lit (.bool true)], args := [d1, d2] }
  | _ => none }
def historyFindsRow : OpenClaim := { program := "ytmhfanpijdgkjaadoor", sum := "ec4bd88c746f54fc3addce83b85c33a56f6fa50e67c9c725b74dbe07b52705ca", func := "syngraph/syngraphlaw22.HistoryFinds", spec := "historyFinds", inPlace := ["internal/bytealg.IndexByteString", "internal/bytealg.IndexString", "internal/abi.NoEscape", "internal/bytealg.MakeNoZero"], unfollowed := true, recurses := true, named := ["unicode/utf8.first", "unicode/utf8.acceptRanges", "internal/strconv.uint64pow10", "math/bits.deBruijn32tab", "math/bits.deBruijn64tab", "syngraph/sha.begin", "syngraph/sha.table", "internal/bytealg.MaxLen"], apart := false, laid := [("math/bits.deBruijn32tab", laid_math_bits_deBruijn32tab), ("math/bits.deBruijn64tab", laid_math_bits_deBruijn64tab), ("internal/strconv.uint64pow10", laid_internal_strconv_uint64pow10), ("unicode/utf8.acceptRanges", laid_unicode_utf8_acceptRanges), ("syngraph/sha.begin", laid_syngraph_sha_begin), ("syngraph/sha.table", laid_syngraph_sha_table), ("unicode/utf8.first", laid_unicode_utf8_first)] }
def HistoryFindsSaid : Prop := historyFindsRow.holds Tryd.pinned (OpenSpec.ofChange historyFindsSpec)

/-- ITS FALSE NEIGHBOUR: 'it returns false'. Refute it at one input. -/
def historyFindsWrong : ChangeSpec := { name := "historyFinds", fn := fun _ => fun
  | [d1, d2] => { results := [.lit (.bool false)], args := [d1, d2] }
  | _ => none }
def HistoryFindsWrongFalsely : Prop := historyFindsRow.holds Tryd.pinned (OpenSpec.ofChange historyFindsWrong)

/-- 'syngraphlaw22.HistoryCollides': WHATEVER THE INPUT: true; the input reads as it did. -/
def historyCollidesSpec : ChangeSpec := { name := "historyCollides", fn := fun _ => fun
  | [d1, d2] => { results := [.lit (.bool true)], args := [d1, d2] }
  | _ => none }
def historyCollidesRow : OpenClaim := { program := "ytmhfanpijdgkjaadoor", sum := "ec4bd88c746f54fc3addce83b85c33a56f6fa50e67c9c725b74dbe07b52705ca", func := "syngraph/syngraphlaw22.HistoryCollides", spec := "historyCollides", inPlace := ["internal/bytealg.IndexByteString", "internal/bytealg.IndexString", "internal/abi.NoEscape", "internal/bytealg.MakeNoZero"], unfollowed := true, recurses := true, named := ["unicode/utf8.first", "unicode/utf8.acceptRanges", "internal/strconv.uint64pow10", "math/bits.deBruijn32tab", "math/bits.deBruijn64tab", "syngraph/sha.begin", "syngraph/sha.table", "internal/bytealg.MaxLen"], apart := false, laid := [("math/bits.deBruijn32tab", laid_math_bits_deBruijn32tab), ("math/bits.deBruijn64tab", laid_math_bits_deBruijn64tab), ("internal/strconv.uint64pow10", laid_internal_strconv_uint64pow10), ("unicode/utf8.acceptRanges", laid_unicode_utf8_acceptRanges), ("syngraph/sha.begin", laid_syngraph_sha_begin), ("syngraph/sha.table", laid_syngraph_sha_table), ("unicode/utf8.first", laid_unicode_utf8_first)] }
def HistoryCollidesSaid : Prop := historyCollidesRow.holds Tryd.pinned (OpenSpec.ofChange historyCollidesSpec)

/-- ITS FALSE NEIGHBOUR: 'it returns false'. Refute it at one input. -/
def historyCollidesWrong : ChangeSpec := { name := "historyCollides", fn := fun _ => fun
  | [d1, d2] => { results := [.lit (.bool false)], args := [d1, d2] }
  | _ => none }
def HistoryCollidesWrongFalsely : Prop := historyCollidesRow.holds Tryd.pinned (OpenSpec.ofChange historyCollidesWrong)

/-- 'syngraphlaw18.VersionOrders': WHATEVER THE INPUT: true; the input reads as it did. -/
def versionOrdersSpec : ChangeSpec := { name := "versionOrders", fn := fun _ => fun
  | [d1, d2] => { results := [.lit (.bool true)], args := [d1, d2] }
  | _ => none }
def versionOrdersRow : OpenClaim := { program := "ytmhfanpijdgkjaadoor", sum := "ec4bd88c746f54fc3addce83b85c33a56f6fa50e67c9c725b74dbe07b52705ca", func := "syngraph/syngraphlaw18.VersionOrders", spec := "versionOrders", inPlace := ["internal/bytealg.IndexByteString", "internal/bytealg.IndexString", "internal/abi.NoEscape", "internal/bytealg.MakeNoZero", "internal/bytealg.abigen_runtime_cmpstring"], unfollowed := true, recurses := true, named := ["unicode/utf8.first", "unicode/utf8.acceptRanges", "internal/bytealg.MaxLen", "strconv.ErrSyntax", "strconv.ErrRange", "internal/strconv.uint64pow10", "math/bits.deBruijn32tab", "math/bits.deBruijn64tab", "syngraph/version.ops"], apart := false, laid := [("math/bits.deBruijn32tab", laid_math_bits_deBruijn32tab), ("math/bits.deBruijn64tab", laid_math_bits_deBruijn64tab), ("internal/strconv.uint64pow10", laid_internal_strconv_uint64pow10), ("unicode/utf8.acceptRanges", laid_unicode_utf8_acceptRanges), ("strconv.ErrRange", laid_strconv_ErrRange), ("strconv.ErrSyntax", laid_strconv_ErrSyntax), ("syngraph/version.ops", laid_syngraph_version_ops), ("unicode/utf8.first", laid_unicode_utf8_first)] }
def VersionOrdersSaid : Prop := versionOrdersRow.holds Tryd.pinned (OpenSpec.ofChange versionOrdersSpec)

/-- ITS FALSE NEIGHBOUR: 'it returns false'. Refute it at one input. -/
def versionOrdersWrong : ChangeSpec := { name := "versionOrders", fn := fun _ => fun
  | [d1, d2] => { results := [.lit (.bool false)], args := [d1, d2] }
  | _ => none }
def VersionOrdersWrongFalsely : Prop := versionOrdersRow.holds Tryd.pinned (OpenSpec.ofChange versionOrdersWrong)

/-- 'syngraphlaw18.VersionShows': WHATEVER THE INPUT: true; the input reads as it did. -/
def versionShowsSpec : ChangeSpec := { name := "versionShows", fn := fun _ => fun
  | [d] => { results := [.lit (.bool true)], args := [d] }
  | _ => none }
def versionShowsRow : OpenClaim := { program := "ytmhfanpijdgkjaadoor", sum := "ec4bd88c746f54fc3addce83b85c33a56f6fa50e67c9c725b74dbe07b52705ca", func := "syngraph/syngraphlaw18.VersionShows", spec := "versionShows", inPlace := ["internal/bytealg.IndexByteString", "internal/bytealg.IndexString", "internal/abi.NoEscape", "internal/bytealg.MakeNoZero", "internal/bytealg.abigen_runtime_cmpstring"], unfollowed := true, recurses := true, named := ["unicode/utf8.first", "unicode/utf8.acceptRanges", "internal/strconv.uint64pow10", "math/bits.deBruijn32tab", "math/bits.deBruijn64tab", "internal/bytealg.MaxLen", "strconv.ErrSyntax", "strconv.ErrRange", "syngraph/version.ops"], apart := false, laid := [("math/bits.deBruijn32tab", laid_math_bits_deBruijn32tab), ("math/bits.deBruijn64tab", laid_math_bits_deBruijn64tab), ("internal/strconv.uint64pow10", laid_internal_strconv_uint64pow10), ("unicode/utf8.acceptRanges", laid_unicode_utf8_acceptRanges), ("strconv.ErrRange", laid_strconv_ErrRange), ("strconv.ErrSyntax", laid_strconv_ErrSyntax), ("syngraph/version.ops", laid_syngraph_version_ops), ("unicode/utf8.first", laid_unicode_utf8_first)] }
def VersionShowsSaid : Prop := versionShowsRow.holds Tryd.pinned (OpenSpec.ofChange versionShowsSpec)

/-- ITS FALSE NEIGHBOUR: 'it returns false'. Refute it at one input. -/
def versionShowsWrong : ChangeSpec := { name := "versionShows", fn := fun _ => fun
  | [d] => { results := [.lit (.bool false)], args := [d] }
  | _ => none }
def VersionShowsWrongFalsely : Prop := versionShowsRow.holds Tryd.pinned (OpenSpec.ofChange versionShowsWrong)

/-- 'syngraphlaw18.VersionParses': WHATEVER THE INPUT: true; the input reads as it did. -/
def versionParsesSpec : ChangeSpec := { name := "versionParses", fn := fun _ => fun
  | [d] => { results := [.lit (.bool true)], args := [d] }
  | _ => none }
def versionParsesRow : OpenClaim := { program := "ytmhfanpijdgkjaadoor", sum := "ec4bd88c746f54fc3addce83b85c33a56f6fa50e67c9c725b74dbe07b52705ca", func := "syngraph/syngraphlaw18.VersionParses", spec := "versionParses", inPlace := ["internal/bytealg.IndexByteString", "internal/bytealg.IndexString", "internal/abi.NoEscape", "internal/bytealg.MakeNoZero", "internal/bytealg.abigen_runtime_cmpstring"], unfollowed := true, recurses := true, named := ["internal/bytealg.MaxLen", "unicode/utf8.first", "unicode/utf8.acceptRanges", "strconv.ErrSyntax", "strconv.ErrRange", "internal/strconv.uint64pow10", "math/bits.deBruijn32tab", "math/bits.deBruijn64tab", "syngraph/version.ops"], apart := false, laid := [("math/bits.deBruijn32tab", laid_math_bits_deBruijn32tab), ("math/bits.deBruijn64tab", laid_math_bits_deBruijn64tab), ("internal/strconv.uint64pow10", laid_internal_strconv_uint64pow10), ("unicode/utf8.acceptRanges", laid_unicode_utf8_acceptRanges), ("strconv.ErrRange", laid_strconv_ErrRange), ("strconv.ErrSyntax", laid_strconv_ErrSyntax), ("syngraph/version.ops", laid_syngraph_version_ops), ("unicode/utf8.first", laid_unicode_utf8_first)] }
def VersionParsesSaid : Prop := versionParsesRow.holds Tryd.pinned (OpenSpec.ofChange versionParsesSpec)

/-- ITS FALSE NEIGHBOUR: 'it returns false'. Refute it at one input. -/
def versionParsesWrong : ChangeSpec := { name := "versionParses", fn := fun _ => fun
  | [d] => { results := [.lit (.bool false)], args := [d] }
  | _ => none }
def VersionParsesWrongFalsely : Prop := versionParsesRow.holds Tryd.pinned (OpenSpec.ofChange versionParsesWrong)

/-- 'syngraphlaw18.VersionFits': WHATEVER THE INPUT: true; the input reads as it did. -/
def versionFitsSpec : ChangeSpec := { name := "versionFits", fn := fun _ => fun
  | [d1, d2] => { results := [.lit (.bool true)], args := [d1, d2] }
  | _ => none }
def versionFitsRow : OpenClaim := { program := "ytmhfanpijdgkjaadoor", sum := "ec4bd88c746f54fc3addce83b85c33a56f6fa50e67c9c725b74dbe07b52705ca", func := "syngraph/syngraphlaw18.VersionFits", spec := "versionFits", inPlace := ["internal/bytealg.IndexByteString", "internal/bytealg.IndexString", "internal/abi.NoEscape", "internal/bytealg.MakeNoZero", "internal/bytealg.abigen_runtime_cmpstring"], unfollowed := true, recurses := true, named := ["syngraph/version.ops", "unicode/utf8.first", "unicode/utf8.acceptRanges", "internal/strconv.uint64pow10", "math/bits.deBruijn32tab", "math/bits.deBruijn64tab", "internal/bytealg.MaxLen", "strconv.ErrSyntax", "strconv.ErrRange"], apart := false, laid := [("math/bits.deBruijn32tab", laid_math_bits_deBruijn32tab), ("math/bits.deBruijn64tab", laid_math_bits_deBruijn64tab), ("internal/strconv.uint64pow10", laid_internal_strconv_uint64pow10), ("unicode/utf8.acceptRanges", laid_unicode_utf8_acceptRanges), ("strconv.ErrRange", laid_strconv_ErrRange), ("strconv.ErrSyntax", laid_strconv_ErrSyntax), ("syngraph/version.ops", laid_syngraph_version_ops), ("unicode/utf8.first", laid_unicode_utf8_first)] }
def VersionFitsSaid : Prop := versionFitsRow.holds Tryd.pinned (OpenSpec.ofChange versionFitsSpec)

/-- ITS FALSE NEIGHBOUR: 'it returns false'. Refute it at one input. -/
def versionFitsWrong : ChangeSpec := { name := "versionFits", fn := fun _ => fun
  | [d1, d2] => { results := [.lit (.bool false)], args := [d1, d2] }
  | _ => none }
def VersionFitsWrongFalsely : Prop := versionFitsRow.holds Tryd.pinned (OpenSpec.ofChange versionFitsWrong)

/-- 'syngraphlaw18.VersionChains': WHATEVER THE INPUT: true; the input reads as it did. -/
def versionChainsSpec : ChangeSpec := { name := "versionChains", fn := fun _ => fun
  | [d1, d2, d3] => { results := [.lit (.bool true)], args := [d1, d2, d3] }
  | _ => none }
def versionChainsRow : OpenClaim := { program := "ytmhfanpijdgkjaadoor", sum := "ec4bd88c746f54fc3addce83b85c33a56f6fa50e67c9c725b74dbe07b52705ca", func := "syngraph/syngraphlaw18.VersionChains", spec := "versionChains", inPlace := ["internal/bytealg.abigen_runtime_cmpstring", "internal/bytealg.IndexByteString", "internal/bytealg.IndexString", "internal/abi.NoEscape", "internal/bytealg.MakeNoZero"], unfollowed := true, recurses := true, named := ["internal/bytealg.MaxLen", "unicode/utf8.first", "unicode/utf8.acceptRanges", "strconv.ErrSyntax", "strconv.ErrRange", "internal/strconv.uint64pow10", "math/bits.deBruijn32tab", "math/bits.deBruijn64tab", "syngraph/version.ops"], apart := false, laid := [("math/bits.deBruijn32tab", laid_math_bits_deBruijn32tab), ("math/bits.deBruijn64tab", laid_math_bits_deBruijn64tab), ("internal/strconv.uint64pow10", laid_internal_strconv_uint64pow10), ("unicode/utf8.acceptRanges", laid_unicode_utf8_acceptRanges), ("strconv.ErrRange", laid_strconv_ErrRange), ("strconv.ErrSyntax", laid_strconv_ErrSyntax), ("syngraph/version.ops", laid_syngraph_version_ops), ("unicode/utf8.first", laid_unicode_utf8_first)] }
def VersionChainsSaid : Prop := versionChainsRow.holds Tryd.pinned (OpenSpec.ofChange versionChainsSpec)

/-- ITS FALSE NEIGHBOUR: 'it returns false'. Refute it at one input. -/
def versionChainsWrong : ChangeSpec := { name := "versionChains", fn := fun _ => fun
  | [d1, d2, d3] => { results := [.lit (.bool false)], args := [d1, d2, d3] }
  | _ => none }
def VersionChainsWrongFalsely : Prop := versionChainsRow.holds Tryd.pinned (OpenSpec.ofChange versionChainsWrong)

/-- 'syngraphlaw18.VersionBumps': WHATEVER THE INPUT: true; the input reads as it did. -/
def versionBumpsSpec : ChangeSpec := { name := "versionBumps", fn := fun _ => fun
  | [d1, d2] => { results := [.lit (.bool true)], args := [d1, d2] }
  | _ => none }
def versionBumpsRow : OpenClaim := { program := "ytmhfanpijdgkjaadoor", sum := "ec4bd88c746f54fc3addce83b85c33a56f6fa50e67c9c725b74dbe07b52705ca", func := "syngraph/syngraphlaw18.VersionBumps", spec := "versionBumps", inPlace := ["internal/bytealg.IndexByteString", "internal/bytealg.IndexString", "internal/abi.NoEscape", "internal/bytealg.MakeNoZero", "internal/bytealg.abigen_runtime_cmpstring"], unfollowed := true, recurses := true, named := ["unicode/utf8.first", "unicode/utf8.acceptRanges", "internal/bytealg.MaxLen", "strconv.ErrSyntax", "strconv.ErrRange", "internal/strconv.uint64pow10", "math/bits.deBruijn32tab", "math/bits.deBruijn64tab", "syngraph/version.ops"], apart := false, laid := [("math/bits.deBruijn32tab", laid_math_bits_deBruijn32tab), ("math/bits.deBruijn64tab", laid_math_bits_deBruijn64tab), ("internal/strconv.uint64pow10", laid_internal_strconv_uint64pow10), ("unicode/utf8.acceptRanges", laid_unicode_utf8_acceptRanges), ("strconv.ErrRange", laid_strconv_ErrRange), ("strconv.ErrSyntax", laid_strconv_ErrSyntax), ("syngraph/version.ops", laid_syngraph_version_ops), ("unicode/utf8.first", laid_unicode_utf8_first)] }
def VersionBumpsSaid : Prop := versionBumpsRow.holds Tryd.pinned (OpenSpec.ofChange versionBumpsSpec)

/-- ITS FALSE NEIGHBOUR: 'it returns false'. Refute it at one input. -/
def versionBumpsWrong : ChangeSpec := { name := "versionBumps", fn := fun _ => fun
  | [d1, d2] => { results := [.lit (.bool false)], args := [d1, d2] }
  | _ => none }
def VersionBumpsWrongFalsely : Prop := versionBumpsRow.holds Tryd.pinned (OpenSpec.ofChange versionBumpsWrong)

/- THE SECOND FORM. 'bulk': how many values and letters a reading holds, each counted each time it is reached (what is shared counts as often as it is met; a slice's spare places count too). A statement '..UptoSaid' is the law's where the arguments, and the package variables that the reading takes, are together of bulk at most 1048576: NARROWER than '..Said'. Prove '..Said' where nothing that the law and all that it calls make is longer than what came in: it says more and counts as full. Else prove '..UptoSaid'. A law counts once. -/
mutual
def uptoBulk {H : Type} : DataW H → Nat
  | .lit (.string bytes) => bytes.length + 1
  | .lit _ => 1
  | .nil => 1
  | .ptr d => uptoBulk d + 1
  | .slice elems spare => uptoBulkAll elems + uptoBulkAll spare + 1
  | .agg parts => uptoBulkAll parts + 1
  | .iface _ d => uptoBulk d + 1
  | .map entries => uptoBulkEntries entries + 1
  | .held _ => 1
def uptoBulkAll {H : Type} : List (DataW H) → Nat
  | [] => 0
  | d :: r => uptoBulk d + uptoBulkAll r
def uptoBulkEntries {H : Type} : List (Lit × DataW H) → Nat
  | [] => 0
  | x :: r => uptoBulkEntry x + uptoBulkEntries r
def uptoBulkEntry {H : Type} : Lit × DataW H → Nat
  | (.string bytes, d) => bytes.length + uptoBulk d + 1
  | (_, d) => uptoBulk d + 1
 end
def uptoSmall : (H : Type) → List (DataW H) → Bool := fun _ ds => decide (uptoBulkAll ds ≤ 1048576)
def OpenSpec.upto (s : _root_.Go.ChangeSpec) : _root_.Go.OpenSpec := { _root_.Go.OpenSpec.ofChange s with cond := some uptoSmall }

/-- 'syngraphlaw22.HistoryHeads', WHERE WHAT IT READS IS OF BULK AT MOST 1048576: true; the input reads as it did. -/
def historyHeadsUptoRow : OpenClaim := { program := "ytmhfanpijdgkjaadoor", sum := "ec4bd88c746f54fc3addce83b85c33a56f6fa50e67c9c725b74dbe07b52705ca", func := "syngraph/syngraphlaw22.HistoryHeads", spec := "historyHeads", inPlace := ["internal/bytealg.IndexByteString", "internal/bytealg.IndexString", "internal/abi.NoEscape", "internal/bytealg.MakeNoZero"], named := ["unicode/utf8.first", "unicode/utf8.acceptRanges", "internal/strconv.uint64pow10", "math/bits.deBruijn32tab", "math/bits.deBruijn64tab", "syngraph/sha.begin", "syngraph/sha.table", "internal/bytealg.MaxLen"], apart := false, laid := [("math/bits.deBruijn32tab", laid_math_bits_deBruijn32tab), ("math/bits.deBruijn64tab", laid_math_bits_deBruijn64tab), ("internal/strconv.uint64pow10", laid_internal_strconv_uint64pow10), ("unicode/utf8.acceptRanges", laid_unicode_utf8_acceptRanges), ("syngraph/sha.begin", laid_syngraph_sha_begin), ("syngraph/sha.table", laid_syngraph_sha_table), ("unicode/utf8.first", laid_unicode_utf8_first)], narrowed := true }
def HistoryHeadsUptoSaid : Prop := historyHeadsUptoRow.holds Tryd.pinned (OpenSpec.upto historyHeadsSpec)

/-- 'syngraphlaw22.HistoryDiffs', WHERE WHAT IT READS IS OF BULK AT MOST 1048576: true; the input reads as it did. -/
def historyDiffsUptoRow : OpenClaim := { program := "ytmhfanpijdgkjaadoor", sum := "ec4bd88c746f54fc3addce83b85c33a56f6fa50e67c9c725b74dbe07b52705ca", func := "syngraph/syngraphlaw22.HistoryDiffs", spec := "historyDiffs", inPlace := ["internal/bytealg.IndexByteString", "internal/bytealg.IndexString", "internal/abi.NoEscape", "internal/bytealg.MakeNoZero"], named := ["unicode/utf8.first", "unicode/utf8.acceptRanges", "internal/strconv.uint64pow10", "math/bits.deBruijn32tab", "math/bits.deBruijn64tab", "syngraph/sha.begin", "syngraph/sha.table", "internal/bytealg.MaxLen"], apart := false, laid := [("math/bits.deBruijn32tab", laid_math_bits_deBruijn32tab), ("math/bits.deBruijn64tab", laid_math_bits_deBruijn64tab), ("internal/strconv.uint64pow10", laid_internal_strconv_uint64pow10), ("unicode/utf8.acceptRanges", laid_unicode_utf8_acceptRanges), ("syngraph/sha.begin", laid_syngraph_sha_begin), ("syngraph/sha.table", laid_syngraph_sha_table), ("unicode/utf8.first", laid_unicode_utf8_first)], narrowed := true }
def HistoryDiffsUptoSaid : Prop := historyDiffsUptoRow.holds Tryd.pinned (OpenSpec.upto historyDiffsSpec)

/-- 'syngraphlaw22.HistoryFinds', WHERE WHAT IT READS IS OF BULK AT MOST 1048576: true; the input reads as it did. -/
def historyFindsUptoRow : OpenClaim := { program := "ytmhfanpijdgkjaadoor", sum := "ec4bd88c746f54fc3addce83b85c33a56f6fa50e67c9c725b74dbe07b52705ca", func := "syngraph/syngraphlaw22.HistoryFinds", spec := "historyFinds", inPlace := ["internal/bytealg.IndexByteString", "internal/bytealg.IndexString", "internal/abi.NoEscape", "internal/bytealg.MakeNoZero"], unfollowed := true, recurses := true, named := ["unicode/utf8.first", "unicode/utf8.acceptRanges", "internal/strconv.uint64pow10", "math/bits.deBruijn32tab", "math/bits.deBruijn64tab", "syngraph/sha.begin", "syngraph/sha.table", "internal/bytealg.MaxLen"], apart := false, laid := [("math/bits.deBruijn32tab", laid_math_bits_deBruijn32tab), ("math/bits.deBruijn64tab", laid_math_bits_deBruijn64tab), ("internal/strconv.uint64pow10", laid_internal_strconv_uint64pow10), ("unicode/utf8.acceptRanges", laid_unicode_utf8_acceptRanges), ("syngraph/sha.begin", laid_syngraph_sha_begin), ("syngraph/sha.table", laid_syngraph_sha_table), ("unicode/utf8.first", laid_unicode_utf8_first)], narrowed := true }
def HistoryFindsUptoSaid : Prop := historyFindsUptoRow.holds Tryd.pinned (OpenSpec.upto historyFindsSpec)

/-- 'syngraphlaw22.HistoryCollides', WHERE WHAT IT READS IS OF BULK AT MOST 1048576: true; the input reads as it did. -/
def historyCollidesUptoRow : OpenClaim := { program := "ytmhfanpijdgkjaadoor", sum := "ec4bd88c746f54fc3addce83b85c33a56f6fa50e67c9c725b74dbe07b52705ca", func := "syngraph/syngraphlaw22.HistoryCollides", spec := "historyCollides", inPlace := ["internal/bytealg.IndexByteString", "internal/bytealg.IndexString", "internal/abi.NoEscape", "internal/bytealg.MakeNoZero"], unfollowed := true, recurses := true, named := ["unicode/utf8.first", "unicode/utf8.acceptRanges", "internal/strconv.uint64pow10", "math/bits.deBruijn32tab", "math/bits.deBruijn64tab", "syngraph/sha.begin", "syngraph/sha.table", "internal/bytealg.MaxLen"], apart := false, laid := [("math/bits.deBruijn32tab", laid_math_bits_deBruijn32tab), ("math/bits.deBruijn64tab", laid_math_bits_deBruijn64tab), ("internal/strconv.uint64pow10", laid_internal_strconv_uint64pow10), ("unicode/utf8.acceptRanges", laid_unicode_utf8_acceptRanges), ("syngraph/sha.begin", laid_syngraph_sha_begin), ("syngraph/sha.table", laid_syngraph_sha_table), ("unicode/utf8.first", laid_unicode_utf8_first)], narrowed := true }
def HistoryCollidesUptoSaid : Prop := historyCollidesUptoRow.holds Tryd.pinned (OpenSpec.upto historyCollidesSpec)

/-- 'syngraphlaw18.VersionOrders', WHERE WHAT IT READS IS OF BULK AT MOST 1048576: true; the input reads as it did. -/
def versionOrdersUptoRow : OpenClaim := { program := "ytmhfanpijdgkjaadoor", sum := "ec4bd88c746f54fc3addce83b85c33a56f6fa50e67c9c725b74dbe07b52705ca", func := "syngraph/syngraphlaw18.VersionOrders", spec := "versionOrders", inPlace := ["internal/bytealg.IndexByteString", "internal/bytealg.IndexString", "internal/abi.NoEscape", "internal/bytealg.MakeNoZero", "internal/bytealg.abigen_runtime_cmpstring"], unfollowed := true, recurses := true, named := ["unicode/utf8.first", "unicode/utf8.acceptRanges", "internal/bytealg.MaxLen", "strconv.ErrSyntax", "strconv.ErrRange", "internal/strconv.uint64pow10", "math/bits.deBruijn32tab", "math/bits.deBruijn64tab", "syngraph/version.ops"], apart := false, laid := [("math/bits.deBruijn32tab", laid_math_bits_deBruijn32tab), ("math/bits.deBruijn64tab", laid_math_bits_deBruijn64tab), ("internal/strconv.uint64pow10", laid_internal_strconv_uint64pow10), ("unicode/utf8.acceptRanges", laid_unicode_utf8_acceptRanges), ("strconv.ErrRange", laid_strconv_ErrRange), ("strconv.ErrSyntax", laid_strconv_ErrSyntax), ("syngraph/version.ops", laid_syngraph_version_ops), ("unicode/utf8.first", laid_unicode_utf8_first)], narrowed := true }
def VersionOrdersUptoSaid : Prop := versionOrdersUptoRow.holds Tryd.pinned (OpenSpec.upto versionOrdersSpec)

/-- 'syngraphlaw18.VersionShows', WHERE WHAT IT READS IS OF BULK AT MOST 1048576: true; the input reads as it did. -/
def versionShowsUptoRow : OpenClaim := { program := "ytmhfanpijdgkjaadoor", sum := "ec4bd88c746f54fc3addce83b85c33a56f6fa50e67c9c725b74dbe07b52705ca", func := "syngraph/syngraphlaw18.VersionShows", spec := "versionShows", inPlace := ["internal/bytealg.IndexByteString", "internal/bytealg.IndexString", "internal/abi.NoEscape", "internal/bytealg.MakeNoZero", "internal/bytealg.abigen_runtime_cmpstring"], unfollowed := true, recurses := true, named := ["unicode/utf8.first", "unicode/utf8.acceptRanges", "internal/strconv.uint64pow10", "math/bits.deBruijn32tab", "math/bits.deBruijn64tab", "internal/bytealg.MaxLen", "strconv.ErrSyntax", "strconv.ErrRange", "syngraph/version.ops"], apart := false, laid := [("math/bits.deBruijn32tab", laid_math_bits_deBruijn32tab), ("math/bits.deBruijn64tab", laid_math_bits_deBruijn64tab), ("internal/strconv.uint64pow10", laid_internal_strconv_uint64pow10), ("unicode/utf8.acceptRanges", laid_unicode_utf8_acceptRanges), ("strconv.ErrRange", laid_strconv_ErrRange), ("strconv.ErrSyntax", laid_strconv_ErrSyntax), ("syngraph/version.ops", laid_syngraph_version_ops), ("unicode/utf8.first", laid_unicode_utf8_first)], narrowed := true }
def VersionShowsUptoSaid : Prop := versionShowsUptoRow.holds Tryd.pinned (OpenSpec.upto versionShowsSpec)

/-- 'syngraphlaw18.VersionParses', WHERE WHAT IT READS IS OF BULK AT MOST 1048576: true; the input reads as it did. -/
def versionParsesUptoRow : OpenClaim := { program := "ytmhfanpijdgkjaadoor", sum := "ec4bd88c746f54fc3addce83b85c33a56f6fa50e67c9c725b74dbe07b52705ca", func := "syngraph/syngraphlaw18.VersionParses", spec := "versionParses", inPlace := ["internal/bytealg.IndexByteString", "internal/bytealg.IndexString", "internal/abi.NoEscape", "internal/bytealg.MakeNoZero", "internal/bytealg.abigen_runtime_cmpstring"], unfollowed := true, recurses := true, named := ["internal/bytealg.MaxLen", "unicode/utf8.first", "unicode/utf8.acceptRanges", "strconv.ErrSyntax", "strconv.ErrRange", "internal/strconv.uint64pow10", "math/bits.deBruijn32tab", "math/bits.deBruijn64tab", "syngraph/version.ops"], apart := false, laid := [("math/bits.deBruijn32tab", laid_math_bits_deBruijn32tab), ("math/bits.deBruijn64tab", laid_math_bits_deBruijn64tab), ("internal/strconv.uint64pow10", laid_internal_strconv_uint64pow10), ("unicode/utf8.acceptRanges", laid_unicode_utf8_acceptRanges), ("strconv.ErrRange", laid_strconv_ErrRange), ("strconv.ErrSyntax", laid_strconv_ErrSyntax), ("syngraph/version.ops", laid_syngraph_version_ops), ("unicode/utf8.first", laid_unicode_utf8_first)], narrowed := true }
def VersionParsesUptoSaid : Prop := versionParsesUptoRow.holds Tryd.pinned (OpenSpec.upto versionParsesSpec)

/-- 'syngraphlaw18.VersionFits', WHERE WHAT IT READS IS OF BULK AT MOST 1048576: true; the input reads as it did. -/
def versionFitsUptoRow : OpenClaim := { program := "ytmhfanpijdgkjaadoor", sum := "ec4bd88c746f54fc3addce83b85c33a56f6fa50e67c9c725b74dbe07b52705ca", func := "syngraph/syngraphlaw18.VersionFits", spec := "versionFits", inPlace := ["internal/bytealg.IndexByteString", "internal/bytealg.IndexString", "internal/abi.NoEscape", "internal/bytealg.MakeNoZero", "internal/bytealg.abigen_runtime_cmpstring"], unfollowed := true, recurses := true, named := ["syngraph/version.ops", "unicode/utf8.first", "unicode/utf8.acceptRanges", "internal/strconv.uint64pow10", "math/bits.deBruijn32tab", "math/bits.deBruijn64tab", "internal/bytealg.MaxLen", "strconv.ErrSyntax", "strconv.ErrRange"], apart := false, laid := [("math/bits.deBruijn32tab", laid_math_bits_deBruijn32tab), ("math/bits.deBruijn64tab", laid_math_bits_deBruijn64tab), ("internal/strconv.uint64pow10", laid_internal_strconv_uint64pow10), ("unicode/utf8.acceptRanges", laid_unicode_utf8_acceptRanges), ("strconv.ErrRange", laid_strconv_ErrRange), ("strconv.ErrSyntax", laid_strconv_ErrSyntax), ("syngraph/version.ops", laid_syngraph_version_ops), ("unicode/utf8.first", laid_unicode_utf8_first)], narrowed := true }
def VersionFitsUptoSaid : Prop := versionFitsUptoRow.holds Tryd.pinned (OpenSpec.upto versionFitsSpec)

/-- 'syngraphlaw18.VersionChains', WHERE WHAT IT READS IS OF BULK AT MOST 1048576: true; the input reads as it did. -/
def versionChainsUptoRow : OpenClaim := { program := "ytmhfanpijdgkjaadoor", sum := "ec4bd88c746f54fc3addce83b85c33a56f6fa50e67c9c725b74dbe07b52705ca", func := "syngraph/syngraphlaw18.VersionChains", spec := "versionChains", inPlace := ["internal/bytealg.abigen_runtime_cmpstring", "internal/bytealg.IndexByteString", "internal/bytealg.IndexString", "internal/abi.NoEscape", "internal/bytealg.MakeNoZero"], unfollowed := true, recurses := true, named := ["internal/bytealg.MaxLen", "unicode/utf8.first", "unicode/utf8.acceptRanges", "strconv.ErrSyntax", "strconv.ErrRange", "internal/strconv.uint64pow10", "math/bits.deBruijn32tab", "math/bits.deBruijn64tab", "syngraph/version.ops"], apart := false, laid := [("math/bits.deBruijn32tab", laid_math_bits_deBruijn32tab), ("math/bits.deBruijn64tab", laid_math_bits_deBruijn64tab), ("internal/strconv.uint64pow10", laid_internal_strconv_uint64pow10), ("unicode/utf8.acceptRanges", laid_unicode_utf8_acceptRanges), ("strconv.ErrRange", laid_strconv_ErrRange), ("strconv.ErrSyntax", laid_strconv_ErrSyntax), ("syngraph/version.ops", laid_syngraph_version_ops), ("unicode/utf8.first", laid_unicode_utf8_first)], narrowed := true }
def VersionChainsUptoSaid : Prop := versionChainsUptoRow.holds Tryd.pinned (OpenSpec.upto versionChainsSpec)

/-- 'syngraphlaw18.VersionBumps', WHERE WHAT IT READS IS OF BULK AT MOST 1048576: true; the input reads as it did. -/
def versionBumpsUptoRow : OpenClaim := { program := "ytmhfanpijdgkjaadoor", sum := "ec4bd88c746f54fc3addce83b85c33a56f6fa50e67c9c725b74dbe07b52705ca", func := "syngraph/syngraphlaw18.VersionBumps", spec := "versionBumps", inPlace := ["internal/bytealg.IndexByteString", "internal/bytealg.IndexString", "internal/abi.NoEscape", "internal/bytealg.MakeNoZero", "internal/bytealg.abigen_runtime_cmpstring"], unfollowed := true, recurses := true, named := ["unicode/utf8.first", "unicode/utf8.acceptRanges", "internal/bytealg.MaxLen", "strconv.ErrSyntax", "strconv.ErrRange", "internal/strconv.uint64pow10", "math/bits.deBruijn32tab", "math/bits.deBruijn64tab", "syngraph/version.ops"], apart := false, laid := [("math/bits.deBruijn32tab", laid_math_bits_deBruijn32tab), ("math/bits.deBruijn64tab", laid_math_bits_deBruijn64tab), ("internal/strconv.uint64pow10", laid_internal_strconv_uint64pow10), ("unicode/utf8.acceptRanges", laid_unicode_utf8_acceptRanges), ("strconv.ErrRange", laid_strconv_ErrRange), ("strconv.ErrSyntax", laid_strconv_ErrSyntax), ("syngraph/version.ops", laid_syngraph_version_ops), ("unicode/utf8.first", laid_unicode_utf8_first)], narrowed := true }
def VersionBumpsUptoSaid : Prop := versionBumpsUptoRow.holds Tryd.pinned (OpenSpec.upto versionBumpsSpec)

end Rows
end Go.Proofs.YtmhfanpijdgkjaaDoor
