/-
  NARROWER THAN 'FOR EVERY INPUT', by the rows' own cells (each row's printed sentence says how): MailboxAddresses: laid · MailboxJoins: laid · MailboxValues: laid · MailboxDecodes: laid · MailboxNumbers: laid · MailboxFull: laid · MailboxFresh: laid · MailboxOperations: laid · MailboxErrors: laid · MailboxLocal: laid.
  DERIVED. THE GIVEN ROWS OF THIS SEAT. 10 by the template 'for every input the law returns true; each argument reads behind the call as it read before'; 0 by the template 'total and deterministic' (their statements: YtlaihnbappfbfaaGreatDoorTotals.lean).
  GIVEN WITH THE SEED: the statements are not yours to turn. If you find one false, say at which input.
  Laid BY PROGRAM, IN A SANDBOX (cutbox-rows.mjs): the forced cells as the released guide's own fill.sh prints them over the translation 177c7fb7dfb89531… (all of the seat's roots in one cut). By AI agents, Wed Nov 11 2026. No macro, syntax, notation, axiom, sorry.
-/
import Derived.Test.YtlaihnbappfbfaaGreatDoorChecked
import GoSem.Claim
import GoSem.ClaimJoined
import GoSem.ClaimMapViews
import Derived.JoinedTies
import Derived.KernelRfl
namespace Go.Proofs.YtlaihnbappfbfaaGreatDoor
/- THE CELL 'sum', in the pinned program and in every row, IS THE sha256 OF THE DUMP (.gsa) THAT YtlaihnbappfbfaaGreatDoorProg.lean LOADS. Nothing in Lean hashes anything: it is a label: what it is worth is what the hold of that sum in a sandbox is worth. -/
noncomputable def Tryz.pinned : Pinned := { name := "ytlaihnbappfbfaagreatdoor", sum := "177c7fb7dfb89531f25240a9cd2c344f69e73dea93e84f9f23bcd6abf458bd7b", checked := Tryz.checked }
namespace Rows
def none {H : Type} : Left H := { results := [], args := [] }

/- WHAT THE LISTED PACKAGE-LEVEL VARIABLES READ AS WHEN THE CALL BEGINS. Each datum BY PROGRAM (the guide's laid-datum.mjs) off the statement by which the dump's own 'gosem.cut.vars' lays the variable. In a bare row this is a premise. The card (YtlaihnbappfbfaaGreatDoorCards.lean) ties it to the program's text. -/
def laid_math_bits_deBruijn32tab {H : Type} : DataW H := .agg [.lit (.int .u8 0), .lit (.int .u8 1), .lit (.int .u8 28), .lit (.int .u8 2), .lit (.int .u8 29), .lit (.int .u8 14), .lit (.int .u8 24), .lit (.int .u8 3), .lit (.int .u8 30), .lit (.int .u8 22), .lit (.int .u8 20), .lit (.int .u8 15), .lit (.int .u8 25), .lit (.int .u8 17), .lit (.int .u8 4), .lit (.int .u8 8), .lit (.int .u8 31), .lit (.int .u8 27), .lit (.int .u8 13), .lit (.int .u8 23), .lit (.int .u8 21), .lit (.int .u8 19), .lit (.int .u8 16), .lit (.int .u8 7), .lit (.int .u8 26), .lit (.int .u8 12), .lit (.int .u8 18), .lit (.int .u8 6), .lit (.int .u8 11), .lit (.int .u8 5), .lit (.int .u8 10), .lit (.int .u8 9)]
def laid_math_bits_deBruijn64tab {H : Type} : DataW H := .agg [.lit (.int .u8 0), .lit (.int .u8 1), .lit (.int .u8 56), .lit (.int .u8 2), .lit (.int .u8 57), .lit (.int .u8 49), .lit (.int .u8 28), .lit (.int .u8 3), .lit (.int .u8 61), .lit (.int .u8 58), .lit (.int .u8 42), .lit (.int .u8 50), .lit (.int .u8 38), .lit (.int .u8 29), .lit (.int .u8 17), .lit (.int .u8 4), .lit (.int .u8 62), .lit (.int .u8 47), .lit (.int .u8 59), .lit (.int .u8 36), .lit (.int .u8 45), .lit (.int .u8 43), .lit (.int .u8 51), .lit (.int .u8 22), .lit (.int .u8 53), .lit (.int .u8 39), .lit (.int .u8 33), .lit (.int .u8 30), .lit (.int .u8 24), .lit (.int .u8 18), .lit (.int .u8 12), .lit (.int .u8 5), .lit (.int .u8 63), .lit (.int .u8 55), .lit (.int .u8 48), .lit (.int .u8 27), .lit (.int .u8 60), .lit (.int .u8 41), .lit (.int .u8 37), .lit (.int .u8 16), .lit (.int .u8 46), .lit (.int .u8 35), .lit (.int .u8 44), .lit (.int .u8 21), .lit (.int .u8 52), .lit (.int .u8 32), .lit (.int .u8 23), .lit (.int .u8 11), .lit (.int .u8 54), .lit (.int .u8 26), .lit (.int .u8 40), .lit (.int .u8 15), .lit (.int .u8 34), .lit (.int .u8 20), .lit (.int .u8 31), .lit (.int .u8 10), .lit (.int .u8 25), .lit (.int .u8 14), .lit (.int .u8 19), .lit (.int .u8 9), .lit (.int .u8 13), .lit (.int .u8 8), .lit (.int .u8 7), .lit (.int .u8 6)]
def laid_internal_strconv_uint64pow10 {H : Type} : DataW H := .agg [.lit (.int .u64 1), .lit (.int .u64 10), .lit (.int .u64 100), .lit (.int .u64 1000), .lit (.int .u64 10000), .lit (.int .u64 100000), .lit (.int .u64 1000000), .lit (.int .u64 10000000), .lit (.int .u64 100000000), .lit (.int .u64 1000000000), .lit (.int .u64 10000000000), .lit (.int .u64 100000000000), .lit (.int .u64 1000000000000), .lit (.int .u64 10000000000000), .lit (.int .u64 100000000000000), .lit (.int .u64 1000000000000000), .lit (.int .u64 10000000000000000), .lit (.int .u64 100000000000000000), .lit (.int .u64 1000000000000000000), .lit (.int .u64 10000000000000000000)]
def laid_replevin_sha256_initial {H : Type} : DataW H := .agg [.lit (.int .u32 1779033703), .lit (.int .u32 3144134277), .lit (.int .u32 1013904242), .lit (.int .u32 2773480762), .lit (.int .u32 1359893119), .lit (.int .u32 2600822924), .lit (.int .u32 528734635), .lit (.int .u32 1541459225)]
def laid_replevin_sha256_constants {H : Type} : DataW H := .agg [.lit (.int .u32 1116352408), .lit (.int .u32 1899447441), .lit (.int .u32 3049323471), .lit (.int .u32 3921009573), .lit (.int .u32 961987163), .lit (.int .u32 1508970993), .lit (.int .u32 2453635748), .lit (.int .u32 2870763221), .lit (.int .u32 3624381080), .lit (.int .u32 310598401), .lit (.int .u32 607225278), .lit (.int .u32 1426881987), .lit (.int .u32 1925078388), .lit (.int .u32 2162078206), .lit (.int .u32 2614888103), .lit (.int .u32 3248222580), .lit (.int .u32 3835390401), .lit (.int .u32 4022224774), .lit (.int .u32 264347078), .lit (.int .u32 604807628), .lit (.int .u32 770255983), .lit (.int .u32 1249150122), .lit (.int .u32 1555081692), .lit (.int .u32 1996064986), .lit (.int .u32 2554220882), .lit (.int .u32 2821834349), .lit (.int .u32 2952996808), .lit (.int .u32 3210313671), .lit (.int .u32 3336571891), .lit (.int .u32 3584528711), .lit (.int .u32 113926993), .lit (.int .u32 338241895), .lit (.int .u32 666307205), .lit (.int .u32 773529912), .lit (.int .u32 1294757372), .lit (.int .u32 1396182291), .lit (.int .u32 1695183700), .lit (.int .u32 1986661051), .lit (.int .u32 2177026350), .lit (.int .u32 2456956037), .lit (.int .u32 2730485921), .lit (.int .u32 2820302411), .lit (.int .u32 3259730800), .lit (.int .u32 3345764771), .lit (.int .u32 3516065817), .lit (.int .u32 3600352804), .lit (.int .u32 4094571909), .lit (.int .u32 275423344), .lit (.int .u32 430227734), .lit (.int .u32 506948616), .lit (.int .u32 659060556), .lit (.int .u32 883997877), .lit (.int .u32 958139571), .lit (.int .u32 1322822218), .lit (.int .u32 1537002063), .lit (.int .u32 1747873779), .lit (.int .u32 1955562222), .lit (.int .u32 2024104815), .lit (.int .u32 2227730452), .lit (.int .u32 2361852424), .lit (.int .u32 2428436474), .lit (.int .u32 2756734187), .lit (.int .u32 3204031479), .lit (.int .u32 3329325298)]
def laid_replevin_object_usages {H : Type} : DataW H := .agg [.agg [.lit (.string []), .lit (.bool false), .lit (.bool false), .lit (.bool false), .lit (.bool false), .lit (.int .i64 0)], .agg [.lit (.string [112, 114, 111, 99, 101, 115, 115]), .lit (.bool true), .lit (.bool false), .lit (.bool false), .lit (.bool false), .lit (.int .i64 0)], .agg [.lit (.string [114, 101, 103, 105, 115, 116, 101, 114, 115]), .lit (.bool true), .lit (.bool false), .lit (.bool false), .lit (.bool false), .lit (.int .i64 0)], .agg [.lit (.string [112, 97, 103, 101]), .lit (.bool true), .lit (.bool false), .lit (.bool true), .lit (.bool false), .lit (.int .i64 63)], .agg [.lit (.string [116, 97, 98, 108, 101]), .lit (.bool true), .lit (.bool false), .lit (.bool false), .lit (.bool false), .lit (.int .i64 0)], .agg [.lit (.string [99, 111, 117, 110, 116, 101, 114]), .lit (.bool true), .lit (.bool false), .lit (.bool false), .lit (.bool false), .lit (.int .i64 0)], .agg [.lit (.string [112, 101, 110, 100, 105, 110, 103]), .lit (.bool true), .lit (.bool false), .lit (.bool false), .lit (.bool false), .lit (.int .i64 0)], .agg [.lit (.string [110, 111, 100, 101]), .lit (.bool true), .lit (.bool true), .lit (.bool false), .lit (.bool false), .lit (.int .i64 0)], .agg [.lit (.string [98, 108, 111, 99, 107]), .lit (.bool true), .lit (.bool true), .lit (.bool true), .lit (.bool false), .lit (.int .i64 63)], .agg [.lit (.string [101, 110, 116, 114, 121]), .lit (.bool true), .lit (.bool true), .lit (.bool false), .lit (.bool true), .lit (.int .i64 0)], .agg [.lit (.string [108, 105, 115, 116, 105, 110, 103]), .lit (.bool true), .lit (.bool true), .lit (.bool false), .lit (.bool false), .lit (.int .i64 0)], .agg [.lit (.string [112, 105, 112, 101]), .lit (.bool true), .lit (.bool true), .lit (.bool false), .lit (.bool false), .lit (.int .i64 0)], .agg [.lit (.string [108, 111, 99, 107]), .lit (.bool true), .lit (.bool true), .lit (.bool false), .lit (.bool false), .lit (.int .i64 0)], .agg [.lit (.string [116, 101, 114, 109, 105, 110, 97, 108]), .lit (.bool false), .lit (.bool true), .lit (.bool false), .lit (.bool false), .lit (.int .i64 0)], .agg [.lit (.string [97, 99, 99, 111, 117, 110, 116]), .lit (.bool false), .lit (.bool false), .lit (.bool false), .lit (.bool true), .lit (.int .i64 0)], .agg [.lit (.string [99, 108, 111, 99, 107]), .lit (.bool false), .lit (.bool false), .lit (.bool false), .lit (.bool false), .lit (.int .i64 0)], .agg [.lit (.string [112, 111, 114, 116]), .lit (.bool false), .lit (.bool true), .lit (.bool false), .lit (.bool false), .lit (.int .i64 0)], .agg [.lit (.string [98, 111, 120]), .lit (.bool false), .lit (.bool false), .lit (.bool false), .lit (.bool true), .lit (.int .i64 0)], .agg [.lit (.string [111, 117, 116]), .lit (.bool true), .lit (.bool true), .lit (.bool true), .lit (.bool false), .lit (.int .i64 1073741824)], .agg [.lit (.string [115, 104, 101, 108, 108]), .lit (.bool true), .lit (.bool false), .lit (.bool false), .lit (.bool false), .lit (.int .i64 0)], .agg [.lit (.string [101, 112, 111, 99, 104]), .lit (.bool false), .lit (.bool false), .lit (.bool false), .lit (.bool false), .lit (.int .i64 0)]]

/-- 'replevinlaw38.MailboxAddresses': WHATEVER THE INPUT: true; the input reads as it did. -/
def mailboxAddressesSpec : ChangeSpec := { name := "mailboxAddresses", fn := fun _ => fun
  | [d] => { results := [.lit (.bool true)], args := [d] }
  | _ => none }
def mailboxAddressesRow : OpenClaim := { program := "ytlaihnbappfbfaagreatdoor", sum := "177c7fb7dfb89531f25240a9cd2c344f69e73dea93e84f9f23bcd6abf458bd7b", func := "replevin/replevinlaw38.MailboxAddresses", spec := "mailboxAddresses", inPlace := ["internal/bytealg.CountString", "internal/bytealg.IndexByteString", "internal/bytealg.IndexString"], unfollowed := true, recurses := true, named := ["internal/bytealg.MaxLen", "replevin/object.usages", "internal/strconv.uint64pow10", "math/bits.deBruijn32tab", "math/bits.deBruijn64tab", "replevin/sha256.initial", "replevin/sha256.constants"], plainKeys := false, apart := false, laid := [("math/bits.deBruijn32tab", laid_math_bits_deBruijn32tab), ("math/bits.deBruijn64tab", laid_math_bits_deBruijn64tab), ("internal/strconv.uint64pow10", laid_internal_strconv_uint64pow10), ("replevin/sha256.initial", laid_replevin_sha256_initial), ("replevin/sha256.constants", laid_replevin_sha256_constants), ("replevin/object.usages", laid_replevin_object_usages)] }
def MailboxAddressesSaid : Prop := mailboxAddressesRow.holds Tryz.pinned (OpenSpec.ofChange mailboxAddressesSpec)

/-- ITS FALSE NEIGHBOUR: 'it returns false'. Refute it at one input. -/
def mailboxAddressesWrong : ChangeSpec := { name := "mailboxAddresses", fn := fun _ => fun
  | [d] => { results := [.lit (.bool false)], args := [d] }
  | _ => none }
def MailboxAddressesWrongFalsely : Prop := mailboxAddressesRow.holds Tryz.pinned (OpenSpec.ofChange mailboxAddressesWrong)

/-- 'replevinlaw38.MailboxJoins': WHATEVER THE INPUT: true; the input reads as it did. -/
def mailboxJoinsSpec : ChangeSpec := { name := "mailboxJoins", fn := fun _ => fun
  | [d1, d2] => { results := [.lit (.bool true)], args := [d1, d2] }
  | _ => none }
def mailboxJoinsRow : OpenClaim := { program := "ytlaihnbappfbfaagreatdoor", sum := "177c7fb7dfb89531f25240a9cd2c344f69e73dea93e84f9f23bcd6abf458bd7b", func := "replevin/replevinlaw38.MailboxJoins", spec := "mailboxJoins", inPlace := ["internal/bytealg.CountString", "internal/bytealg.IndexByteString", "internal/bytealg.IndexString"], unfollowed := true, recurses := true, named := ["replevin/object.usages", "internal/strconv.uint64pow10", "math/bits.deBruijn32tab", "math/bits.deBruijn64tab", "replevin/sha256.initial", "replevin/sha256.constants", "internal/bytealg.MaxLen"], plainKeys := false, apart := false, laid := [("math/bits.deBruijn32tab", laid_math_bits_deBruijn32tab), ("math/bits.deBruijn64tab", laid_math_bits_deBruijn64tab), ("internal/strconv.uint64pow10", laid_internal_strconv_uint64pow10), ("replevin/sha256.initial", laid_replevin_sha256_initial), ("replevin/sha256.constants", laid_replevin_sha256_constants), ("replevin/object.usages", laid_replevin_object_usages)] }
def MailboxJoinsSaid : Prop := mailboxJoinsRow.holds Tryz.pinned (OpenSpec.ofChange mailboxJoinsSpec)

/-- ITS FALSE NEIGHBOUR: 'it returns false'. Refute it at one input. -/
def mailboxJoinsWrong : ChangeSpec := { name := "mailboxJoins", fn := fun _ => fun
  | [d1, d2] => { results := [.lit (.bool false)], args := [d1, d2] }
  | _ => none }
def MailboxJoinsWrongFalsely : Prop := mailboxJoinsRow.holds Tryz.pinned (OpenSpec.ofChange mailboxJoinsWrong)

/-- 'replevinlaw38.MailboxValues': WHATEVER THE INPUT: true; the input reads as it did. -/
def mailboxValuesSpec : ChangeSpec := { name := "mailboxValues", fn := fun _ => fun
  | [d1, d2] => { results := [.lit (.bool true)], args := [d1, d2] }
  | _ => none }
def mailboxValuesRow : OpenClaim := { program := "ytlaihnbappfbfaagreatdoor", sum := "177c7fb7dfb89531f25240a9cd2c344f69e73dea93e84f9f23bcd6abf458bd7b", func := "replevin/replevinlaw38.MailboxValues", spec := "mailboxValues", inPlace := ["internal/bytealg.CountString", "internal/bytealg.IndexByteString", "internal/bytealg.IndexString"], unfollowed := true, recurses := true, named := ["internal/bytealg.MaxLen", "replevin/object.usages", "internal/strconv.uint64pow10", "math/bits.deBruijn32tab", "math/bits.deBruijn64tab", "replevin/sha256.initial", "replevin/sha256.constants"], plainKeys := false, apart := false, laid := [("math/bits.deBruijn32tab", laid_math_bits_deBruijn32tab), ("math/bits.deBruijn64tab", laid_math_bits_deBruijn64tab), ("internal/strconv.uint64pow10", laid_internal_strconv_uint64pow10), ("replevin/sha256.initial", laid_replevin_sha256_initial), ("replevin/sha256.constants", laid_replevin_sha256_constants), ("replevin/object.usages", laid_replevin_object_usages)] }
def MailboxValuesSaid : Prop := mailboxValuesRow.holds Tryz.pinned (OpenSpec.ofChange mailboxValuesSpec)

/-- ITS FALSE NEIGHBOUR: 'it returns false'. Refute it at one input. -/
def mailboxValuesWrong : ChangeSpec := { name := "mailboxValues", fn := fun _ => fun
  | [d1, d2] => { results := [.lit (.bool false)], args := [d1, d2] }
  | _ => none }
def MailboxValuesWrongFalsely : Prop := mailboxValuesRow.holds Tryz.pinned (OpenSpec.ofChange mailboxValuesWrong)

/-- 'replevinlaw38.MailboxDecodes': WHATEVER THE INPUT: true; the input reads as it did. -/
def mailboxDecodesSpec : ChangeSpec := { name := "mailboxDecodes", fn := fun _ => fun
  | [d] => { results := [.lit (.bool true)], args := [d] }
  | _ => none }
def mailboxDecodesRow : OpenClaim := { program := "ytlaihnbappfbfaagreatdoor", sum := "177c7fb7dfb89531f25240a9cd2c344f69e73dea93e84f9f23bcd6abf458bd7b", func := "replevin/replevinlaw38.MailboxDecodes", spec := "mailboxDecodes", inPlace := ["internal/bytealg.CountString", "internal/bytealg.IndexByteString", "internal/bytealg.IndexString"], unfollowed := true, recurses := true, named := ["internal/bytealg.MaxLen", "replevin/object.usages", "internal/strconv.uint64pow10", "math/bits.deBruijn32tab", "math/bits.deBruijn64tab", "replevin/sha256.initial", "replevin/sha256.constants"], plainKeys := false, apart := false, laid := [("math/bits.deBruijn32tab", laid_math_bits_deBruijn32tab), ("math/bits.deBruijn64tab", laid_math_bits_deBruijn64tab), ("internal/strconv.uint64pow10", laid_internal_strconv_uint64pow10), ("replevin/sha256.initial", laid_replevin_sha256_initial), ("replevin/sha256.constants", laid_replevin_sha256_constants), ("replevin/object.usages", laid_replevin_object_usages)] }
def MailboxDecodesSaid : Prop := mailboxDecodesRow.holds Tryz.pinned (OpenSpec.ofChange mailboxDecodesSpec)

/-- ITS FALSE NEIGHBOUR: 'it returns false'. Refute it at one input. -/
def mailboxDecodesWrong : ChangeSpec := { name := "mailboxDecodes", fn := fun _ => fun
  | [d] => { results := [.lit (.bool false)], args := [d] }
  | _ => none }
def MailboxDecodesWrongFalsely : Prop := mailboxDecodesRow.holds Tryz.pinned (OpenSpec.ofChange mailboxDecodesWrong)

/-- 'replevinlaw38.MailboxNumbers': WHATEVER THE INPUT: true; the input reads as it did. -/
def mailboxNumbersSpec : ChangeSpec := { name := "mailboxNumbers", fn := fun _ => fun
  | [d] => { results := [.lit (.bool true)], args := [d] }
  | _ => none }
def mailboxNumbersRow : OpenClaim := { program := "ytlaihnbappfbfaagreatdoor", sum := "177c7fb7dfb89531f25240a9cd2c344f69e73dea93e84f9f23bcd6abf458bd7b", func := "replevin/replevinlaw38.MailboxNumbers", spec := "mailboxNumbers", inPlace := ["internal/bytealg.CountString", "internal/bytealg.IndexByteString", "internal/bytealg.IndexString"], unfollowed := true, recurses := true, named := ["replevin/object.usages", "internal/strconv.uint64pow10", "math/bits.deBruijn32tab", "math/bits.deBruijn64tab", "replevin/sha256.initial", "replevin/sha256.constants", "internal/bytealg.MaxLen"], plainKeys := false, apart := false, laid := [("math/bits.deBruijn32tab", laid_math_bits_deBruijn32tab), ("math/bits.deBruijn64tab", laid_math_bits_deBruijn64tab), ("internal/strconv.uint64pow10", laid_internal_strconv_uint64pow10), ("replevin/sha256.initial", laid_replevin_sha256_initial), ("replevin/sha256.constants", laid_replevin_sha256_constants), ("replevin/object.usages", laid_replevin_object_usages)] }
def MailboxNumbersSaid : Prop := mailboxNumbersRow.holds Tryz.pinned (OpenSpec.ofChange mailboxNumbersSpec)

/-- ITS FALSE NEIGHBOUR: 'it returns false'. Refute it at one input. -/
def mailboxNumbersWrong : ChangeSpec := { name := "mailboxNumbers", fn := fun _ => fun
  | [d] => { results := [.lit (.bool false)], args := [d] }
  | _ => none }
def MailboxNumbersWrongFalsely : Prop := mailboxNumbersRow.holds Tryz.pinned (OpenSpec.ofChange mailboxNumbersWrong)

/-- 'replevinlaw38.MailboxFull': WHATEVER THE INPUT: true; the input reads as it did. -/
def mailboxFullSpec : ChangeSpec := { name := "mailboxFull", fn := fun _ => fun
  | [d1, d2] => { results := [.lit (.bool true)], args := [d1, d2] }
  | _ => none }
def mailboxFullRow : OpenClaim := { program := "ytlaihnbappfbfaagreatdoor", sum := "177c7fb7dfb89531f25240a9cd2c344f69e73dea93e84f9f23bcd6abf458bd7b", func := "replevin/replevinlaw38.MailboxFull", spec := "mailboxFull", inPlace := ["internal/bytealg.CountString", "internal/bytealg.IndexByteString", "internal/bytealg.IndexString"], unfollowed := true, recurses := true, named := ["replevin/object.usages", "internal/strconv.uint64pow10", "math/bits.deBruijn32tab", "math/bits.deBruijn64tab", "replevin/sha256.initial", "replevin/sha256.constants", "internal/bytealg.MaxLen"], plainKeys := false, apart := false, laid := [("math/bits.deBruijn32tab", laid_math_bits_deBruijn32tab), ("math/bits.deBruijn64tab", laid_math_bits_deBruijn64tab), ("internal/strconv.uint64pow10", laid_internal_strconv_uint64pow10), ("replevin/sha256.initial", laid_replevin_sha256_initial), ("replevin/sha256.constants", laid_replevin_sha256_constants), ("replevin/object.usages", laid_replevin_object_usages)] }
def MailboxFullSaid : Prop := mailboxFullRow.holds Tryz.pinned (OpenSpec.ofChange mailboxFullSpec)

/-- ITS FALSE NEIGHBOUR: 'it returns false'. Refute it at one input. -/
def mailboxFullWrong : ChangeSpec := { name := "mailboxFull", fn := fun _ => fun
  | [d1, d2] => { results := [.lit (.bool false)], args := [d1, d2] }
  | _ => none }
def MailboxFullWrongFalsely : Prop := mailboxFullRow.holds Tryz.pinned (OpenSpec.ofChange mailboxFullWrong)

/-- 'replevinlaw38.MailboxFresh': WHATEVER THE INPUT: true; the input reads as it did. -/
def mailboxFreshSpec : ChangeSpec := { name := "mailboxFresh", fn := fun _ => fun
  | [d] => { results := [.lit (.bool true)], args := [d] }
  | _ => none }
def mailboxFreshRow : OpenClaim := { program := "ytlaihnbappfbfaagreatdoor", sum := "177c7fb7dfb89531f25240a9cd2c344f69e73dea93e84f9f23bcd6abf458bd7b", func := "replevin/replevinlaw38.MailboxFresh", spec := "mailboxFresh", inPlace := ["internal/bytealg.CountString", "internal/bytealg.IndexByteString", "internal/bytealg.IndexString"], unfollowed := true, recurses := true, named := ["replevin/object.usages", "internal/strconv.uint64pow10", "math/bits.deBruijn32tab", "math/bits.deBruijn64tab", "replevin/sha256.initial", "replevin/sha256.constants", "internal/bytealg.MaxLen"], plainKeys := false, apart := false, laid := [("math/bits.deBruijn32tab", laid_math_bits_deBruijn32tab), ("math/bits.deBruijn64tab", laid_math_bits_deBruijn64tab), ("internal/strconv.uint64pow10", laid_internal_strconv_uint64pow10), ("replevin/sha256.initial", laid_replevin_sha256_initial), ("replevin/sha256.constants", laid_replevin_sha256_constants), ("replevin/object.usages", laid_replevin_object_usages)] }
def MailboxFreshSaid : Prop := mailboxFreshRow.holds Tryz.pinned (OpenSpec.ofChange mailboxFreshSpec)

/-- ITS FALSE NEIGHBOUR: 'it returns false'. Refute it at one input. -/
def mailboxFreshWrong : ChangeSpec := { name := "mailboxFresh", fn := fun _ => fun
  | [d] => { results := [.lit (.bool false)], args := [d] }
  | _ => none }
def MailboxFreshWrongFalsely : Prop := mailboxFreshRow.holds Tryz.pinned (OpenSpec.ofChange mailboxFreshWrong)

/-- 'replevinlaw38.MailboxOperations': WHATEVER THE INPUT: true; the input reads as it did. -/
def mailboxOperationsSpec : ChangeSpec := { name := "mailboxOperations", fn := fun _ => fun
  | [d] => { results := [.lit (.bool true)], args := [d] }
  | _ => none }
def mailboxOperationsRow : OpenClaim := { program := "ytlaihnbappfbfaagreatdoor", sum := "177c7fb7dfb89531f25240a9cd2c344f69e73dea93e84f9f23bcd6abf458bd7b", func := "replevin/replevinlaw38.MailboxOperations", spec := "mailboxOperations", inPlace := ["internal/bytealg.CountString", "internal/bytealg.IndexByteString", "internal/bytealg.IndexString"], unfollowed := true, recurses := true, named := ["replevin/object.usages", "internal/strconv.uint64pow10", "math/bits.deBruijn32tab", "math/bits.deBruijn64tab", "replevin/sha256.initial", "replevin/sha256.constants", "internal/bytealg.MaxLen"], plainKeys := false, apart := false, laid := [("math/bits.deBruijn32tab", laid_math_bits_deBruijn32tab), ("math/bits.deBruijn64tab", laid_math_bits_deBruijn64tab), ("internal/strconv.uint64pow10", laid_internal_strconv_uint64pow10), ("replevin/sha256.initial", laid_replevin_sha256_initial), ("replevin/sha256.constants", laid_replevin_sha256_constants), ("replevin/object.usages", laid_replevin_object_usages)] }
def MailboxOperationsSaid : Prop := mailboxOperationsRow.holds Tryz.pinned (OpenSpec.ofChange mailboxOperationsSpec)

/-- ITS FALSE NEIGHBOUR: 'it returns false'. Refute it at one input. -/
def mailboxOperationsWrong : ChangeSpec := { name := "mailboxOperations", fn := fun _ => fun
  | [d] => { results := [.lit (.bool false)], args := [d] }
  | _ => none }
def MailboxOperationsWrongFalsely : Prop := mailboxOperationsRow.holds Tryz.pinned (OpenSpec.ofChange mailboxOperationsWrong)

/-- 'replevinlaw38.MailboxErrors': WHATEVER THE INPUT: true; the input reads as it did. -/
def mailboxErrorsSpec : ChangeSpec := { name := "mailboxErrors", fn := fun _ => fun
  | [d1, d2, d3] => { results := [.lit (.bool true)], args := [d1, d2, d3] }
  | _ => none }
def mailboxErrorsRow : OpenClaim := { program := "ytlaihnbappfbfaagreatdoor", sum := "177c7fb7dfb89531f25240a9cd2c344f69e73dea93e84f9f23bcd6abf458bd7b", func := "replevin/replevinlaw38.MailboxErrors", spec := "mailboxErrors", inPlace := ["internal/bytealg.CountString", "internal/bytealg.IndexByteString", "internal/bytealg.IndexString"], unfollowed := true, recurses := true, named := ["replevin/object.usages", "internal/strconv.uint64pow10", "math/bits.deBruijn32tab", "math/bits.deBruijn64tab", "replevin/sha256.initial", "replevin/sha256.constants", "internal/bytealg.MaxLen"], plainKeys := false, apart := false, laid := [("math/bits.deBruijn32tab", laid_math_bits_deBruijn32tab), ("math/bits.deBruijn64tab", laid_math_bits_deBruijn64tab), ("internal/strconv.uint64pow10", laid_internal_strconv_uint64pow10), ("replevin/sha256.initial", laid_replevin_sha256_initial), ("replevin/sha256.constants", laid_replevin_sha256_constants), ("replevin/object.usages", laid_replevin_object_usages)] }
def MailboxErrorsSaid : Prop := mailboxErrorsRow.holds Tryz.pinned (OpenSpec.ofChange mailboxErrorsSpec)

/-- ITS FALSE NEIGHBOUR: 'it returns false'. Refute it at one input. -/
def mailboxErrorsWrong : ChangeSpec := { name := "mailboxErrors", fn := fun _ => fun
  | [d1, d2, d3] => { results := [.lit (.bool false)], args := [d1, d2, d3] }
  | _ => none }
def MailboxErrorsWrongFalsely : Prop := mailboxErrorsRow.holds Tryz.pinned (OpenSpec.ofChange mailboxErrorsWrong)

/-- 'replevinlaw38.MailboxLocal': WHATEVER THE INPUT: true; the input reads as it did. -/
def mailboxLocalSpec : ChangeSpec := { name := "mailboxLocal", fn := fun _ => fun
  | [d1, d2] => { results := [.lit (.bool true)], args := [d1, d2] }
  | _ => none }
def mailboxLocalRow : OpenClaim := { program := "ytlaihnbappfbfaagreatdoor", sum := "177c7fb7dfb89531f25240a9cd2c344f69e73dea93e84f9f23bcd6abf458bd7b", func := "replevin/replevinlaw38.MailboxLocal", spec := "mailboxLocal", inPlace := ["internal/bytealg.CountString", "internal/bytealg.IndexByteString", "internal/bytealg.IndexString"], unfollowed := true, recurses := true, named := ["replevin/object.usages", "internal/strconv.uint64pow10", "math/bits.deBruijn32tab", "math/bits.deBruijn64tab", "replevin/sha256.initial", "replevin/sha256.constants", "internal/bytealg.MaxLen"], plainKeys := false, apart := false, laid := [("math/bits.deBruijn32tab", laid_math_bits_deBruijn32tab), ("math/bits.deBruijn64tab", laid_math_bits_deBruijn64tab), ("internal/strconv.uint64pow10", laid_internal_strconv_uint64pow10), ("replevin/sha256.initial", laid_replevin_sha256_initial), ("replevin/sha256.constants", laid_replevin_sha256_constants), ("replevin/object.usages", laid_replevin_object_usages)] }
def MailboxLocalSaid : Prop := mailboxLocalRow.holds Tryz.pinned (OpenSpec.ofChange mailboxLocalSpec)

/-- ITS FALSE NEIGHBOUR: 'it returns false'. Refute it at one input. -/
def mailboxLocalWrong : ChangeSpec := { name := "mailboxLocal", fn := fun _ => fun
  | [d1, d2] => { results := [.lit (.bool false)], args := [d1, d2] }
  | _ => none }
def MailboxLocalWrongFalsely : Prop := mailboxLocalRow.holds Tryz.pinned (OpenSpec.ofChange mailboxLocalWrong)

/- THE SECOND FORM. 'bulk': how many values and letters a reading holds, each counted each time it is reached (what is shared counts as often as it is met; a slice's spare places count too). A statement '..UptoSaid' is the law's where the arguments, and the package variables that the reading takes, are together of bulk at most 1048576: NARROWER than '..Said'. Prove '..Said' where nothing that the law and all that it calls make is longer than what came in: it says more and counts as full. Else prove '..UptoSaid'. A law counts once. -/
mutual
def uptoBulk {H : Type} : DataW H → Nat
  | .lit (.string bytes) => bytes.length + 1
  | .lit _ => 1
  | .nil => 1
  | .ptr d => uptoBulk d + 1
  | .slice elems spare => uptoBulkAll elems + uptoBulkAll spare + 1
  | .agg parts => uptoBulkAll parts + 1
  | .iface _ d => uptoBulk d + 1
  | .map entries => uptoBulkEntries entries + 1
  | .held _ => 1
def uptoBulkAll {H : Type} : List (DataW H) → Nat
  | [] => 0
  | d :: r => uptoBulk d + uptoBulkAll r
def uptoBulkEntries {H : Type} : List (Lit × DataW H) → Nat
  | [] => 0
  | x :: r => uptoBulkEntry x + uptoBulkEntries r
def uptoBulkEntry {H : Type} : Lit × DataW H → Nat
  | (.string bytes, d) => bytes.length + uptoBulk d + 1
  | (_, d) => uptoBulk d + 1
 end
def uptoSmall : (H : Type) → List (DataW H) → Bool := fun _ ds => decide (uptoBulkAll ds ≤ 1048576)
def OpenSpec.upto (s : _root_.Go.ChangeSpec) : _root_.Go.OpenSpec := { _root_.Go.OpenSpec.ofChange s with cond := some uptoSmall }

/-- 'replevinlaw38.MailboxAddresses', WHERE WHAT IT READS IS OF BULK AT MOST 1048576: true; the input reads as it did. -/
def mailboxAddressesUptoRow : OpenClaim := { program := "ytlaihnbappfbfaagreatdoor", sum := "177c7fb7dfb89531f25240a9cd2c344f69e73dea93e84f9f23bcd6abf458bd7b", func := "replevin/replevinlaw38.MailboxAddresses", spec := "mailboxAddresses", inPlace := ["internal/bytealg.CountString", "internal/bytealg.IndexByteString", "internal/bytealg.IndexString"], unfollowed := true, recurses := true, named := ["internal/bytealg.MaxLen", "replevin/object.usages", "internal/strconv.uint64pow10", "math/bits.deBruijn32tab", "math/bits.deBruijn64tab", "replevin/sha256.initial", "replevin/sha256.constants"], plainKeys := false, apart := false, laid := [("math/bits.deBruijn32tab", laid_math_bits_deBruijn32tab), ("math/bits.deBruijn64tab", laid_math_bits_deBruijn64tab), ("internal/strconv.uint64pow10", laid_internal_strconv_uint64pow10), ("replevin/sha256.initial", laid_replevin_sha256_initial), ("replevin/sha256.constants", laid_replevin_sha256_constants), ("replevin/object.usages", laid_replevin_object_usages)], narrowed := true }
def MailboxAddressesUptoSaid : Prop := mailboxAddressesUptoRow.holds Tryz.pinned (OpenSpec.upto mailboxAddressesSpec)

/-- 'replevinlaw38.MailboxJoins', WHERE WHAT IT READS IS OF BULK AT MOST 1048576: true; the input reads as it did. -/
def mailboxJoinsUptoRow : OpenClaim := { program := "ytlaihnbappfbfaagreatdoor", sum := "177c7fb7dfb89531f25240a9cd2c344f69e73dea93e84f9f23bcd6abf458bd7b", func := "replevin/replevinlaw38.MailboxJoins", spec := "mailboxJoins", inPlace := ["internal/bytealg.CountString", "internal/bytealg.IndexByteString", "internal/bytealg.IndexString"], unfollowed := true, recurses := true, named := ["replevin/object.usages", "internal/strconv.uint64pow10", "math/bits.deBruijn32tab", "math/bits.deBruijn64tab", "replevin/sha256.initial", "replevin/sha256.constants", "internal/bytealg.MaxLen"], plainKeys := false, apart := false, laid := [("math/bits.deBruijn32tab", laid_math_bits_deBruijn32tab), ("math/bits.deBruijn64tab", laid_math_bits_deBruijn64tab), ("internal/strconv.uint64pow10", laid_internal_strconv_uint64pow10), ("replevin/sha256.initial", laid_replevin_sha256_initial), ("replevin/sha256.constants", laid_replevin_sha256_constants), ("replevin/object.usages", laid_replevin_object_usages)], narrowed := true }
def MailboxJoinsUptoSaid : Prop := mailboxJoinsUptoRow.holds Tryz.pinned (OpenSpec.upto mailboxJoinsSpec)

/-- 'replevinlaw38.MailboxValues', WHERE WHAT IT READS IS OF BULK AT MOST 1048576: true; the input reads as it did. -/
def mailboxValuesUptoRow : OpenClaim := { program := "ytlaihnbappfbfaagreatdoor", sum := "177c7fb7dfb89531f25240a9cd2c344f69e73dea93e84f9f23bcd6abf458bd7b", func := "replevin/replevinlaw38.MailboxValues", spec := "mailboxValues", inPlace := ["internal/bytealg.CountString", "internal/bytealg.IndexByteString", "internal/bytealg.IndexString"], unfollowed := true, recurses := true, named := ["internal/bytealg.MaxLen", "replevin/object.usages", "internal/strconv.uint64pow10", "math/bits.deBruijn32tab", "math/bits.deBruijn64tab", "replevin/sha256.initial", "replevin/sha256.constants"], plainKeys := false, apart := false, laid := [("math/bits.deBruijn32tab", laid_math_bits_deBruijn32tab), ("math/bits.deBruijn64tab", laid_math_bits_deBruijn64tab), ("internal/strconv.uint64pow10", laid_internal_strconv_uint64pow10), ("replevin/sha256.initial", laid_replevin_sha256_initial), ("replevin/sha256.constants", laid_replevin_sha256_constants), ("replevin/object.usages", laid_replevin_object_usages)], narrowed := true }
def MailboxValuesUptoSaid : Prop := mailboxValuesUptoRow.holds Tryz.pinned (OpenSpec.upto mailboxValuesSpec)

/-- 'replevinlaw38.MailboxDecodes', WHERE WHAT IT READS IS OF BULK AT MOST 1048576: true; the input reads as it did. -/
def mailboxDecodesUptoRow : OpenClaim := { program := "ytlaihnbappfbfaagreatdoor", sum := "177c7fb7dfb89531f25240a9cd2c344f69e73dea93e84f9f23bcd6abf458bd7b", func := "replevin/replevinlaw38.MailboxDecodes", spec := "mailboxDecodes", inPlace := ["internal/bytealg.CountString", "internal/bytealg.IndexByteString", "internal/bytealg.IndexString"], unfollowed := true, recurses := true, named := ["internal/bytealg.MaxLen", "replevin/object.usages", "internal/strconv.uint64pow10", "math/bits.deBruijn32tab", "math/bits.deBruijn64tab", "replevin/sha256.initial", "replevin/sha256.constants"], plainKeys := false, apart := false, laid := [("math/bits.deBruijn32tab", laid_math_bits_deBruijn32tab), ("math/bits.deBruijn64tab", laid_math_bits_deBruijn64tab), ("internal/strconv.uint64pow10", laid_internal_strconv_uint64pow10), ("replevin/sha256.initial", laid_replevin_sha256_initial), ("replevin/sha256.constants", laid_replevin_sha256_constants), ("replevin/object.usages", laid_replevin_object_usages)], narrowed := true }
def MailboxDecodesUptoSaid : Prop := mailboxDecodesUptoRow.holds Tryz.pinned (OpenSpec.upto mailboxDecodesSpec)

/-- 'replevinlaw38.MailboxNumbers', WHERE WHAT IT READS IS OF BULK AT MOST 1048576: true; the input reads as it did. -/
def mailboxNumbersUptoRow : OpenClaim := { program := "ytlaihnbappfbfaagreatdoor", sum := "177c7fb7dfb89531f25240a9cd2c344f69e73dea93e84f9f23bcd6abf458bd7b", func := "replevin/replevinlaw38.MailboxNumbers", spec := "mailboxNumbers", inPlace := ["internal/bytealg.CountString", "internal/bytealg.IndexByteString", "internal/bytealg.IndexString"], unfollowed := true, recurses := true, named := ["replevin/object.usages", "internal/strconv.uint64pow10", "math/bits.deBruijn32tab", "math/bits.deBruijn64tab", "replevin/sha256.initial", "replevin/sha256.constants", "internal/bytealg.MaxLen"], plainKeys := false, apart := false, laid := [("math/bits.deBruijn32tab", laid_math_bits_deBruijn32tab), ("math/bits.deBruijn64tab", laid_math_bits_deBruijn64tab), ("internal/strconv.uint64pow10", laid_internal_strconv_uint64pow10), ("replevin/sha256.initial", laid_replevin_sha256_initial), ("replevin/sha256.constants", laid_replevin_sha256_constants), ("replevin/object.usages", laid_replevin_object_usages)], narrowed := true }
def MailboxNumbersUptoSaid : Prop := mailboxNumbersUptoRow.holds Tryz.pinned (OpenSpec.upto mailboxNumbersSpec)

/-- 'replevinlaw38.MailboxFull', WHERE WHAT IT READS IS OF BULK AT MOST 1048576: true; the input reads as it did. -/
def mailboxFullUptoRow : OpenClaim := { program := "ytlaihnbappfbfaagreatdoor", sum := "177c7fb7dfb89531f25240a9cd2c344f69e73dea93e84f9f23bcd6abf458bd7b", func := "replevin/replevinlaw38.MailboxFull", spec := "mailboxFull", inPlace := ["internal/bytealg.CountString", "internal/bytealg.IndexByteString", "internal/bytealg.IndexString"], unfollowed := true, recurses := true, named := ["replevin/object.usages", "internal/strconv.uint64pow10", "math/bits.deBruijn32tab", "math/bits.deBruijn64tab", "replevin/sha256.initial", "replevin/sha256.constants", "internal/bytealg.MaxLen"], plainKeys := false, apart := false, laid := [("math/bits.deBruijn32tab", laid_math_bits_deBruijn32tab), ("math/bits.deBruijn64tab", laid_math_bits_deBruijn64tab), ("internal/strconv.uint64pow10", laid_internal_strconv_uint64pow10), ("replevin/sha256.initial", laid_replevin_sha256_initial), ("replevin/sha256.constants", laid_replevin_sha256_constants), ("replevin/object.usages", laid_replevin_object_usages)], narrowed := true }
def MailboxFullUptoSaid : Prop := mailboxFullUptoRow.holds Tryz.pinned (OpenSpec.upto mailboxFullSpec)

/-- 'replevinlaw38.MailboxFresh', WHERE WHAT IT READS IS OF BULK AT MOST 1048576: true; the input reads as it did. -/
def mailboxFreshUptoRow : OpenClaim := { program := "ytlaihnbappfbfaagreatdoor", sum := "177c7fb7dfb89531f25240a9cd2c344f69e73dea93e84f9f23bcd6abf458bd7b", func := "replevin/replevinlaw38.MailboxFresh", spec := "mailboxFresh", inPlace := ["internal/bytealg.CountString", "internal/bytealg.IndexByteString", "internal/bytealg.IndexString"], unfollowed := true, recurses := true, named := ["replevin/object.usages", "internal/strconv.uint64pow10", "math/bits.deBruijn32tab", "math/bits.deBruijn64tab", "replevin/sha256.initial", "replevin/sha256.constants", "internal/bytealg.MaxLen"], plainKeys := false, apart := false, laid := [("math/bits.deBruijn32tab", laid_math_bits_deBruijn32tab), ("math/bits.deBruijn64tab", laid_math_bits_deBruijn64tab), ("internal/strconv.uint64pow10", laid_internal_strconv_uint64pow10), ("replevin/sha256.initial", laid_replevin_sha256_initial), ("replevin/sha256.constants", laid_replevin_sha256_constants), ("replevin/object.usages", laid_replevin_object_usages)], narrowed := true }
def MailboxFreshUptoSaid : Prop := mailboxFreshUptoRow.holds Tryz.pinned (OpenSpec.upto mailboxFreshSpec)

/-- 'replevinlaw38.MailboxOperations', WHERE WHAT IT READS IS OF BULK AT MOST 1048576: true; the input reads as it did. -/
def mailboxOperationsUptoRow : OpenClaim := { program := "ytlaihnbappfbfaagreatdoor", sum := "177c7fb7dfb89531f25240a9cd2c344f69e73dea93e84f9f23bcd6abf458bd7b", func := "replevin/replevinlaw38.MailboxOperations", spec := "mailboxOperations", inPlace := ["internal/bytealg.CountString", "internal/bytealg.IndexByteString", "internal/bytealg.IndexString"], unfollowed := true, recurses := true, named := ["replevin/object.usages", "internal/strconv.uint64pow10", "math/bits.deBruijn32tab", "math/bits.deBruijn64tab", "replevin/sha256.initial", "replevin/sha256.constants", "internal/bytealg.MaxLen"], plainKeys := false, apart := false, laid := [("math/bits.deBruijn32tab", laid_math_bits_deBruijn32tab), ("math/bits.deBruijn64tab", laid_math_bits_deBruijn64tab), ("internal/strconv.uint64pow10", laid_internal_strconv_uint64pow10), ("replevin/sha256.initial", laid_replevin_sha256_initial), ("replevin/sha256.constants", laid_replevin_sha256_constants), ("replevin/object.usages", laid_replevin_object_usages)], narrowed := true }
def MailboxOperationsUptoSaid : Prop := mailboxOperationsUptoRow.holds Tryz.pinned (OpenSpec.upto mailboxOperationsSpec)

/-- 'replevinlaw38.MailboxErrors', WHERE WHAT IT READS IS OF BULK AT MOST 1048576: true; the input reads as it did. -/
def mailboxErrorsUptoRow : OpenClaim := { program := "ytlaihnbappfbfaagreatdoor", sum := "177c7fb7dfb89531f25240a9cd2c344f69e73dea93e84f9f23bcd6abf458bd7b", func := "replevin/replevinlaw38.MailboxErrors", spec := "mailboxErrors", inPlace := ["internal/bytealg.CountString", "internal/bytealg.IndexByteString", "internal/bytealg.IndexString"], unfollowed := true, recurses := true, named := ["replevin/object.usages", "internal/strconv.uint64pow10", "math/bits.deBruijn32tab", "math/bits.deBruijn64tab", "replevin/sha256.initial", "replevin/sha256.constants", "internal/bytealg.MaxLen"], plainKeys := false, apart := false, laid := [("math/bits.deBruijn32tab", laid_math_bits_deBruijn32tab), ("math/bits.deBruijn64tab", laid_math_bits_deBruijn64tab), ("internal/strconv.uint64pow10", laid_internal_strconv_uint64pow10), ("replevin/sha256.initial", laid_replevin_sha256_initial), ("replevin/sha256.constants", laid_replevin_sha256_constants), ("replevin/object.usages", laid_replevin_object_usages)], narrowed := true }
def MailboxErrorsUptoSaid : Prop := mailboxErrorsUptoRow.holds Tryz.pinned (OpenSpec.upto mailboxErrorsSpec)

/-- 'replevinlaw38.MailboxLocal', WHERE WHAT IT READS IS OF BULK AT MOST 1048576: true; the input reads as it did. -/
def mailboxLocalUptoRow : OpenClaim := { program := "ytlaihnbappfbfaagreatdoor", sum := "177c7fb7dfb89531f25240a9cd2c344f69e73dea93e84f9f23bcd6abf458bd7b", func := "replevin/replevinlaw38.MailboxLocal", spec := "mailboxLocal", inPlace := ["internal/bytealg.CountString", "internal/bytealg.IndexByteString", "internal/bytealg.IndexString"], unfollowed := true, recurses := true, named := ["replevin/object.usages", "internal/strconv.uint64pow10", "math/bits.deBruijn32tab", "math/bits.deBruijn64tab", "replevin/sha256.initial", "replevin/sha256.constants", "internal/bytealg.MaxLen"], plainKeys := false, apart := false, laid := [("math/bits.deBruijn32tab", laid_math_bits_deBruijn32tab), ("math/bits.deBruijn64tab", laid_math_bits_deBruijn64tab), ("internal/strconv.uint64pow10", laid_internal_strconv_uint64pow10), ("replevin/sha256.initial", laid_replevin_sha256_initial), ("replevin/sha256.constants", laid_replevin_sha256_constants), ("replevin/object.usages", laid_replevin_object_usages)], narrowed := true }
def MailboxLocalUptoSaid : Prop := mailboxLocalUptoRow.holds Tryz.pinned (OpenSpec.upto mailboxLocalSpec)

end Rows
end Go.Proofs.YtlaihnbappfbfaaGreatDoor
