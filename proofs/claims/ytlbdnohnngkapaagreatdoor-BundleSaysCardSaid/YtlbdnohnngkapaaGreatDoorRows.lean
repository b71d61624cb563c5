/-
  NARROWER THAN 'FOR EVERY INPUT', by the rows' own cells (each row's printed sentence says how): RewriteSays: loops, laid · MimeSays: loops, laid · BundleMore: loops, laid · BundleWhere: loops, laid · BundleGoals: loops, laid · RewriteOnly: loops, laid · RewriteNone: loops, laid · BundleSays: loops, laid · MimeHow: loops, laid · MimeBack: loops, laid · MimeBorders: laid · MimeWraps: laid.
  DERIVED. THE GIVEN ROWS OF THIS SEAT. 12 by the template 'for every input the law returns true; each argument reads behind the call as it read before'; 0 by the template 'total and deterministic' (their statements: YtlbdnohnngkapaaGreatDoorTotals.lean).
  GIVEN WITH THE SEED: the statements are not yours to turn. If you find one false, say at which input.
  Laid BY PROGRAM, IN A SANDBOX (cutbox-rows.mjs): the forced cells as the released guide's own fill.sh prints them over the translation 19b1bf25301dc269… (all of the seat's roots in one cut). By AI agents, Wed Nov 11 2026. No macro, syntax, notation, axiom, sorry.
-/
import Derived.Test.YtlbdnohnngkapaaGreatDoorChecked
import GoSem.PinnedTables
import GoSem.Claim
import GoSem.ClaimJoined
import GoSem.ClaimMapViews
import Derived.JoinedTies
import Derived.KernelRfl
namespace Go.Proofs.YtlbdnohnngkapaaGreatDoor
/- THE CELL 'sum', in the pinned program and in every row, IS THE sha256 OF THE DUMP (.gsa) THAT YtlbdnohnngkapaaGreatDoorProg.lean LOADS. Nothing in Lean hashes anything: it is a label: what it is worth is what the hold of that sum in a sandbox is worth. -/
noncomputable def Tryz.pinned : Pinned := { name := "ytlbdnohnngkapaagreatdoor", sum := "19b1bf25301dc269c3eb9dc14dffe054c8ded0ae255aa6335e61c2482fd0604c", checked := Tryz.checked }
namespace Rows
def none {H : Type} : Left H := { results := [], args := [] }

/- WHAT THE LISTED PACKAGE-LEVEL VARIABLES READ AS WHEN THE CALL BEGINS. Each datum BY PROGRAM (the guide's laid-datum.mjs) off the statement by which the dump's own 'gosem.cut.vars' lays the variable. In a bare row this is a premise. The card (YtlbdnohnngkapaaGreatDoorCards.lean) ties it to the program's text. -/
def laid_unicode_utf8_acceptRanges {H : Type} : DataW H := .agg [.agg [.lit (.int .u8 128), .lit (.int .u8 191)], .agg [.lit (.int .u8 160), .lit (.int .u8 191)], .agg [.lit (.int .u8 128), .lit (.int .u8 159)], .agg [.lit (.int .u8 144), .lit (.int .u8 191)], .agg [.lit (.int .u8 128), .lit (.int .u8 143)], .agg [.lit (.int .u8 0), .lit (.int .u8 0)], .agg [.lit (.int .u8 0), .lit (.int .u8 0)], .agg [.lit (.int .u8 0), .lit (.int .u8 0)], .agg [.lit (.int .u8 0), .lit (.int .u8 0)], .agg [.lit (.int .u8 0), .lit (.int .u8 0)], .agg [.lit (.int .u8 0), .lit (.int .u8 0)], .agg [.lit (.int .u8 0), .lit (.int .u8 0)], .agg [.lit (.int .u8 0), .lit (.int .u8 0)], .agg [.lit (.int .u8 0), .lit (.int .u8 0)], .agg [.lit (.int .u8 0), .lit (.int .u8 0)], .agg [.lit (.int .u8 0), .lit (.int .u8 0)]]
/-- One of Go's own tables, pinned by name: the form's constant. -/
def laid_unicode_utf8_first : DataW Unit := Go.Pinned.utf8First
def laid_math_bits_deBruijn32tab {H : Type} : DataW H := .agg [.lit (.int .u8 0), .lit (.int .u8 1), .lit (.int .u8 28), .lit (.int .u8 2), .lit (.int .u8 29), .lit (.int .u8 14), .lit (.int .u8 24), .lit (.int .u8 3), .lit (.int .u8 30), .lit (.int .u8 22), .lit (.int .u8 20), .lit (.int .u8 15), .lit (.int .u8 25), .lit (.int .u8 17), .lit (.int .u8 4), .lit (.int .u8 8), .lit (.int .u8 31), .lit (.int .u8 27), .lit (.int .u8 13), .lit (.int .u8 23), .lit (.int .u8 21), .lit (.int .u8 19), .lit (.int .u8 16), .lit (.int .u8 7), .lit (.int .u8 26), .lit (.int .u8 12), .lit (.int .u8 18), .lit (.int .u8 6), .lit (.int .u8 11), .lit (.int .u8 5), .lit (.int .u8 10), .lit (.int .u8 9)]
def laid_math_bits_deBruijn64tab {H : Type} : DataW H := .agg [.lit (.int .u8 0), .lit (.int .u8 1), .lit (.int .u8 56), .lit (.int .u8 2), .lit (.int .u8 57), .lit (.int .u8 49), .lit (.int .u8 28), .lit (.int .u8 3), .lit (.int .u8 61), .lit (.int .u8 58), .lit (.int .u8 42), .lit (.int .u8 50), .lit (.int .u8 38), .lit (.int .u8 29), .lit (.int .u8 17), .lit (.int .u8 4), .lit (.int .u8 62), .lit (.int .u8 47), .lit (.int .u8 59), .lit (.int .u8 36), .lit (.int .u8 45), .lit (.int .u8 43), .lit (.int .u8 51), .lit (.int .u8 22), .lit (.int .u8 53), .lit (.int .u8 39), .lit (.int .u8 33), .lit (.int .u8 30), .lit (.int .u8 24), .lit (.int .u8 18), .lit (.int .u8 12), .lit (.int .u8 5), .lit (.int .u8 63), .lit (.int .u8 55), .lit (.int .u8 48), .lit (.int .u8 27), .lit (.int .u8 60), .lit (.int .u8 41), .lit (.int .u8 37), .lit (.int .u8 16), .lit (.int .u8 46), .lit (.int .u8 35), .lit (.int .u8 44), .lit (.int .u8 21), .lit (.int .u8 52), .lit (.int .u8 32), .lit (.int .u8 23), .lit (.int .u8 11), .lit (.int .u8 54), .lit (.int .u8 26), .lit (.int .u8 40), .lit (.int .u8 15), .lit (.int .u8 34), .lit (.int .u8 20), .lit (.int .u8 31), .lit (.int .u8 10), .lit (.int .u8 25), .lit (.int .u8 14), .lit (.int .u8 19), .lit (.int .u8 9), .lit (.int .u8 13), .lit (.int .u8 8), .lit (.int .u8 7), .lit (.int .u8 6)]
def laid_internal_strconv_uint64pow10 {H : Type} : DataW H := .agg [.lit (.int .u64 1), .lit (.int .u64 10), .lit (.int .u64 100), .lit (.int .u64 1000), .lit (.int .u64 10000), .lit (.int .u64 100000), .lit (.int .u64 1000000), .lit (.int .u64 10000000), .lit (.int .u64 100000000), .lit (.int .u64 1000000000), .lit (.int .u64 10000000000), .lit (.int .u64 100000000000), .lit (.int .u64 1000000000000), .lit (.int .u64 10000000000000), .lit (.int .u64 100000000000000), .lit (.int .u64 1000000000000000), .lit (.int .u64 10000000000000000), .lit (.int .u64 100000000000000000), .lit (.int .u64 1000000000000000000), .lit (.int .u64 10000000000000000000)]
def laid_strconv_ErrRange {H : Type} : DataW H := .iface "*errors.errorString" (.ptr (.agg [.lit (.string [118, 97, 108, 117, 101, 32, 111, 117, 116, 32, 111, 102, 32, 114, 97, 110, 103, 101])]))
def laid_strconv_ErrSyntax {H : Type} : DataW H := .iface "*errors.errorString" (.ptr (.agg [.lit (.string [105, 110, 118, 97, 108, 105, 100, 32, 115, 121, 110, 116, 97, 120])]))
def laid_unicode_asciiFold {H : Type} : DataW H := .agg [.lit (.int .u16 0), .lit (.int .u16 1), .lit (.int .u16 2), .lit (.int .u16 3), .lit (.int .u16 4), .lit (.int .u16 5), .lit (.int .u16 6), .lit (.int .u16 7), .lit (.int .u16 8), .lit (.int .u16 9), .lit (.int .u16 10), .lit (.int .u16 11), .lit (.int .u16 12), .lit (.int .u16 13), .lit (.int .u16 14), .lit (.int .u16 15), .lit (.int .u16 16), .lit (.int .u16 17), .lit (.int .u16 18), .lit (.int .u16 19), .lit (.int .u16 20), .lit (.int .u16 21), .lit (.int .u16 22), .lit (.int .u16 23), .lit (.int .u16 24), .lit (.int .u16 25), .lit (.int .u16 26), .lit (.int .u16 27), .lit (.int .u16 28), .lit (.int .u16 29), .lit (.int .u16 30), .lit (.int .u16 31), .lit (.int .u16 32), .lit (.int .u16 33), .lit (.int .u16 34), .lit (.int .u16 35), .lit (.int .u16 36), .lit (.int .u16 37), .lit (.int .u16 38), .lit (.int .u16 39), .lit (.int .u16 40), .lit (.int .u16 41), .lit (.int .u16 42), .lit (.int .u16 43), .lit (.int .u16 44), .lit (.int .u16 45), .lit (.int .u16 46), .lit (.int .u16 47), .lit (.int .u16 48), .lit (.int .u16 49), .lit (.int .u16 50), .lit (.int .u16 51), .lit (.int .u16 52), .lit (.int .u16 53), .lit (.int .u16 54), .lit (.int .u16 55), .lit (.int .u16 56), .lit (.int .u16 57), .lit (.int .u16 58), .lit (.int .u16 59), .lit (.int .u16 60), .lit (.int .u16 61), .lit (.int .u16 62), .lit (.int .u16 63), .lit (.int .u16 64), .lit (.int .u16 97), .lit (.int .u16 98), .lit (.int .u16 99), .lit (.int .u16 100), .lit (.int .u16 101), .lit (.int .u16 102), .lit (.int .u16 103), .lit (.int .u16 104), .lit (.int .u16 105), .lit (.int .u16 106), .lit (.int .u16 107), .lit (.int .u16 108), .lit (.int .u16 109), .lit (.int .u16 110), .lit (.int .u16 111), .lit (.int .u16 112), .lit (.int .u16 113), .lit (.int .u16 114), .lit (.int .u16 115), .lit (.int .u16 116), .lit (.int .u16 117), .lit (.int .u16 118), .lit (.int .u16 119), .lit (.int .u16 120), .lit (.int .u16 121), .lit (.int .u16 122), .lit (.int .u16 91), .lit (.int .u16 92), .lit (.int .u16 93), .lit (.int .u16 94), .lit (.int .u16 95), .lit (.int .u16 96), .lit (.int .u16 65), .lit (.int .u16 66), .lit (.int .u16 67), .lit (.int .u16 68), .lit (.int .u16 69), .lit (.int .u16 70), .lit (.int .u16 71), .lit (.int .u16 72), .lit (.int .u16 73), .lit (.int .u16 74), .lit (.int .u16 8490), .lit (.int .u16 76), .lit (.int .u16 77), .lit (.int .u16 78), .lit (.int .u16 79), .lit (.int .u16 80), .lit (.int .u16 81), .lit (.int .u16 82), .lit (.int .u16 383), .lit (.int .u16 84), .lit (.int .u16 85), .lit (.int .u16 86), .lit (.int .u16 87), .lit (.int .u16 88), .lit (.int .u16 89), .lit (.int .u16 90), .lit (.int .u16 123), .lit (.int .u16 124), .lit (.int .u16 125), .lit (.int .u16 126), .lit (.int .u16 127)]
def laid_unicode_caseOrbit {H : Type} : DataW H := .slice [.agg [.lit (.int .u16 75), .lit (.int .u16 107)], .agg [.lit (.int .u16 83), .lit (.int .u16 115)], .agg [.lit (.int .u16 107), .lit (.int .u16 8490)], .agg [.lit (.int .u16 115), .lit (.int .u16 383)], .agg [.lit (.int .u16 181), .lit (.int .u16 924)], .agg [.lit (.int .u16 197), .lit (.int .u16 229)], .agg [.lit (.int .u16 223), .lit (.int .u16 7838)], .agg [.lit (.int .u16 229), .lit (.int .u16 8491)], .agg [.lit (.int .u16 304), .lit (.int .u16 304)], .agg [.lit (.int .u16 305), .lit (.int .u16 305)], .agg [.lit (.int .u16 383), .lit (.int .u16 83)], .agg [.lit (.int .u16 452), .lit (.int .u16 453)], .agg [.lit (.int .u16 453), .lit (.int .u16 454)], .agg [.lit (.int .u16 454), .lit (.int .u16 452)], .agg [.lit (.int .u16 455), .lit (.int .u16 456)], .agg [.lit (.int .u16 456), .lit (.int .u16 457)], .agg [.lit (.int .u16 457), .lit (.int .u16 455)], .agg [.lit (.int .u16 458), .lit (.int .u16 459)], .agg [.lit (.int .u16 459), .lit (.int .u16 460)], .agg [.lit (.int .u16 460), .lit (.int .u16 458)], .agg [.lit (.int .u16 497), .lit (.int .u16 498)], .agg [.lit (.int .u16 498), .lit (.int .u16 499)], .agg [.lit (.int .u16 499), .lit (.int .u16 497)], .agg [.lit (.int .u16 837), .lit (.int .u16 921)], .agg [.lit (.int .u16 912), .lit (.int .u16 8147)], .agg [.lit (.int .u16 914), .lit (.int .u16 946)], .agg [.lit (.int .u16 917), .lit (.int .u16 949)], .agg [.lit (.int .u16 920), .lit (.int .u16 952)], .agg [.lit (.int .u16 921), .lit (.int .u16 953)], .agg [.lit (.int .u16 922), .lit (.int .u16 954)], .agg [.lit (.int .u16 924), .lit (.int .u16 956)], .agg [.lit (.int .u16 928), .lit (.int .u16 960)], .agg [.lit (.int .u16 929), .lit (.int .u16 961)], .agg [.lit (.int .u16 931), .lit (.int .u16 962)], .agg [.lit (.int .u16 934), .lit (.int .u16 966)], .agg [.lit (.int .u16 937), .lit (.int .u16 969)], .agg [.lit (.int .u16 944), .lit (.int .u16 8163)], .agg [.lit (.int .u16 946), .lit (.int .u16 976)], .agg [.lit (.int .u16 949), .lit (.int .u16 1013)], .agg [.lit (.int .u16 952), .lit (.int .u16 977)], .agg [.lit (.int .u16 953), .lit (.int .u16 8126)], .agg [.lit (.int .u16 954), .lit (.int .u16 1008)], .agg [.lit (.int .u16 956), .lit (.int .u16 181)], .agg [.lit (.int .u16 960), .lit (.int .u16 982)], .agg [.lit (.int .u16 961), .lit (.int .u16 1009)], .agg [.lit (.int .u16 962), .lit (.int .u16 963)], .agg [.lit (.int .u16 963), .lit (.int .u16 931)], .agg [.lit (.int .u16 966), .lit (.int .u16 981)], .agg [.lit (.int .u16 969), .lit (.int .u16 8486)], .agg [.lit (.int .u16 976), .lit (.int .u16 914)], .agg [.lit (.int .u16 977), .lit (.int .u16 1012)], .agg [.lit (.int .u16 981), .lit (.int .u16 934)], .agg [.lit (.int .u16 982), .lit (.int .u16 928)], .agg [.lit (.int .u16 1008), .lit (.int .u16 922)], .agg [.lit (.int .u16 1009), .lit (.int .u16 929)], .agg [.lit (.int .u16 1012), .lit (.int .u16 920)], .agg [.lit (.int .u16 1013), .lit (.int .u16 917)], .agg [.lit (.int .u16 1042), .lit (.int .u16 1074)], .agg [.lit (.int .u16 1044), .lit (.int .u16 1076)], .agg [.lit (.int .u16 1054), .lit (.int .u16 1086)], .agg [.lit (.int .u16 1057), .lit (.int .u16 1089)], .agg [.lit (.int .u16 1058), .lit (.int .u16 1090)], .agg [.lit (.int .u16 1066), .lit (.int .u16 1098)], .agg [.lit (.int .u16 1074), .lit (.int .u16 7296)], .agg [.lit (.int .u16 1076), .lit (.int .u16 7297)], .agg [.lit (.int .u16 1086), .lit (.int .u16 7298)], .agg [.lit (.int .u16 1089), .lit (.int .u16 7299)], .agg [.lit (.int .u16 1090), .lit (.int .u16 7300)], .agg [.lit (.int .u16 1098), .lit (.int .u16 7302)], .agg [.lit (.int .u16 1122), .lit (.int .u16 1123)], .agg [.lit (.int .u16 1123), .lit (.int .u16 7303)], .agg [.lit (.int .u16 7296), .lit (.int .u16 1042)], .agg [.lit (.int .u16 7297), .lit (.int .u16 1044)], .agg [.lit (.int .u16 7298), .lit (.int .u16 1054)], .agg [.lit (.int .u16 7299), .lit (.int .u16 1057)], .agg [.lit (.int .u16 7300), .lit (.int .u16 7301)], .agg [.lit (.int .u16 7301), .lit (.int .u16 1058)], .agg [.lit (.int .u16 7302), .lit (.int .u16 1066)], .agg [.lit (.int .u16 7303), .lit (.int .u16 1122)], .agg [.lit (.int .u16 7304), .lit (.int .u16 42570)], .agg [.lit (.int .u16 7776), .lit (.int .u16 7777)], .agg [.lit (.int .u16 7777), .lit (.int .u16 7835)], .agg [.lit (.int .u16 7835), .lit (.int .u16 7776)], .agg [.lit (.int .u16 7838), .lit (.int .u16 223)], .agg [.lit (.int .u16 8126), .lit (.int .u16 837)], .agg [.lit (.int .u16 8147), .lit (.int .u16 912)], .agg [.lit (.int .u16 8163), .lit (.int .u16 944)], .agg [.lit (.int .u16 8486), .lit (.int .u16 937)], .agg [.lit (.int .u16 8490), .lit (.int .u16 75)], .agg [.lit (.int .u16 8491), .lit (.int .u16 197)], .agg [.lit (.int .u16 42570), .lit (.int .u16 42571)], .agg [.lit (.int .u16 42571), .lit (.int .u16 7304)], .agg [.lit (.int .u16 64261), .lit (.int .u16 64262)], .agg [.lit (.int .u16 64262), .lit (.int .u16 64261)]] []
/-- One of Go's own tables, pinned by name: the form's constant. -/
def laid_unicode_CaseRanges : DataW Unit := Go.Pinned.caseRanges

/-- 'scrapbooklaw.RewriteSays': WHATEVER THE INPUT: true; the input reads as it did. -/
def rewriteSaysSpec : ChangeSpec := { name := "rewriteSays", fn := fun _ => fun
  | [d1, d2, d3] => { results := [.lit (.bool true)], args := [d1, d2, d3] }
  | _ => none }
def rewriteSaysRow : OpenClaim := { program := "ytlbdnohnngkapaagreatdoor", sum := "19b1bf25301dc269c3eb9dc14dffe054c8ded0ae255aa6335e61c2482fd0604c", func := "scrapbook/scrapbooklaw.RewriteSays", spec := "rewriteSays", inPlace := ["internal/bytealg.IndexByteString", "internal/bytealg.IndexString", "internal/bytealg.CountString", "internal/abi.NoEscape", "internal/bytealg.MakeNoZero", "slices.overlaps[byte]"], unfollowed := true, recurses := true, named := ["internal/bytealg.MaxLen", "unicode/utf8.first", "unicode/utf8.acceptRanges"], loops := true, apart := false, laid := [("unicode/utf8.acceptRanges", laid_unicode_utf8_acceptRanges), ("unicode/utf8.first", laid_unicode_utf8_first)] }
def RewriteSaysSaid : Prop := rewriteSaysRow.holds Tryz.pinned (OpenSpec.ofChange rewriteSaysSpec)

/-- ITS FALSE NEIGHBOUR: 'it returns false'. Refute it at one input. -/
def rewriteSaysWrong : ChangeSpec := { name := "rewriteSays", fn := fun _ => fun
  | [d1, d2, d3] => { results := [.lit (.bool false)], args := [d1, d2, d3] }
  | _ => none }
def RewriteSaysWrongFalsely : Prop := rewriteSaysRow.holds Tryz.pinned (OpenSpec.ofChange rewriteSaysWrong)

/-- 'scrapbooklaw.MimeSays': WHATEVER THE INPUT: true; the input reads as it did. -/
def mimeSaysSpec : ChangeSpec := { name := "mimeSays", fn := fun _ => fun
  | [d1, d2, d3] => { results := [.lit (.bool true)], args := [d1, d2, d3] }
  | _ => none }
def mimeSaysRow : OpenClaim := { program := "ytlbdnohnngkapaagreatdoor", sum := "19b1bf25301dc269c3eb9dc14dffe054c8ded0ae255aa6335e61c2482fd0604c", func := "scrapbook/scrapbooklaw.MimeSays", spec := "mimeSays", inPlace := ["internal/bytealg.IndexByteString", "internal/bytealg.IndexString", "internal/abi.NoEscape", "internal/bytealg.MakeNoZero", "internal/bytealg.IndexByte", "internal/bytealg.CountString"], unfollowed := true, recurses := true, named := ["internal/bytealg.MaxLen", "internal/strconv.uint64pow10", "math/bits.deBruijn32tab", "math/bits.deBruijn64tab", "unicode/utf8.first", "unicode/utf8.acceptRanges", "unicode.asciiFold", "unicode.caseOrbit", "unicode.CaseRanges", "strconv.ErrSyntax", "strconv.ErrRange"], loops := true, apart := false, laid := [("math/bits.deBruijn32tab", laid_math_bits_deBruijn32tab), ("math/bits.deBruijn64tab", laid_math_bits_deBruijn64tab), ("internal/strconv.uint64pow10", laid_internal_strconv_uint64pow10), ("unicode/utf8.acceptRanges", laid_unicode_utf8_acceptRanges), ("strconv.ErrRange", laid_strconv_ErrRange), ("strconv.ErrSyntax", laid_strconv_ErrSyntax), ("unicode.asciiFold", laid_unicode_asciiFold), ("unicode.caseOrbit", laid_unicode_caseOrbit), ("unicode.CaseRanges", laid_unicode_CaseRanges), ("unicode/utf8.first", laid_unicode_utf8_first)] }
def MimeSaysSaid : Prop := mimeSaysRow.holds Tryz.pinned (OpenSpec.ofChange mimeSaysSpec)

/-- ITS FALSE NEIGHBOUR: 'it returns false'. Refute it at one input. -/
def mimeSaysWrong : ChangeSpec := { name := "mimeSays", fn := fun _ => fun
  | [d1, d2, d3] => { results := [.lit (.bool false)], args := [d1, d2, d3] }
  | _ => none }
def MimeSaysWrongFalsely : Prop := mimeSaysRow.holds Tryz.pinned (OpenSpec.ofChange mimeSaysWrong)

/-- 'scrapbooklaw.BundleMore': WHATEVER THE INPUT: true; the input reads as it did. -/
def bundleMoreSpec : ChangeSpec := { name := "bundleMore", fn := fun _ => fun
  | [d1, d2] => { results := [.lit (.bool true)], args := [d1, d2] }
  | _ => none }
def bundleMoreRow : OpenClaim := { program := "ytlbdnohnngkapaagreatdoor", sum := "19b1bf25301dc269c3eb9dc14dffe054c8ded0ae255aa6335e61c2482fd0604c", func := "scrapbook/scrapbooklaw.BundleMore", spec := "bundleMore", inPlace := ["internal/bytealg.IndexByteString", "internal/bytealg.IndexString", "internal/bytealg.CountString", "internal/abi.NoEscape", "internal/bytealg.MakeNoZero"], unfollowed := true, recurses := true, named := ["internal/bytealg.MaxLen", "unicode/utf8.first", "unicode/utf8.acceptRanges"], loops := true, apart := false, laid := [("unicode/utf8.acceptRanges", laid_unicode_utf8_acceptRanges), ("unicode/utf8.first", laid_unicode_utf8_first)] }
def BundleMoreSaid : Prop := bundleMoreRow.holds Tryz.pinned (OpenSpec.ofChange bundleMoreSpec)

/-- ITS FALSE NEIGHBOUR: 'it returns false'. Refute it at one input. -/
def bundleMoreWrong : ChangeSpec := { name := "bundleMore", fn := fun _ => fun
  | [d1, d2] => { results := [.lit (.bool false)], args := [d1, d2] }
  | _ => none }
def BundleMoreWrongFalsely : Prop := bundleMoreRow.holds Tryz.pinned (OpenSpec.ofChange bundleMoreWrong)

/-- 'scrapbooklaw.BundleWhere': WHATEVER THE INPUT: true; the input reads as it did. -/
def bundleWhereSpec : ChangeSpec := { name := "bundleWhere", fn := fun _ => fun
  | [d] => { results := [.lit (.bool true)], args := [d] }
  | _ => none }
def bundleWhereRow : OpenClaim := { program := "ytlbdnohnngkapaagreatdoor", sum := "19b1bf25301dc269c3eb9dc14dffe054c8ded0ae255aa6335e61c2482fd0604c", func := "scrapbook/scrapbooklaw.BundleWhere", spec := "bundleWhere", inPlace := ["internal/bytealg.IndexByteString", "internal/bytealg.IndexString", "internal/bytealg.CountString", "internal/abi.NoEscape", "internal/bytealg.MakeNoZero"], unfollowed := true, recurses := true, named := ["internal/bytealg.MaxLen", "unicode/utf8.first", "unicode/utf8.acceptRanges"], loops := true, apart := false, laid := [("unicode/utf8.acceptRanges", laid_unicode_utf8_acceptRanges), ("unicode/utf8.first", laid_unicode_utf8_first)] }
def BundleWhereSaid : Prop := bundleWhereRow.holds Tryz.pinned (OpenSpec.ofChange bundleWhereSpec)

/-- ITS FALSE NEIGHBOUR: 'it returns false'. Refute it at one input. -/
def bundleWhereWrong : ChangeSpec := { name := "bundleWhere", fn := fun _ => fun
  | [d] => { results := [.lit (.bool false)], args := [d] }
  | _ => none }
def BundleWhereWrongFalsely : Prop := bundleWhereRow.holds Tryz.pinned (OpenSpec.ofChange bundleWhereWrong)

/-- 'scrapbooklaw.BundleGoals': WHATEVER THE INPUT: true; the input reads as it did. -/
def bundleGoalsSpec : ChangeSpec := { name := "bundleGoals", fn := fun _ => fun
  | [d] => { results := [.lit (.bool true)], args := [d] }
  | _ => none }
def bundleGoalsRow : OpenClaim := { program := "ytlbdnohnngkapaagreatdoor", sum := "19b1bf25301dc269c3eb9dc14dffe054c8ded0ae255aa6335e61c2482fd0604c", func := "scrapbook/scrapbooklaw.BundleGoals", spec := "bundleGoals", inPlace := ["internal/bytealg.IndexByteString", "internal/bytealg.IndexString", "internal/bytealg.CountString", "internal/abi.NoEscape", "internal/bytealg.MakeNoZero"], unfollowed := true, recurses := true, named := ["internal/bytealg.MaxLen", "unicode/utf8.first", "unicode/utf8.acceptRanges"], loops := true, apart := false, laid := [("unicode/utf8.acceptRanges", laid_unicode_utf8_acceptRanges), ("unicode/utf8.first", laid_unicode_utf8_first)] }
def BundleGoalsSaid : Prop := bundleGoalsRow.holds Tryz.pinned (OpenSpec.ofChange bundleGoalsSpec)

/-- ITS FALSE NEIGHBOUR: 'it returns false'. Refute it at one input. -/
def bundleGoalsWrong : ChangeSpec := { name := "bundleGoals", fn := fun _ => fun
  | [d] => { results := [.lit (.bool false)], args := [d] }
  | _ => none }
def BundleGoalsWrongFalsely : Prop := bundleGoalsRow.holds Tryz.pinned (OpenSpec.ofChange bundleGoalsWrong)

/-- 'scrapbooklaw.RewriteOnly': WHATEVER THE INPUT: true; the input reads as it did. -/
def rewriteOnlySpec : ChangeSpec := { name := "rewriteOnly", fn := fun _ => fun
  | [d1, d2] => { results := [.lit (.bool true)], args := [d1, d2] }
  | _ => none }
def rewriteOnlyRow : OpenClaim := { program := "ytlbdnohnngkapaagreatdoor", sum := "19b1bf25301dc269c3eb9dc14dffe054c8ded0ae255aa6335e61c2482fd0604c", func := "scrapbook/scrapbooklaw.RewriteOnly", spec := "rewriteOnly", inPlace := ["internal/bytealg.IndexByteString", "internal/bytealg.IndexString", "internal/bytealg.CountString", "internal/abi.NoEscape", "internal/bytealg.MakeNoZero"], unfollowed := true, recurses := true, named := ["internal/bytealg.MaxLen", "unicode/utf8.first", "unicode/utf8.acceptRanges"], loops := true, apart := false, laid := [("unicode/utf8.acceptRanges", laid_unicode_utf8_acceptRanges), ("unicode/utf8.first", laid_unicode_utf8_first)] }
def RewriteOnlySaid : Prop := rewriteOnlyRow.holds Tryz.pinned (OpenSpec.ofChange rewriteOnlySpec)

/-- ITS FALSE NEIGHBOUR: 'it returns false'. Refute it at one input. -/
def rewriteOnlyWrong : ChangeSpec := { name := "rewriteOnly", fn := fun _ => fun
  | [d1, d2] => { results := [.lit (.bool false)], args := [d1, d2] }
  | _ => none }
def RewriteOnlyWrongFalsely : Prop := rewriteOnlyRow.holds Tryz.pinned (OpenSpec.ofChange rewriteOnlyWrong)

/-- 'scrapbooklaw.RewriteNone': WHATEVER THE INPUT: true; the input reads as it did. -/
def rewriteNoneSpec : ChangeSpec := { name := "rewriteNone", fn := fun _ => fun
  | [d1, d2] => { results := [.lit (.bool true)], args := [d1, d2] }
  | _ => none }
def rewriteNoneRow : OpenClaim := { program := "ytlbdnohnngkapaagreatdoor", sum := "19b1bf25301dc269c3eb9dc14dffe054c8ded0ae255aa6335e61c2482fd0604c", func := "scrapbook/scrapbooklaw.RewriteNone", spec := "rewriteNone", inPlace := ["internal/bytealg.IndexByteString", "internal/bytealg.IndexString", "internal/bytealg.CountString", "internal/abi.NoEscape", "internal/bytealg.MakeNoZero"], unfollowed := true, recurses := true, named := ["internal/bytealg.MaxLen", "unicode/utf8.first", "unicode/utf8.acceptRanges"], loops := true, apart := false, laid := [("unicode/utf8.acceptRanges", laid_unicode_utf8_acceptRanges), ("unicode/utf8.first", laid_unicode_utf8_first)] }
def RewriteNoneSaid : Prop := rewriteNoneRow.holds Tryz.pinned (OpenSpec.ofChange rewriteNoneSpec)

/-- ITS FALSE NEIGHBOUR: 'it returns false'. Refute it at one input. -/
def rewriteNoneWrong : ChangeSpec := { name := "rewriteNone", fn := fun _ => fun
  | [d1, d2] => { results := [.lit (.bool false)], args := [d1, d2] }
  | _ => none }
def RewriteNoneWrongFalsely : Prop := rewriteNoneRow.holds Tryz.pinned (OpenSpec.ofChange rewriteNoneWrong)

/-- 'scrapbooklaw.BundleSays': WHATEVER THE INPUT: true; the input reads as it did. -/
def bundleSaysSpec : ChangeSpec := { name := "bundleSays", fn := fun _ => fun
  | [d1, d2, d3] => { results := [.lit (.bool true)], args := [d1, d2, d3] }
  | _ => none }
def bundleSaysRow : OpenClaim := { program := "ytlbdnohnngkapaagreatdoor", sum := "19b1bf25301dc269c3eb9dc14dffe054c8ded0ae255aa6335e61c2482fd0604c", func := "scrapbook/scrapbooklaw.BundleSays", spec := "bundleSays", inPlace := ["internal/bytealg.IndexByteString", "internal/bytealg.IndexString", "internal/bytealg.CountString", "internal/abi.NoEscape", "internal/bytealg.MakeNoZero"], unfollowed := true, recurses := true, named := ["internal/bytealg.MaxLen", "unicode/utf8.first", "unicode/utf8.acceptRanges"], loops := true, apart := false, laid := [("unicode/utf8.acceptRanges", laid_unicode_utf8_acceptRanges), ("unicode/utf8.first", laid_unicode_utf8_first)] }
def BundleSaysSaid : Prop := bundleSaysRow.holds Tryz.pinned (OpenSpec.ofChange bundleSaysSpec)

/-- ITS FALSE NEIGHBOUR: 'it returns false'. Refute it at one input. -/
def bundleSaysWrong : ChangeSpec := { name := "bundleSays", fn := fun _ => fun
  | [d1, d2, d3] => { results := [.lit (.bool false)], args := [d1, d2, d3] }
  | _ => none }
def BundleSaysWrongFalsely : Prop := bundleSaysRow.holds Tryz.pinned (OpenSpec.ofChange bundleSaysWrong)

/-- 'scrapbooklaw.MimeHow': WHATEVER THE INPUT: true; the input reads as it did. -/
def mimeHowSpec : ChangeSpec := { name := "mimeHow", fn := fun _ => fun
  | [d1, d2] => { results := [.lit (.bool true)], args := [d1, d2] }
  | _ => none }
def mimeHowRow : OpenClaim := { program := "ytlbdnohnngkapaagreatdoor", sum := "19b1bf25301dc269c3eb9dc14dffe054c8ded0ae255aa6335e61c2482fd0604c", func := "scrapbook/scrapbooklaw.MimeHow", spec := "mimeHow", inPlace := ["internal/bytealg.IndexByteString", "internal/bytealg.IndexString", "internal/abi.NoEscape", "internal/bytealg.MakeNoZero", "internal/bytealg.IndexByte"], unfollowed := true, recurses := true, named := ["internal/bytealg.MaxLen", "internal/strconv.uint64pow10", "math/bits.deBruijn32tab", "math/bits.deBruijn64tab", "unicode/utf8.first", "unicode/utf8.acceptRanges", "unicode.asciiFold", "unicode.caseOrbit", "unicode.CaseRanges"], loops := true, apart := false, laid := [("math/bits.deBruijn32tab", laid_math_bits_deBruijn32tab), ("math/bits.deBruijn64tab", laid_math_bits_deBruijn64tab), ("internal/strconv.uint64pow10", laid_internal_strconv_uint64pow10), ("unicode/utf8.acceptRanges", laid_unicode_utf8_acceptRanges), ("unicode.asciiFold", laid_unicode_asciiFold), ("unicode.caseOrbit", laid_unicode_caseOrbit), ("unicode.CaseRanges", laid_unicode_CaseRanges), ("unicode/utf8.first", laid_unicode_utf8_first)] }
def MimeHowSaid : Prop := mimeHowRow.holds Tryz.pinned (OpenSpec.ofChange mimeHowSpec)

/-- ITS FALSE NEIGHBOUR: 'it returns false'. Refute it at one input. -/
def mimeHowWrong : ChangeSpec := { name := "mimeHow", fn := fun _ => fun
  | [d1, d2] => { results := [.lit (.bool false)], args := [d1, d2] }
  | _ => none }
def MimeHowWrongFalsely : Prop := mimeHowRow.holds Tryz.pinned (OpenSpec.ofChange mimeHowWrong)

/-- 'scrapbooklaw.MimeBack': WHATEVER THE INPUT: true; the input reads as it did. -/
def mimeBackSpec : ChangeSpec := { name := "mimeBack", fn := fun _ => fun
  | [d1, d2] => { results := [.lit (.bool true)], args := [d1, d2] }
  | _ => none }
def mimeBackRow : OpenClaim := { program := "ytlbdnohnngkapaagreatdoor", sum := "19b1bf25301dc269c3eb9dc14dffe054c8ded0ae255aa6335e61c2482fd0604c", func := "scrapbook/scrapbooklaw.MimeBack", spec := "mimeBack", inPlace := ["internal/bytealg.IndexByteString", "internal/bytealg.IndexString", "internal/abi.NoEscape", "internal/bytealg.MakeNoZero", "internal/bytealg.IndexByte"], unfollowed := true, recurses := true, named := ["internal/bytealg.MaxLen", "internal/strconv.uint64pow10", "math/bits.deBruijn32tab", "math/bits.deBruijn64tab", "unicode/utf8.first", "unicode/utf8.acceptRanges", "unicode.asciiFold", "unicode.caseOrbit", "unicode.CaseRanges"], loops := true, apart := false, laid := [("math/bits.deBruijn32tab", laid_math_bits_deBruijn32tab), ("math/bits.deBruijn64tab", laid_math_bits_deBruijn64tab), ("internal/strconv.uint64pow10", laid_internal_strconv_uint64pow10), ("unicode/utf8.acceptRanges", laid_unicode_utf8_acceptRanges), ("unicode.asciiFold", laid_unicode_asciiFold), ("unicode.caseOrbit", laid_unicode_caseOrbit), ("unicode.CaseRanges", laid_unicode_CaseRanges), ("unicode/utf8.first", laid_unicode_utf8_first)] }
def MimeBackSaid : Prop := mimeBackRow.holds Tryz.pinned (OpenSpec.ofChange mimeBackSpec)

/-- ITS FALSE NEIGHBOUR: 'it returns false'. Refute it at one input. -/
def mimeBackWrong : ChangeSpec := { name := "mimeBack", fn := fun _ => fun
  | [d1, d2] => { results := [.lit (.bool false)], args := [d1, d2] }
  | _ => none }
def MimeBackWrongFalsely : Prop := mimeBackRow.holds Tryz.pinned (OpenSpec.ofChange mimeBackWrong)

/-- 'scrapbooklaw.MimeBorders': WHATEVER THE INPUT: true; the input reads as it did. -/
def mimeBordersSpec : ChangeSpec := { name := "mimeBorders", fn := fun _ => fun
  | [d1, d2, d3] => { results := [.lit (.bool true)], args := [d1, d2, d3] }
  | _ => none }
def mimeBordersRow : OpenClaim := { program := "ytlbdnohnngkapaagreatdoor", sum := "19b1bf25301dc269c3eb9dc14dffe054c8ded0ae255aa6335e61c2482fd0604c", func := "scrapbook/scrapbooklaw.MimeBorders", spec := "mimeBorders", inPlace := ["internal/bytealg.IndexByteString", "internal/bytealg.IndexString", "internal/abi.NoEscape", "internal/bytealg.MakeNoZero", "internal/bytealg.IndexByte"], unfollowed := true, recurses := true, named := ["internal/bytealg.MaxLen", "internal/strconv.uint64pow10", "math/bits.deBruijn32tab", "math/bits.deBruijn64tab", "unicode/utf8.first", "unicode/utf8.acceptRanges", "unicode.asciiFold", "unicode.caseOrbit", "unicode.CaseRanges"], apart := false, laid := [("math/bits.deBruijn32tab", laid_math_bits_deBruijn32tab), ("math/bits.deBruijn64tab", laid_math_bits_deBruijn64tab), ("internal/strconv.uint64pow10", laid_internal_strconv_uint64pow10), ("unicode/utf8.acceptRanges", laid_unicode_utf8_acceptRanges), ("unicode.asciiFold", laid_unicode_asciiFold), ("unicode.caseOrbit", laid_unicode_caseOrbit), ("unicode.CaseRanges", laid_unicode_CaseRanges), ("unicode/utf8.first", laid_unicode_utf8_first)] }
def MimeBordersSaid : Prop := mimeBordersRow.holds Tryz.pinned (OpenSpec.ofChange mimeBordersSpec)

/-- ITS FALSE NEIGHBOUR: 'it returns false'. Refute it at one input. -/
def mimeBordersWrong : ChangeSpec := { name := "mimeBorders", fn := fun _ => fun
  | [d1, d2, d3] => { results := [.lit (.bool false)], args := [d1, d2, d3] }
  | _ => none }
def MimeBordersWrongFalsely : Prop := mimeBordersRow.holds Tryz.pinned (OpenSpec.ofChange mimeBordersWrong)

/-- 'scrapbooklaw.MimeWraps': WHATEVER THE INPUT: true; the input reads as it did. -/
def mimeWrapsSpec : ChangeSpec := { name := "mimeWraps", fn := fun _ => fun
  | [d1, d2, d3, d4] => { results := [.lit (.bool true)], args := [d1, d2, d3, d4] }
  | _ => none }
def mimeWrapsRow : OpenClaim := { program := "ytlbdnohnngkapaagreatdoor", sum := "19b1bf25301dc269c3eb9dc14dffe054c8ded0ae255aa6335e61c2482fd0604c", func := "scrapbook/scrapbooklaw.MimeWraps", spec := "mimeWraps", inPlace := ["internal/bytealg.IndexByteString", "internal/bytealg.IndexString", "internal/abi.NoEscape", "internal/bytealg.MakeNoZero", "internal/bytealg.IndexByte"], unfollowed := true, recurses := true, named := ["internal/bytealg.MaxLen", "internal/strconv.uint64pow10", "math/bits.deBruijn32tab", "math/bits.deBruijn64tab", "unicode/utf8.first", "unicode/utf8.acceptRanges", "unicode.asciiFold", "unicode.caseOrbit", "unicode.CaseRanges"], apart := false, laid := [("math/bits.deBruijn32tab", laid_math_bits_deBruijn32tab), ("math/bits.deBruijn64tab", laid_math_bits_deBruijn64tab), ("internal/strconv.uint64pow10", laid_internal_strconv_uint64pow10), ("unicode/utf8.acceptRanges", laid_unicode_utf8_acceptRanges), ("unicode.asciiFold", laid_unicode_asciiFold), ("unicode.caseOrbit", laid_unicode_caseOrbit), ("unicode.CaseRanges", laid_unicode_CaseRanges), ("unicode/utf8.first", laid_unicode_utf8_first)] }
def MimeWrapsSaid : Prop := mimeWrapsRow.holds Tryz.pinned (OpenSpec.ofChange mimeWrapsSpec)

/-- ITS FALSE NEIGHBOUR: 'it returns false'. Refute it at one input. -/
def mimeWrapsWrong : ChangeSpec := { name := "mimeWraps", fn := fun _ => fun
  | [d1, d2, d3, d4] => { results := [.lit (.bool false)], args := [d1, d2, d3, d4] }
  | _ => none }
def MimeWrapsWrongFalsely : Prop := mimeWrapsRow.holds Tryz.pinned (OpenSpec.ofChange mimeWrapsWrong)

/- THE SECOND FORM. 'bulk': how many values and letters a reading holds, each counted each time it is reached (what is shared counts as often as it is met; a slice's spare places count too). A statement '..UptoSaid' is the law's where the arguments, and the package variables that the reading takes, are together of bulk at most 1048576: NARROWER than '..Said'. Prove '..Said' where nothing that the law and all that it calls make is longer than what came in: it says more and counts as full. Else prove '..UptoSaid'. A law counts once. -/
mutual
def uptoBulk {H : Type} : DataW H → Nat
  | .lit (.string bytes) => bytes.length + 1
  | .lit _ => 1
  | .nil => 1
  | .ptr d => uptoBulk d + 1
  | .slice elems spare => uptoBulkAll elems + uptoBulkAll spare + 1
  | .agg parts => uptoBulkAll parts + 1
  | .iface _ d => uptoBulk d + 1
  | .map entries => uptoBulkEntries entries + 1
  | .held _ => 1
def uptoBulkAll {H : Type} : List (DataW H) → Nat
  | [] => 0
  | d :: r => uptoBulk d + uptoBulkAll r
def uptoBulkEntries {H : Type} : List (Lit × DataW H) → Nat
  | [] => 0
  | x :: r => uptoBulkEntry x + uptoBulkEntries r
def uptoBulkEntry {H : Type} : Lit × DataW H → Nat
  | (.string bytes, d) => bytes.length + uptoBulk d + 1
  | (_, d) => uptoBulk d + 1
 end
def uptoSmall : (H : Type) → List (DataW H) → Bool := fun _ ds => decide (uptoBulkAll ds ≤ 1048576)
def OpenSpec.upto (s : _root_.Go.ChangeSpec) : _root_.Go.OpenSpec := { _root_.Go.OpenSpec.ofChange s with cond := some uptoSmall }

/-- 'scrapbooklaw.RewriteSays', WHERE WHAT IT READS IS OF BULK AT MOST 1048576: true; the input reads as it did. -/
def rewriteSaysUptoRow : OpenClaim := { program := "ytlbdnohnngkapaagreatdoor", sum := "19b1bf25301dc269c3eb9dc14dffe054c8ded0ae255aa6335e61c2482fd0604c", func := "scrapbook/scrapbooklaw.RewriteSays", spec := "rewriteSays", inPlace := ["internal/bytealg.IndexByteString", "internal/bytealg.IndexString", "internal/bytealg.CountString", "internal/abi.NoEscape", "internal/bytealg.MakeNoZero", "slices.overlaps[byte]"], unfollowed := true, recurses := true, named := ["internal/bytealg.MaxLen", "unicode/utf8.first", "unicode/utf8.acceptRanges"], loops := true, apart := false, laid := [("unicode/utf8.acceptRanges", laid_unicode_utf8_acceptRanges), ("unicode/utf8.first", laid_unicode_utf8_first)], narrowed := true }
def RewriteSaysUptoSaid : Prop := rewriteSaysUptoRow.holds Tryz.pinned (OpenSpec.upto rewriteSaysSpec)

/-- 'scrapbooklaw.MimeSays', WHERE WHAT IT READS IS OF BULK AT MOST 1048576: true; the input reads as it did. -/
def mimeSaysUptoRow : OpenClaim := { program := "ytlbdnohnngkapaagreatdoor", sum := "19b1bf25301dc269c3eb9dc14dffe054c8ded0ae255aa6335e61c2482fd0604c", func := "scrapbook/scrapbooklaw.MimeSays", spec := "mimeSays", inPlace := ["internal/bytealg.IndexByteString", "internal/bytealg.IndexString", "internal/abi.NoEscape", "internal/bytealg.MakeNoZero", "internal/bytealg.IndexByte", "internal/bytealg.CountString"], unfollowed := true, recurses := true, named := ["internal/bytealg.MaxLen", "internal/strconv.uint64pow10", "math/bits.deBruijn32tab", "math/bits.deBruijn64tab", "unicode/utf8.first", "unicode/utf8.acceptRanges", "unicode.asciiFold", "unicode.caseOrbit", "unicode.CaseRanges", "strconv.ErrSyntax", "strconv.ErrRange"], loops := true, apart := false, laid := [("math/bits.deBruijn32tab", laid_math_bits_deBruijn32tab), ("math/bits.deBruijn64tab", laid_math_bits_deBruijn64tab), ("internal/strconv.uint64pow10", laid_internal_strconv_uint64pow10), ("unicode/utf8.acceptRanges", laid_unicode_utf8_acceptRanges), ("strconv.ErrRange", laid_strconv_ErrRange), ("strconv.ErrSyntax", laid_strconv_ErrSyntax), ("unicode.asciiFold", laid_unicode_asciiFold), ("unicode.caseOrbit", laid_unicode_caseOrbit), ("unicode.CaseRanges", laid_unicode_CaseRanges), ("unicode/utf8.first", laid_unicode_utf8_first)], narrowed := true }
def MimeSaysUptoSaid : Prop := mimeSaysUptoRow.holds Tryz.pinned (OpenSpec.upto mimeSaysSpec)

/-- 'scrapbooklaw.BundleMore', WHERE WHAT IT READS IS OF BULK AT MOST 1048576: true; the input reads as it did. -/
def bundleMoreUptoRow : OpenClaim := { program := "ytlbdnohnngkapaagreatdoor", sum := "19b1bf25301dc269c3eb9dc14dffe054c8ded0ae255aa6335e61c2482fd0604c", func := "scrapbook/scrapbooklaw.BundleMore", spec := "bundleMore", inPlace := ["internal/bytealg.IndexByteString", "internal/bytealg.IndexString", "internal/bytealg.CountString", "internal/abi.NoEscape", "internal/bytealg.MakeNoZero"], unfollowed := true, recurses := true, named := ["internal/bytealg.MaxLen", "unicode/utf8.first", "unicode/utf8.acceptRanges"], loops := true, apart := false, laid := [("unicode/utf8.acceptRanges", laid_unicode_utf8_acceptRanges), ("unicode/utf8.first", laid_unicode_utf8_first)], narrowed := true }
def BundleMoreUptoSaid : Prop := bundleMoreUptoRow.holds Tryz.pinned (OpenSpec.upto bundleMoreSpec)

/-- 'scrapbooklaw.BundleWhere', WHERE WHAT IT READS IS OF BULK AT MOST 1048576: true; the input reads as it did. -/
def bundleWhereUptoRow : OpenClaim := { program := "ytlbdnohnngkapaagreatdoor", sum := "19b1bf25301dc269c3eb9dc14dffe054c8ded0ae255aa6335e61c2482fd0604c", func := "scrapbook/scrapbooklaw.BundleWhere", spec := "bundleWhere", inPlace := ["internal/bytealg.IndexByteString", "internal/bytealg.IndexString", "internal/bytealg.CountString", "internal/abi.NoEscape", "internal/bytealg.MakeNoZero"], unfollowed := true, recurses := true, named := ["internal/bytealg.MaxLen", "unicode/utf8.first", "unicode/utf8.acceptRanges"], loops := true, apart := false, laid := [("unicode/utf8.acceptRanges", laid_unicode_utf8_acceptRanges), ("unicode/utf8.first", laid_unicode_utf8_first)], narrowed := true }
def BundleWhereUptoSaid : Prop := bundleWhereUptoRow.holds Tryz.pinned (OpenSpec.upto bundleWhereSpec)

/-- 'scrapbooklaw.BundleGoals', WHERE WHAT IT READS IS OF BULK AT MOST 1048576: true; the input reads as it did. -/
def bundleGoalsUptoRow : OpenClaim := { program := "ytlbdnohnngkapaagreatdoor", sum := "19b1bf25301dc269c3eb9dc14dffe054c8ded0ae255aa6335e61c2482fd0604c", func := "scrapbook/scrapbooklaw.BundleGoals", spec := "bundleGoals", inPlace := ["internal/bytealg.IndexByteString", "internal/bytealg.IndexString", "internal/bytealg.CountString", "internal/abi.NoEscape", "internal/bytealg.MakeNoZero"], unfollowed := true, recurses := true, named := ["internal/bytealg.MaxLen", "unicode/utf8.first", "unicode/utf8.acceptRanges"], loops := true, apart := false, laid := [("unicode/utf8.acceptRanges", laid_unicode_utf8_acceptRanges), ("unicode/utf8.first", laid_unicode_utf8_first)], narrowed := true }
def BundleGoalsUptoSaid : Prop := bundleGoalsUptoRow.holds Tryz.pinned (OpenSpec.upto bundleGoalsSpec)

/-- 'scrapbooklaw.RewriteOnly', WHERE WHAT IT READS IS OF BULK AT MOST 1048576: true; the input reads as it did. -/
def rewriteOnlyUptoRow : OpenClaim := { program := "ytlbdnohnngkapaagreatdoor", sum := "19b1bf25301dc269c3eb9dc14dffe054c8ded0ae255aa6335e61c2482fd0604c", func := "scrapbook/scrapbooklaw.RewriteOnly", spec := "rewriteOnly", inPlace := ["internal/bytealg.IndexByteString", "internal/bytealg.IndexString", "internal/bytealg.CountString", "internal/abi.NoEscape", "internal/bytealg.MakeNoZero"], unfollowed := true, recurses := true, named := ["internal/bytealg.MaxLen", "unicode/utf8.first", "unicode/utf8.acceptRanges"], loops := true, apart := false, laid := [("unicode/utf8.acceptRanges", laid_unicode_utf8_acceptRanges), ("unicode/utf8.first", laid_unicode_utf8_first)], narrowed := true }
def RewriteOnlyUptoSaid : Prop := rewriteOnlyUptoRow.holds Tryz.pinned (OpenSpec.upto rewriteOnlySpec)

/-- 'scrapbooklaw.RewriteNone', WHERE WHAT IT READS IS OF BULK AT MOST 1048576: true; the input reads as it did. -/
def rewriteNoneUptoRow : OpenClaim := { program := "ytlbdnohnngkapaagreatdoor", sum := "19b1bf25301dc269c3eb9dc14dffe054c8ded0ae255aa6335e61c2482fd0604c", func := "scrapbook/scrapbooklaw.RewriteNone", spec := "rewriteNone", inPlace := ["internal/bytealg.IndexByteString", "internal/bytealg.IndexString", "internal/bytealg.CountString", "internal/abi.NoEscape", "internal/bytealg.MakeNoZero"], unfollowed := true, recurses := true, named := ["internal/bytealg.MaxLen", "unicode/utf8.first", "unicode/utf8.acceptRanges"], loops := true, apart := false, laid := [("unicode/utf8.acceptRanges", laid_unicode_utf8_acceptRanges), ("unicode/utf8.first", laid_unicode_utf8_first)], narrowed := true }
def RewriteNoneUptoSaid : Prop := rewriteNoneUptoRow.holds Tryz.pinned (OpenSpec.upto rewriteNoneSpec)

/-- 'scrapbooklaw.BundleSays', WHERE WHAT IT READS IS OF BULK AT MOST 1048576: true; the input reads as it did. -/
def bundleSaysUptoRow : OpenClaim := { program := "ytlbdnohnngkapaagreatdoor", sum := "19b1bf25301dc269c3eb9dc14dffe054c8ded0ae255aa6335e61c2482fd0604c", func := "scrapbook/scrapbooklaw.BundleSays", spec := "bundleSays", inPlace := ["internal/bytealg.IndexByteString", "internal/bytealg.IndexString", "internal/bytealg.CountString", "internal/abi.NoEscape", "internal/bytealg.MakeNoZero"], unfollowed := true, recurses := true, named := ["internal/bytealg.MaxLen", "unicode/utf8.first", "unicode/utf8.acceptRanges"], loops := true, apart := false, laid := [("unicode/utf8.acceptRanges", laid_unicode_utf8_acceptRanges), ("unicode/utf8.first", laid_unicode_utf8_first)], narrowed := true }
def BundleSaysUptoSaid : Prop := bundleSaysUptoRow.holds Tryz.pinned (OpenSpec.upto bundleSaysSpec)

/-- 'scrapbooklaw.MimeHow', WHERE WHAT IT READS IS OF BULK AT MOST 1048576: true; the input reads as it did. -/
def mimeHowUptoRow : OpenClaim := { program := "ytlbdnohnngkapaagreatdoor", sum := "19b1bf25301dc269c3eb9dc14dffe054c8ded0ae255aa6335e61c2482fd0604c", func := "scrapbook/scrapbooklaw.MimeHow", spec := "mimeHow", inPlace := ["internal/bytealg.IndexByteString", "internal/bytealg.IndexString", "internal/abi.NoEscape", "internal/bytealg.MakeNoZero", "internal/bytealg.IndexByte"], unfollowed := true, recurses := true, named := ["internal/bytealg.MaxLen", "internal/strconv.uint64pow10", "math/bits.deBruijn32tab", "math/bits.deBruijn64tab", "unicode/utf8.first", "unicode/utf8.acceptRanges", "unicode.asciiFold", "unicode.caseOrbit", "unicode.CaseRanges"], loops := true, apart := false, laid := [("math/bits.deBruijn32tab", laid_math_bits_deBruijn32tab), ("math/bits.deBruijn64tab", laid_math_bits_deBruijn64tab), ("internal/strconv.uint64pow10", laid_internal_strconv_uint64pow10), ("unicode/utf8.acceptRanges", laid_unicode_utf8_acceptRanges), ("unicode.asciiFold", laid_unicode_asciiFold), ("unicode.caseOrbit", laid_unicode_caseOrbit), ("unicode.CaseRanges", laid_unicode_CaseRanges), ("unicode/utf8.first", laid_unicode_utf8_first)], narrowed := true }
def MimeHowUptoSaid : Prop := mimeHowUptoRow.holds Tryz.pinned (OpenSpec.upto mimeHowSpec)

/-- 'scrapbooklaw.MimeBack', WHERE WHAT IT READS IS OF BULK AT MOST 1048576: true; the input reads as it did. -/
def mimeBackUptoRow : OpenClaim := { program := "ytlbdnohnngkapaagreatdoor", sum := "19b1bf25301dc269c3eb9dc14dffe054c8ded0ae255aa6335e61c2482fd0604c", func := "scrapbook/scrapbooklaw.MimeBack", spec := "mimeBack", inPlace := ["internal/bytealg.IndexByteString", "internal/bytealg.IndexString", "internal/abi.NoEscape", "internal/bytealg.MakeNoZero", "internal/bytealg.IndexByte"], unfollowed := true, recurses := true, named := ["internal/bytealg.MaxLen", "internal/strconv.uint64pow10", "math/bits.deBruijn32tab", "math/bits.deBruijn64tab", "unicode/utf8.first", "unicode/utf8.acceptRanges", "unicode.asciiFold", "unicode.caseOrbit", "unicode.CaseRanges"], loops := true, apart := false, laid := [("math/bits.deBruijn32tab", laid_math_bits_deBruijn32tab), ("math/bits.deBruijn64tab", laid_math_bits_deBruijn64tab), ("internal/strconv.uint64pow10", laid_internal_strconv_uint64pow10), ("unicode/utf8.acceptRanges", laid_unicode_utf8_acceptRanges), ("unicode.asciiFold", laid_unicode_asciiFold), ("unicode.caseOrbit", laid_unicode_caseOrbit), ("unicode.CaseRanges", laid_unicode_CaseRanges), ("unicode/utf8.first", laid_unicode_utf8_first)], narrowed := true }
def MimeBackUptoSaid : Prop := mimeBackUptoRow.holds Tryz.pinned (OpenSpec.upto mimeBackSpec)

/-- 'scrapbooklaw.MimeBorders', WHERE WHAT IT READS IS OF BULK AT MOST 1048576: true; the input reads as it did. -/
def mimeBordersUptoRow : OpenClaim := { program := "ytlbdnohnngkapaagreatdoor", sum := "19b1bf25301dc269c3eb9dc14dffe054c8ded0ae255aa6335e61c2482fd0604c", func := "scrapbook/scrapbooklaw.MimeBorders", spec := "mimeBorders", inPlace := ["internal/bytealg.IndexByteString", "internal/bytealg.IndexString", "internal/abi.NoEscape", "internal/bytealg.MakeNoZero", "internal/bytealg.IndexByte"], unfollowed := true, recurses := true, named := ["internal/bytealg.MaxLen", "internal/strconv.uint64pow10", "math/bits.deBruijn32tab", "math/bits.deBruijn64tab", "unicode/utf8.first", "unicode/utf8.acceptRanges", "unicode.asciiFold", "unicode.caseOrbit", "unicode.CaseRanges"], apart := false, laid := [("math/bits.deBruijn32tab", laid_math_bits_deBruijn32tab), ("math/bits.deBruijn64tab", laid_math_bits_deBruijn64tab), ("internal/strconv.uint64pow10", laid_internal_strconv_uint64pow10), ("unicode/utf8.acceptRanges", laid_unicode_utf8_acceptRanges), ("unicode.asciiFold", laid_unicode_asciiFold), ("unicode.caseOrbit", laid_unicode_caseOrbit), ("unicode.CaseRanges", laid_unicode_CaseRanges), ("unicode/utf8.first", laid_unicode_utf8_first)], narrowed := true }
def MimeBordersUptoSaid : Prop := mimeBordersUptoRow.holds Tryz.pinned (OpenSpec.upto mimeBordersSpec)

/-- 'scrapbooklaw.MimeWraps', WHERE WHAT IT READS IS OF BULK AT MOST 1048576: true; the input reads as it did. -/
def mimeWrapsUptoRow : OpenClaim := { program := "ytlbdnohnngkapaagreatdoor", sum := "19b1bf25301dc269c3eb9dc14dffe054c8ded0ae255aa6335e61c2482fd0604c", func := "scrapbook/scrapbooklaw.MimeWraps", spec := "mimeWraps", inPlace := ["internal/bytealg.IndexByteString", "internal/bytealg.IndexString", "internal/abi.NoEscape", "internal/bytealg.MakeNoZero", "internal/bytealg.IndexByte"], unfollowed := true, recurses := true, named := ["internal/bytealg.MaxLen", "internal/strconv.uint64pow10", "math/bits.deBruijn32tab", "math/bits.deBruijn64tab", "unicode/utf8.first", "unicode/utf8.acceptRanges", "unicode.asciiFold", "unicode.caseOrbit", "unicode.CaseRanges"], apart := false, laid := [("math/bits.deBruijn32tab", laid_math_bits_deBruijn32tab), ("math/bits.deBruijn64tab", laid_math_bits_deBruijn64tab), ("internal/strconv.uint64pow10", laid_internal_strconv_uint64pow10), ("unicode/utf8.acceptRanges", laid_unicode_utf8_acceptRanges), ("unicode.asciiFold", laid_unicode_asciiFold), ("unicode.caseOrbit", laid_unicode_caseOrbit), ("unicode.CaseRanges", laid_unicode_CaseRanges), ("unicode/utf8.first", laid_unicode_utf8_first)], narrowed := true }
def MimeWrapsUptoSaid : Prop := mimeWrapsUptoRow.holds Tryz.pinned (OpenSpec.upto mimeWrapsSpec)

end Rows
end Go.Proofs.YtlbdnohnngkapaaGreatDoor
