/-
  NARROWER THAN 'FOR EVERY INPUT', by the rows' own cells (each row's printed sentence says how): RulesAll: laid · RulesPlays: laid · RulesMatches: laid · RulesChosen: laid · RulesKeeps: laid.
  DERIVED. THE GIVEN ROWS OF THIS SEAT. 5 by the template 'for every input the law returns true; each argument reads behind the call as it read before'; 0 by the template 'total and deterministic' (their statements: YtkhaebkijoefjaaGreatDoorTotals.lean).
  GIVEN WITH THE SEED: the statements are not yours to turn. If you find one false, say at which input.
  Laid BY PROGRAM, IN A SANDBOX (cutbox-rows.mjs): the forced cells as the released guide's own fill.sh prints them over the translation aff1f55b19af3694… (all of the seat's roots in one cut). By AI agents, Wed Nov 11 2026. No macro, syntax, notation, axiom, sorry.
-/
import Derived.Test.YtkhaebkijoefjaaGreatDoorChecked
import GoSem.PinnedTables
import GoSem.Claim
import GoSem.ClaimJoined
import GoSem.ClaimMapViews
import Derived.JoinedTies
import Derived.KernelRfl
namespace Go.Proofs.YtkhaebkijoefjaaGreatDoor
/- THE CELL 'sum', in the pinned program and in every row, IS THE sha256 OF THE DUMP (.gsa) THAT YtkhaebkijoefjaaGreatDoorProg.lean LOADS. Nothing in Lean hashes anything: it is a label: what it is worth is what the hold of that sum in a sandbox is worth. -/
noncomputable def Tryz.pinned : Pinned := { name := "ytkhaebkijoefjaagreatdoor", sum := "aff1f55b19af3694894e8188febbf93759111233ae72b7c05f4268578d15a5ad", checked := Tryz.checked }
namespace Rows
def none {H : Type} : Left H := { results := [], args := [] }

/- WHAT THE LISTED PACKAGE-LEVEL VARIABLES READ AS WHEN THE CALL BEGINS. Each datum BY PROGRAM (the guide's laid-datum.mjs) off the statement by which the dump's own 'gosem.cut.vars' lays the variable. In a bare row this is a premise. The card (YtkhaebkijoefjaaGreatDoorCards.lean) ties it to the program's text. -/
def laid_unicode_utf8_acceptRanges {H : Type} : DataW H := .agg [.agg [.lit (.int .u8 128), .lit (.int .u8 191)], .agg [.lit (.int .u8 160), .lit (.int .u8 191)], .agg [.lit (.int .u8 128), .lit (.int .u8 159)], .agg [.lit (.int .u8 144), .lit (.int .u8 191)], .agg [.lit (.int .u8 128), .lit (.int .u8 143)], .agg [.lit (.int .u8 0), .lit (.int .u8 0)], .agg [.lit (.int .u8 0), .lit (.int .u8 0)], .agg [.lit (.int .u8 0), .lit (.int .u8 0)], .agg [.lit (.int .u8 0), .lit (.int .u8 0)], .agg [.lit (.int .u8 0), .lit (.int .u8 0)], .agg [.lit (.int .u8 0), .lit (.int .u8 0)], .agg [.lit (.int .u8 0), .lit (.int .u8 0)], .agg [.lit (.int .u8 0), .lit (.int .u8 0)], .agg [.lit (.int .u8 0), .lit (.int .u8 0)], .agg [.lit (.int .u8 0), .lit (.int .u8 0)], .agg [.lit (.int .u8 0), .lit (.int .u8 0)]]
def laid_unicode_White_Space {H : Type} : DataW H := .ptr (.agg [.slice [.agg [.lit (.int .u16 9), .lit (.int .u16 13), .lit (.int .u16 1)], .agg [.lit (.int .u16 32), .lit (.int .u16 133), .lit (.int .u16 101)], .agg [.lit (.int .u16 160), .lit (.int .u16 5760), .lit (.int .u16 5600)], .agg [.lit (.int .u16 8192), .lit (.int .u16 8202), .lit (.int .u16 1)], .agg [.lit (.int .u16 8232), .lit (.int .u16 8233), .lit (.int .u16 1)], .agg [.lit (.int .u16 8239), .lit (.int .u16 8287), .lit (.int .u16 48)], .agg [.lit (.int .u16 12288), .lit (.int .u16 12288), .lit (.int .u16 1)]] [], .nil, .lit (.int .i64 2)])
def laid_strings_asciiSpace {H : Type} : DataW H := .agg [.lit (.int .u8 0), .lit (.int .u8 0), .lit (.int .u8 0), .lit (.int .u8 0), .lit (.int .u8 0), .lit (.int .u8 0), .lit (.int .u8 0), .lit (.int .u8 0), .lit (.int .u8 0), .lit (.int .u8 1), .lit (.int .u8 1), .lit (.int .u8 1), .lit (.int .u8 1), .lit (.int .u8 1), .lit (.int .u8 0), .lit (.int .u8 0), .lit (.int .u8 0), .lit (.int .u8 0), .lit (.int .u8 0), .lit (.int .u8 0), .lit (.int .u8 0), .lit (.int .u8 0), .lit (.int .u8 0), .lit (.int .u8 0), .lit (.int .u8 0), .lit (.int .u8 0), .lit (.int .u8 0), .lit (.int .u8 0), .lit (.int .u8 0), .lit (.int .u8 0), .lit (.int .u8 0), .lit (.int .u8 0), .lit (.int .u8 1), .lit (.int .u8 0), .lit (.int .u8 0), .lit (.int .u8 0), .lit (.int .u8 0), .lit (.int .u8 0), .lit (.int .u8 0), .lit (.int .u8 0), .lit (.int .u8 0), .lit (.int .u8 0), .lit (.int .u8 0), .lit (.int .u8 0), .lit (.int .u8 0), .lit (.int .u8 0), .lit (.int .u8 0), .lit (.int .u8 0), .lit (.int .u8 0), .lit (.int .u8 0), .lit (.int .u8 0), .lit (.int .u8 0), .lit (.int .u8 0), .lit (.int .u8 0), .lit (.int .u8 0), .lit (.int .u8 0), .lit (.int .u8 0), .lit (.int .u8 0), .lit (.int .u8 0), .lit (.int .u8 0), .lit (.int .u8 0), .lit (.int .u8 0), .lit (.int .u8 0), .lit (.int .u8 0), .lit (.int .u8 0), .lit (.int .u8 0), .lit (.int .u8 0), .lit (.int .u8 0), .lit (.int .u8 0), .lit (.int .u8 0), .lit (.int .u8 0), .lit (.int .u8 0), .lit (.int .u8 0), .lit (.int .u8 0), .lit (.int .u8 0), .lit (.int .u8 0), .lit (.int .u8 0), .lit (.int .u8 0), .lit (.int .u8 0), .lit (.int .u8 0), .lit (.int .u8 0), .lit (.int .u8 0), .lit (.int .u8 0), .lit (.int .u8 0), .lit (.int .u8 0), .lit (.int .u8 0), .lit (.int .u8 0), .lit (.int .u8 0), .lit (.int .u8 0), .lit (.int .u8 0), .lit (.int .u8 0), .lit (.int .u8 0), .lit (.int .u8 0), .lit (.int .u8 0), .lit (.int .u8 0), .lit (.int .u8 0), .lit (.int .u8 0), .lit (.int .u8 0), .lit (.int .u8 0), .lit (.int .u8 0), .lit (.int .u8 0), .lit (.int .u8 0), .lit (.int .u8 0), .lit (.int .u8 0), .lit (.int .u8 0), .lit (.int .u8 0), .lit (.int .u8 0), .lit (.int .u8 0), .lit (.int .u8 0), .lit (.int .u8 0), .lit (.int .u8 0), .lit (.int .u8 0), .lit (.int .u8 0), .lit (.int .u8 0), .lit (.int .u8 0), .lit (.int .u8 0), .lit (.int .u8 0), .lit (.int .u8 0), .lit (.int .u8 0), .lit (.int .u8 0), .lit (.int .u8 0), .lit (.int .u8 0), .lit (.int .u8 0), .lit (.int .u8 0), .lit (.int .u8 0), .lit (.int .u8 0), .lit (.int .u8 0), .lit (.int .u8 0), .lit (.int .u8 0), .lit (.int .u8 0), .lit (.int .u8 0), .lit (.int .u8 0), .lit (.int .u8 0), .lit (.int .u8 0), .lit (.int .u8 0), .lit (.int .u8 0), .lit (.int .u8 0), .lit (.int .u8 0), .lit (.int .u8 0), .lit (.int .u8 0), .lit (.int .u8 0), .lit (.int .u8 0), .lit (.int .u8 0), .lit (.int .u8 0), .lit (.int .u8 0), .lit (.int .u8 0), .lit (.int .u8 0), .lit (.int .u8 0), .lit (.int .u8 0), .lit (.int .u8 0), .lit (.int .u8 0), .lit (.int .u8 0), .lit (.int .u8 0), .lit (.int .u8 0), .lit (.int .u8 0), .lit (.int .u8 0), .lit (.int .u8 0), .lit (.int .u8 0), .lit (.int .u8 0), .lit (.int .u8 0), .lit (.int .u8 0), .lit (.int .u8 0), .lit (.int .u8 0), .lit (.int .u8 0), .lit (.int .u8 0), .lit (.int .u8 0), .lit (.int .u8 0), .lit (.int .u8 0), .lit (.int .u8 0), .lit (.int .u8 0), .lit (.int .u8 0), .lit (.int .u8 0), .lit (.int .u8 0), .lit (.int .u8 0), .lit (.int .u8 0), .lit (.int .u8 0), .lit (.int .u8 0), .lit (.int .u8 0), .lit (.int .u8 0), .lit (.int .u8 0), .lit (.int .u8 0), .lit (.int .u8 0), .lit (.int .u8 0), .lit (.int .u8 0), .lit (.int .u8 0), .lit (.int .u8 0), .lit (.int .u8 0), .lit (.int .u8 0), .lit (.int .u8 0), .lit (.int .u8 0), .lit (.int .u8 0), .lit (.int .u8 0), .lit (.int .u8 0), .lit (.int .u8 0), .lit (.int .u8 0), .lit (.int .u8 0), .lit (.int .u8 0), .lit (.int .u8 0), .lit (.int .u8 0), .lit (.int .u8 0), .lit (.int .u8 0), .lit (.int .u8 0), .lit (.int .u8 0), .lit (.int .u8 0), .lit (.int .u8 0), .lit (.int .u8 0), .lit (.int .u8 0), .lit (.int .u8 0), .lit (.int .u8 0), .lit (.int .u8 0), .lit (.int .u8 0), .lit (.int .u8 0), .lit (.int .u8 0), .lit (.int .u8 0), .lit (.int .u8 0), .lit (.int .u8 0), .lit (.int .u8 0), .lit (.int .u8 0), .lit (.int .u8 0), .lit (.int .u8 0), .lit (.int .u8 0), .lit (.int .u8 0), .lit (.int .u8 0), .lit (.int .u8 0), .lit (.int .u8 0), .lit (.int .u8 0), .lit (.int .u8 0), .lit (.int .u8 0), .lit (.int .u8 0), .lit (.int .u8 0), .lit (.int .u8 0), .lit (.int .u8 0), .lit (.int .u8 0), .lit (.int .u8 0), .lit (.int .u8 0), .lit (.int .u8 0), .lit (.int .u8 0), .lit (.int .u8 0), .lit (.int .u8 0), .lit (.int .u8 0), .lit (.int .u8 0), .lit (.int .u8 0), .lit (.int .u8 0), .lit (.int .u8 0), .lit (.int .u8 0), .lit (.int .u8 0), .lit (.int .u8 0), .lit (.int .u8 0), .lit (.int .u8 0), .lit (.int .u8 0), .lit (.int .u8 0), .lit (.int .u8 0), .lit (.int .u8 0), .lit (.int .u8 0), .lit (.int .u8 0), .lit (.int .u8 0)]
def laid_sorrel_runes_letters {H : Type} : DataW H := .agg [.agg [.lit (.int .i32 97), .lit (.int .i32 122)], .agg [.lit (.int .i32 65), .lit (.int .i32 90)], .agg [.lit (.int .i32 95), .lit (.int .i32 95)], .agg [.lit (.int .i32 192), .lit (.int .i32 214)], .agg [.lit (.int .i32 216), .lit (.int .i32 246)], .agg [.lit (.int .i32 248), .lit (.int .i32 591)], .agg [.lit (.int .i32 880), .lit (.int .i32 893)], .agg [.lit (.int .i32 895), .lit (.int .i32 902)], .agg [.lit (.int .i32 904), .lit (.int .i32 1023)], .agg [.lit (.int .i32 1024), .lit (.int .i32 1153)], .agg [.lit (.int .i32 1162), .lit (.int .i32 1327)], .agg [.lit (.int .i32 19968), .lit (.int .i32 40959)], .agg [.lit (.int .i32 66560), .lit (.int .i32 66639)]]
def laid_sorrel_runes_zeros {H : Type} : DataW H := .agg [.lit (.int .i32 48), .lit (.int .i32 1632), .lit (.int .i32 65296)]
/-- One of Go's own tables, pinned by name: the form's constant. -/
def laid_unicode_utf8_first : DataW Unit := Go.Pinned.utf8First

/-- 'sorrellaw17.RulesAll': WHATEVER THE INPUT: true; the input reads as it did. -/
def rulesAllSpec : ChangeSpec := { name := "rulesAll", fn := fun _ => fun
  | [d] => { results := [.lit (.bool true)], args := [d] }
  | _ => none }
def rulesAllRow : OpenClaim := { program := "ytkhaebkijoefjaagreatdoor", sum := "aff1f55b19af3694894e8188febbf93759111233ae72b7c05f4268578d15a5ad", func := "sorrel/sorrellaw17.RulesAll", spec := "rulesAll", inPlace := ["internal/bytealg.IndexByteString", "internal/bytealg.IndexString", "internal/bytealg.CountString"], unfollowed := true, recurses := true, named := ["internal/bytealg.MaxLen", "unicode/utf8.first", "unicode/utf8.acceptRanges", "sorrel/runes.letters", "sorrel/runes.zeros", "strings.asciiSpace", "unicode.White_Space"], apart := false, laid := [("unicode/utf8.acceptRanges", laid_unicode_utf8_acceptRanges), ("unicode.White_Space", laid_unicode_White_Space), ("strings.asciiSpace", laid_strings_asciiSpace), ("sorrel/runes.letters", laid_sorrel_runes_letters), ("sorrel/runes.zeros", laid_sorrel_runes_zeros), ("unicode/utf8.first", laid_unicode_utf8_first)] }
def RulesAllSaid : Prop := rulesAllRow.holds Tryz.pinned (OpenSpec.ofChange rulesAllSpec)

/-- ITS FALSE NEIGHBOUR: 'it returns false'. Refute it at one input. -/
def rulesAllWrong : ChangeSpec := { name := "rulesAll", fn := fun _ => fun
  | [d] => { results := [.lit (.bool false)], args := [d] }
  | _ => none }
def RulesAllWrongFalsely : Prop := rulesAllRow.holds Tryz.pinned (OpenSpec.ofChange rulesAllWrong)

/-- 'sorrellaw17.RulesPlays': WHATEVER THE INPUT: true; the input reads as it did. -/
def rulesPlaysSpec : ChangeSpec := { name := "rulesPlays", fn := fun _ => fun
  | [d1, d2, d3, d4] => { results := [.lit (.bool true)], args := [d1, d2, d3, d4] }
  | _ => none }
def rulesPlaysRow : OpenClaim := { program := "ytkhaebkijoefjaagreatdoor", sum := "aff1f55b19af3694894e8188febbf93759111233ae72b7c05f4268578d15a5ad", func := "sorrel/sorrellaw17.RulesPlays", spec := "rulesPlays", inPlace := ["internal/bytealg.IndexByteString", "internal/bytealg.IndexString", "internal/bytealg.CountString"], unfollowed := true, recurses := true, named := ["internal/bytealg.MaxLen", "unicode/utf8.first", "unicode/utf8.acceptRanges", "sorrel/runes.letters", "sorrel/runes.zeros", "strings.asciiSpace", "unicode.White_Space"], apart := false, laid := [("unicode/utf8.acceptRanges", laid_unicode_utf8_acceptRanges), ("unicode.White_Space", laid_unicode_White_Space), ("strings.asciiSpace", laid_strings_asciiSpace), ("sorrel/runes.letters", laid_sorrel_runes_letters), ("sorrel/runes.zeros", laid_sorrel_runes_zeros), ("unicode/utf8.first", laid_unicode_utf8_first)] }
def RulesPlaysSaid : Prop := rulesPlaysRow.holds Tryz.pinned (OpenSpec.ofChange rulesPlaysSpec)

/-- ITS FALSE NEIGHBOUR: 'it returns false'. Refute it at one input. -/
def rulesPlaysWrong : ChangeSpec := { name := "rulesPlays", fn := fun _ => fun
  | [d1, d2, d3, d4] => { results := [.lit (.bool false)], args := [d1, d2, d3, d4] }
  | _ => none }
def RulesPlaysWrongFalsely : Prop := rulesPlaysRow.holds Tryz.pinned (OpenSpec.ofChange rulesPlaysWrong)

/-- 'sorrellaw17.RulesMatches': WHATEVER THE INPUT: true; the input reads as it did. -/
def rulesMatchesSpec : ChangeSpec := { name := "rulesMatches", fn := fun _ => fun
  | [d1, d2] => { results := [.lit (.bool true)], args := [d1, d2] }
  | _ => none }
def rulesMatchesRow : OpenClaim := { program := "ytkhaebkijoefjaagreatdoor", sum := "aff1f55b19af3694894e8188febbf93759111233ae72b7c05f4268578d15a5ad", func := "sorrel/sorrellaw17.RulesMatches", spec := "rulesMatches", inPlace := ["internal/bytealg.IndexByteString", "internal/bytealg.IndexString", "internal/bytealg.CountString", "slices.overlaps[[]int]"], unfollowed := true, recurses := true, named := ["internal/bytealg.MaxLen", "sorrel/runes.letters", "sorrel/runes.zeros", "unicode/utf8.first", "unicode/utf8.acceptRanges", "strings.asciiSpace", "unicode.White_Space"], apart := false, laid := [("unicode/utf8.acceptRanges", laid_unicode_utf8_acceptRanges), ("unicode.White_Space", laid_unicode_White_Space), ("strings.asciiSpace", laid_strings_asciiSpace), ("sorrel/runes.letters", laid_sorrel_runes_letters), ("sorrel/runes.zeros", laid_sorrel_runes_zeros), ("unicode/utf8.first", laid_unicode_utf8_first)] }
def RulesMatchesSaid : Prop := rulesMatchesRow.holds Tryz.pinned (OpenSpec.ofChange rulesMatchesSpec)

/-- ITS FALSE NEIGHBOUR: 'it returns false'. Refute it at one input. -/
def rulesMatchesWrong : ChangeSpec := { name := "rulesMatches", fn := fun _ => fun
  | [d1, d2] => { results := [.lit (.bool false)], args := [d1, d2] }
  | _ => none }
def RulesMatchesWrongFalsely : Prop := rulesMatchesRow.holds Tryz.pinned (OpenSpec.ofChange rulesMatchesWrong)

/-- 'sorrellaw17.RulesChosen': WHATEVER THE INPUT: true; the input reads as it did. -/
def rulesChosenSpec : ChangeSpec := { name := "rulesChosen", fn := fun _ => fun
  | [d1, d2, d3] => { results := [.lit (.bool true)], args := [d1, d2, d3] }
  | _ => none }
def rulesChosenRow : OpenClaim := { program := "ytkhaebkijoefjaagreatdoor", sum := "aff1f55b19af3694894e8188febbf93759111233ae72b7c05f4268578d15a5ad", func := "sorrel/sorrellaw17.RulesChosen", spec := "rulesChosen", inPlace := ["internal/bytealg.IndexByteString", "internal/bytealg.IndexString", "internal/bytealg.CountString", "slices.overlaps[[]int]"], unfollowed := true, recurses := true, named := ["internal/bytealg.MaxLen", "sorrel/runes.letters", "sorrel/runes.zeros", "unicode/utf8.first", "unicode/utf8.acceptRanges", "strings.asciiSpace", "unicode.White_Space"], apart := false, laid := [("unicode/utf8.acceptRanges", laid_unicode_utf8_acceptRanges), ("unicode.White_Space", laid_unicode_White_Space), ("strings.asciiSpace", laid_strings_asciiSpace), ("sorrel/runes.letters", laid_sorrel_runes_letters), ("sorrel/runes.zeros", laid_sorrel_runes_zeros), ("unicode/utf8.first", laid_unicode_utf8_first)] }
def RulesChosenSaid : Prop := rulesChosenRow.holds Tryz.pinned (OpenSpec.ofChange rulesChosenSpec)

/-- ITS FALSE NEIGHBOUR: 'it returns false'. Refute it at one input. -/
def rulesChosenWrong : ChangeSpec := { name := "rulesChosen", fn := fun _ => fun
  | [d1, d2, d3] => { results := [.lit (.bool false)], args := [d1, d2, d3] }
  | _ => none }
def RulesChosenWrongFalsely : Prop := rulesChosenRow.holds Tryz.pinned (OpenSpec.ofChange rulesChosenWrong)

/-- 'sorrellaw17.RulesKeeps': WHATEVER THE INPUT: true; the input reads as it did. -/
def rulesKeepsSpec : ChangeSpec := { name := "rulesKeeps", fn := fun _ => fun
  | [d1, d2, d3, d4] => { results := [.lit (.bool true)], args := [d1, d2, d3, d4] }
  | _ => none }
def rulesKeepsRow : OpenClaim := { program := "ytkhaebkijoefjaagreatdoor", sum := "aff1f55b19af3694894e8188febbf93759111233ae72b7c05f4268578d15a5ad", func := "sorrel/sorrellaw17.RulesKeeps", spec := "rulesKeeps", inPlace := ["internal/bytealg.IndexByteString", "internal/bytealg.IndexString", "internal/bytealg.CountString", "slices.overlaps[[]int]"], unfollowed := true, recurses := true, named := ["internal/bytealg.MaxLen", "sorrel/runes.letters", "sorrel/runes.zeros", "unicode/utf8.first", "unicode/utf8.acceptRanges", "strings.asciiSpace", "unicode.White_Space"], apart := false, laid := [("unicode/utf8.acceptRanges", laid_unicode_utf8_acceptRanges), ("unicode.White_Space", laid_unicode_White_Space), ("strings.asciiSpace", laid_strings_asciiSpace), ("sorrel/runes.letters", laid_sorrel_runes_letters), ("sorrel/runes.zeros", laid_sorrel_runes_zeros), ("unicode/utf8.first", laid_unicode_utf8_first)] }
def RulesKeepsSaid : Prop := rulesKeepsRow.holds Tryz.pinned (OpenSpec.ofChange rulesKeepsSpec)

/-- ITS FALSE NEIGHBOUR: 'it returns false'. Refute it at one input. -/
def rulesKeepsWrong : ChangeSpec := { name := "rulesKeeps", fn := fun _ => fun
  | [d1, d2, d3, d4] => { results := [.lit (.bool false)], args := [d1, d2, d3, d4] }
  | _ => none }
def RulesKeepsWrongFalsely : Prop := rulesKeepsRow.holds Tryz.pinned (OpenSpec.ofChange rulesKeepsWrong)

/- THE SECOND FORM. 'bulk': how many values and letters a reading holds, each counted each time it is reached (what is shared counts as often as it is met; a slice's spare places count too). A statement '..UptoSaid' is the law's where the arguments, and the package variables that the reading takes, are together of bulk at most 1048576: NARROWER than '..Said'. Prove '..Said' where nothing that the law and all that it calls make is longer than what came in: it says more and counts as full. Else prove '..UptoSaid'. A law counts once. -/
mutual
def uptoBulk {H : Type} : DataW H → Nat
  | .lit (.string bytes) => bytes.length + 1
  | .lit _ => 1
  | .nil => 1
  | .ptr d => uptoBulk d + 1
  | .slice elems spare => uptoBulkAll elems + uptoBulkAll spare + 1
  | .agg parts => uptoBulkAll parts + 1
  | .iface _ d => uptoBulk d + 1
  | .map entries => uptoBulkEntries entries + 1
  | .held _ => 1
def uptoBulkAll {H : Type} : List (DataW H) → Nat
  | [] => 0
  | d :: r => uptoBulk d + uptoBulkAll r
def uptoBulkEntries {H : Type} : List (Lit × DataW H) → Nat
  | [] => 0
  | x :: r => uptoBulkEntry x + uptoBulkEntries r
def uptoBulkEntry {H : Type} : Lit × DataW H → Nat
  | (.string bytes, d) => bytes.length + uptoBulk d + 1
  | (_, d) => uptoBulk d + 1
 end
def uptoSmall : (H : Type) → List (DataW H) → Bool := fun _ ds => decide (uptoBulkAll ds ≤ 1048576)
def OpenSpec.upto (s : _root_.Go.ChangeSpec) : _root_.Go.OpenSpec := { _root_.Go.OpenSpec.ofChange s with cond := some uptoSmall }

/-- 'sorrellaw17.RulesAll', WHERE WHAT IT READS IS OF BULK AT MOST 1048576: true; the input reads as it did. -/
def rulesAllUptoRow : OpenClaim := { program := "ytkhaebkijoefjaagreatdoor", sum := "aff1f55b19af3694894e8188febbf93759111233ae72b7c05f4268578d15a5ad", func := "sorrel/sorrellaw17.RulesAll", spec := "rulesAll", inPlace := ["internal/bytealg.IndexByteString", "internal/bytealg.IndexString", "internal/bytealg.CountString"], unfollowed := true, recurses := true, named := ["internal/bytealg.MaxLen", "unicode/utf8.first", "unicode/utf8.acceptRanges", "sorrel/runes.letters", "sorrel/runes.zeros", "strings.asciiSpace", "unicode.White_Space"], apart := false, laid := [("unicode/utf8.acceptRanges", laid_unicode_utf8_acceptRanges), ("unicode.White_Space", laid_unicode_White_Space), ("strings.asciiSpace", laid_strings_asciiSpace), ("sorrel/runes.letters", laid_sorrel_runes_letters), ("sorrel/runes.zeros", laid_sorrel_runes_zeros), ("unicode/utf8.first", laid_unicode_utf8_first)], narrowed := true }
def RulesAllUptoSaid : Prop := rulesAllUptoRow.holds Tryz.pinned (OpenSpec.upto rulesAllSpec)

/-- 'sorrellaw17.RulesPlays', WHERE WHAT IT READS IS OF BULK AT MOST 1048576: true; the input reads as it did. -/
def rulesPlaysUptoRow : OpenClaim := { program := "ytkhaebkijoefjaagreatdoor", sum := "aff1f55b19af3694894e8188febbf93759111233ae72b7c05f4268578d15a5ad", func := "sorrel/sorrellaw17.RulesPlays", spec := "rulesPlays", inPlace := ["internal/bytealg.IndexByteString", "internal/bytealg.IndexString", "internal/bytealg.CountString"], unfollowed := true, recurses := true, named := ["internal/bytealg.MaxLen", "unicode/utf8.first", "unicode/utf8.acceptRanges", "sorrel/runes.letters", "sorrel/runes.zeros", "strings.asciiSpace", "unicode.White_Space"], apart := false, laid := [("unicode/utf8.acceptRanges", laid_unicode_utf8_acceptRanges), ("unicode.White_Space", laid_unicode_White_Space), ("strings.asciiSpace", laid_strings_asciiSpace), ("sorrel/runes.letters", laid_sorrel_runes_letters), ("sorrel/runes.zeros", laid_sorrel_runes_zeros), ("unicode/utf8.first", laid_unicode_utf8_first)], narrowed := true }
def RulesPlaysUptoSaid : Prop := rulesPlaysUptoRow.holds Tryz.pinned (OpenSpec.upto rulesPlaysSpec)

/-- 'sorrellaw17.RulesMatches', WHERE WHAT IT READS IS OF BULK AT MOST 1048576: true; the input reads as it did. -/
def rulesMatchesUptoRow : OpenClaim := { program := "ytkhaebkijoefjaagreatdoor", sum := "aff1f55b19af3694894e8188febbf93759111233ae72b7c05f4268578d15a5ad", func := "sorrel/sorrellaw17.RulesMatches", spec := "rulesMatches", inPlace := ["internal/bytealg.IndexByteString", "internal/bytealg.IndexString", "internal/bytealg.CountString", "slices.overlaps[[]int]"], unfollowed := true, recurses := true, named := ["internal/bytealg.MaxLen", "sorrel/runes.letters", "sorrel/runes.zeros", "unicode/utf8.first", "unicode/utf8.acceptRanges", "strings.asciiSpace", "unicode.White_Space"], apart := false, laid := [("unicode/utf8.acceptRanges", laid_unicode_utf8_acceptRanges), ("unicode.White_Space", laid_unicode_White_Space), ("strings.asciiSpace", laid_strings_asciiSpace), ("sorrel/runes.letters", laid_sorrel_runes_letters), ("sorrel/runes.zeros", laid_sorrel_runes_zeros), ("unicode/utf8.first", laid_unicode_utf8_first)], narrowed := true }
def RulesMatchesUptoSaid : Prop := rulesMatchesUptoRow.holds Tryz.pinned (OpenSpec.upto rulesMatchesSpec)

/-- 'sorrellaw17.RulesChosen', WHERE WHAT IT READS IS OF BULK AT MOST 1048576: true; the input reads as it did. -/
def rulesChosenUptoRow : OpenClaim := { program := "ytkhaebkijoefjaagreatdoor", sum := "aff1f55b19af3694894e8188febbf93759111233ae72b7c05f4268578d15a5ad", func := "sorrel/sorrellaw17.RulesChosen", spec := "rulesChosen", inPlace := ["internal/bytealg.IndexByteString", "internal/bytealg.IndexString", "internal/bytealg.CountString", "slices.overlaps[[]int]"], unfollowed := true, recurses := true, named := ["internal/bytealg.MaxLen", "sorrel/runes.letters", "sorrel/runes.zeros", "unicode/utf8.first", "unicode/utf8.acceptRanges", "strings.asciiSpace", "unicode.White_Space"], apart := false, laid := [("unicode/utf8.acceptRanges", laid_unicode_utf8_acceptRanges), ("unicode.White_Space", laid_unicode_White_Space), ("strings.asciiSpace", laid_strings_asciiSpace), ("sorrel/runes.letters", laid_sorrel_runes_letters), ("sorrel/runes.zeros", laid_sorrel_runes_zeros), ("unicode/utf8.first", laid_unicode_utf8_first)], narrowed := true }
def RulesChosenUptoSaid : Prop := rulesChosenUptoRow.holds Tryz.pinned (OpenSpec.upto rulesChosenSpec)

/-- 'sorrellaw17.RulesKeeps', WHERE WHAT IT READS IS OF BULK AT MOST 1048576: true; the input reads as it did. -/
def rulesKeepsUptoRow : OpenClaim := { program := "ytkhaebkijoefjaagreatdoor", sum := "aff1f55b19af3694894e8188febbf93759111233ae72b7c05f4268578d15a5ad", func := "sorrel/sorrellaw17.RulesKeeps", spec := "rulesKeeps", inPlace := ["internal/bytealg.IndexByteString", "internal/bytealg.IndexString", "internal/bytealg.CountString", "slices.overlaps[[]int]"], unfollowed := true, recurses := true, named := ["internal/bytealg.MaxLen", "sorrel/runes.letters", "sorrel/runes.zeros", "unicode/utf8.first", "unicode/utf8.acceptRanges", "strings.asciiSpace", "unicode.White_Space"], apart := false, laid := [("unicode/utf8.acceptRanges", laid_unicode_utf8_acceptRanges), ("unicode.White_Space", laid_unicode_White_Space), ("strings.asciiSpace", laid_strings_asciiSpace), ("sorrel/runes.letters", laid_sorrel_runes_letters), ("sorrel/runes.zeros", laid_sorrel_runes_zeros), ("unicode/utf8.first", laid_unicode_utf8_first)], narrowed := true }
def RulesKeepsUptoSaid : Prop := rulesKeepsUptoRow.holds Tryz.pinned (OpenSpec.upto rulesKeepsSpec)

end Rows
end Go.Proofs.YtkhaebkijoefjaaGreatDoor
