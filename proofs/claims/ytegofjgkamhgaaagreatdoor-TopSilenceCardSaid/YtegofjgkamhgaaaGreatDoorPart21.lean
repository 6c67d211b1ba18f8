/- Part21 -/
import Derived.Test.YtegofjgkamhgaaaGreatDoorRows
import Derived.LaidByTextLater
import Derived.SevenTiedAt
import Derived.LaidSub
import Derived.LaidOnce
import Derived.Test.YtegofjgkamhgaaaGreatDoorPart0
namespace Go.Proofs.YtegofjgkamhgaaaGreatDoor.topSilence
open Go
set_option maxRecDepth 100000
abbrev tLaid:List (String×DataW Unit):=[("math/bits.deBruijn32tab",Rows.laid_math_bits_deBruijn32tab),("math/bits.deBruijn64tab",Rows.laid_math_bits_deBruijn64tab),("internal/strconv.uint64pow10",Rows.laid_internal_strconv_uint64pow10),("unicode/utf8.acceptRanges",Rows.laid_unicode_utf8_acceptRanges),("strconv.ErrRange",Rows.laid_strconv_ErrRange),("strconv.ErrSyntax",Rows.laid_strconv_ErrSyntax),("unicode.White_Space",Rows.laid_unicode_White_Space),("strings.asciiSpace",Rows.laid_strings_asciiSpace)]
theorem ta7:∀os tape,doorLeaves Tryz.prog 96 8 257 tLaid os tape=some (tLaid.filter λx=>x.2.handleName?.isNone,(funcsListed tLaid).map (·.2.funcsOut)):=λ_ _=>by kernel_rfl
end Go.Proofs.YtegofjgkamhgaaaGreatDoor.topSilence
