/- Part22 -/
import Derived.Test.YtegofjgkamhgaaaGreatDoorPart21
namespace Go.Proofs.YtegofjgkamhgaaaGreatDoor.topSilence
open Go
set_option maxRecDepth 100000
theorem ta1:Tryz.prog.worded (varsWordLater true)=true:=by kernel_rfl
theorem ta2:Tryz.prog.worded (varsWordLater !true)=false:=by kernel_rfl
theorem ta3:Tryz.prog.worded rootWordLater=true:=by kernel_rfl
theorem ta4:tLaid.map (λx=>Tryz.prog.kindOfLater x.1)=([.data,.data,.data,.data,.sentinel,.sentinel,.listed,.data]:List LaidKind).map some:=by kernel_rfl
theorem ta5:(Tryz.prog.funcNamed "gosem.cut.vars").isSome=true:=by kernel_rfl
theorem ta6:varsNamedLaterB Tryz.prog (varsId Tryz.prog) tLaid=true:=by kernel_rfl
theorem tie:Tryz.prog.laidByTextLater [("math/bits.deBruijn32tab",Rows.laid_math_bits_deBruijn32tab),("math/bits.deBruijn64tab",Rows.laid_math_bits_deBruijn64tab),("internal/strconv.uint64pow10",Rows.laid_internal_strconv_uint64pow10),("unicode/utf8.acceptRanges",Rows.laid_unicode_utf8_acceptRanges),("strconv.ErrRange",Rows.laid_strconv_ErrRange),("strconv.ErrSyntax",Rows.laid_strconv_ErrSyntax),("unicode.White_Space",Rows.laid_unicode_White_Space),("strings.asciiSpace",Rows.laid_strings_asciiSpace)] [.data,.data,.data,.data,.sentinel,.sentinel,.listed,.data] true:=Program.laidByTextLater_by_one 96 8 257 ta1 ta2 ta3 ta4 ta5 ta6 ta7
theorem ACV:Tryz.pinned.checked.prog.pinnedFits "unicode/utf8.first"=true:=by kernel_rfl
theorem ACW:Tryz.pinned.checked.prog.headLifts.contains "ownunsafe"=false:=by kernel_rfl
theorem ACX:Tryz.pinned.checked.prog.listedFits [("math/bits.deBruijn32tab",Rows.laid_math_bits_deBruijn32tab),("math/bits.deBruijn64tab",Rows.laid_math_bits_deBruijn64tab),("internal/strconv.uint64pow10",Rows.laid_internal_strconv_uint64pow10),("unicode/utf8.acceptRanges",Rows.laid_unicode_utf8_acceptRanges),("strconv.ErrRange",Rows.laid_strconv_ErrRange),("strconv.ErrSyntax",Rows.laid_strconv_ErrSyntax),("unicode.White_Space",Rows.laid_unicode_White_Space),("strings.asciiSpace",Rows.laid_strings_asciiSpace),("unicode/utf8.first",Rows.laid_unicode_utf8_first)]=true:=by unfold Program.listedFits;rw[ACW];kernel_rfl
theorem ACY:Rows.topSilenceRow.laidByTextAt .later Tryz.pinned [.data,.data,.data,.data,.sentinel,.sentinel,.listed,.data,.pinned] true:=
 OpenClaim.laidByTextAt_pinned rfl rfl tie rfl rfl rfl rfl (λy hy _e=>by
  simp only[Rows.topSilenceRow,List.zip_cons_cons,List.zip_nil_right,List.mem_cons,List.mem_nil_iff,or_false]at hy;rcases hy with rfl|rfl|rfl|rfl|rfl|rfl|rfl|rfl|rfl
  ·cases _e
  ·cases _e
  ·cases _e
  ·cases _e
  ·cases _e
  ·cases _e
  ·cases _e
  ·cases _e
  ·exact⟨ACV,by kernel_rfl⟩) ACX
end Go.Proofs.YtegofjgkamhgaaaGreatDoor.topSilence
