/- LexerNumbers answers true at every input. No conditions but the library's laid variables, as the row says. -/
import Derived.Test.YtjkjicgdffnmbaaDoorCards
import Derived.Test.YtjkjicgdffnmbaaDoorTie
import Derived.SevenTiedAt
import Derived.Lib.LaidU8
import Derived.Test.YtjkjicgdffnmbaaDoorPart6
namespace Go.Proofs.YtjkjicgdffnmbaaDoor.lexerNumbers
open Go.RowKit Go.Lift
set_option maxRecDepth 100000
set_option linter.unusedVariables false

theorem run_S (c : zqaj) {β : Type} (x : ST.dens (zqak c).params × BT.dens (zqak c).ins) (k : ST.dens (zqak c).res × BT.dens (zqak c).outs → Option β) :
    (zqak c).run x k = c x.1.1.1 x.1.2.1.1 x.1.2.2.1.1 x.1.2.2.2.1.1 x.1.2.2.2.2.1.1 (fun r0 => k (((r0, ()), ()), ())) := rfl

theorem whiteAt_of {g : Nat} {w : World} (h : Lib.WhiteTab g w) : WhiteAt g w := by
  obtain ⟨T, oT, R, oR, a, b, c, d, e⟩ := h
  refine ⟨T, oT, R, oR, fun i v hv => ?_, fun i v hv => ?_, fun i v hv => ?_⟩
  · match i, hv with
    | 0, hv => cases hv; exact a
    | i + 1, hv => cases hv
  · match i, hv with
    | 0, hv => cases hv; exact b
    | 1, hv => cases hv; exact c
    | 2, hv => cases hv; exact d
    | i + 3, hv => cases hv
  · rw [List.getElem?_map] at hv
    obtain ⟨z, hz, rfl⟩ := Option.map_eq_some_iff.1 hv
    have hl : i < Lib.whiteT.length := (List.getElem?_eq_some_iff.1 hz).1
    have := e i hl
    rw [List.getD_eq_getElem?_getD, hz] at this
    exact this

theorem own : ownKnob Tryd.prog.godebug = none := by kernel_rfl

theorem opened (W : World) (hsh : W.ShapedOpen Tryd.prog) (hl0 : laidMetH Tryd.prog Rows.lexerNumbersRow.laid W) : Opened Tryd.prog W := by
  have hl : laidMet Tryd.prog Rows.lexerNumbersRow.laid W := (MakeChecks.laidMetH_plain _ _ _ (by kernel_rfl)).mp hl0
  refine ⟨hsh, fun x hx hn => ?_, fun x hx _ => ?_, fun g hg => ?_⟩
  · have hx : x = ("internal/strconv.uint64pow10", .u64, Lib.pow10Tab) ∨ x = ("strings.asciiSpace", .u8, Lib.asciiSpaceTab) := by simpa [knownTabs] using hx
    rcases hx with rfl | rfl
    · exact Lib.tabIs_of_head (g := 3) (t := 119) (e := 82) (n := 20) (by kernel_rfl) (by kernel_rfl) Tryd.underlying119 Tryd.underlying82 (by kernel_rfl) (by kernel_rfl) (show laidMet _ (("internal/strconv.uint64pow10", Rows.laid_internal_strconv_uint64pow10) :: _) _ from hl.tail.tail)
    · exact Lib.tabIs_of_head (g := 0) (t := 65) (e := 5) (n := 256) (by kernel_rfl) (by kernel_rfl) Tryd.underlying65 Tryd.underlying5 (by kernel_rfl) (by kernel_rfl) (show laidMet _ (("strings.asciiSpace", Rows.laid_strings_asciiSpace) :: _) _ from hl.tail.tail.tail.tail.tail.tail.tail)
  · have hx : x = "strconv.ErrSyntax" ∨ x = "strconv.ErrRange" := by simpa [knownErrs] using hx
    rcases hx with rfl | rfl
    · exact laid_err (g := 4) (ti := 62) (by kernel_rfl) (by kernel_rfl) Tryd.underlying62 hl.tail.tail.tail.tail.tail
    · exact laid_err (g := 5) (ti := 62) (by kernel_rfl) (by kernel_rfl) Tryd.underlying62 hl.tail.tail.tail.tail
  · have hr : Lib.VarReads Tryd.prog W "unicode.White_Space" Lib.whiteData := Lib.laidMet.reads hl (.tail _ (.tail _ (.tail _ (.tail _ (.tail _ (.tail _ (.head _)))))))
    have h2 := whiteTab_of_reads { zq16 with } ⟨by kernel_rfl, by kernel_rfl, by kernel_rfl, by kernel_rfl, by kernel_rfl, by kernel_rfl, by kernel_rfl, by kernel_rfl⟩ hr
    obtain rfl : zq15.g 6 = g := Option.some.inj ((show Tryd.prog.globalNamed "unicode.White_Space" = some (zq15.g 6) by kernel_rfl).symm.trans hg)
    exact whiteAt_of h2

set_option maxHeartbeats 4000000 in
theorem lifted (os : Os) (started : os.Started) (H : Type) (enc : TypeId × Value → H) :
    ReturnsInHanded {} Tryd.checked os 3 .any (fun w args => (Rows.lexerNumbersSpec.pre enc Tryd.prog Tryd.f3 Rows.lexerNumbersRow.domain false w args ∧ laidMetH Tryd.prog Rows.lexerNumbersRow.laid w) ∧ sizedMet enc Tryd.prog Tryd.f3 (OpenSpec.ofChange Rows.lexerNumbersSpec) false w args) (Rows.lexerNumbersSpec.post enc Tryd.prog Tryd.f3 false true false false) := by
  refine handed_laid (C := Tryd.checked) own started (by kernel_rfl) Tryd.func3
    (ChangeSpec.witness_shaped (enc := enc) (C := Tryd.checked) (os := os) (X := fun w _ => laidMetH Tryd.prog Rows.lexerNumbersRow.laid w) false (World.laidAll Tryd.prog os Rows.lexerNumbersRow.laid) #[.int .i64 0, .int .i64 0, .int .i64 0, .int .i64 0, .int .i64 0] 8 (World.laidAll_os _ _ _)
      (World.shaped_of_ZipB (by kernel_rfl) (by kernel_rfl)) (by kernel_rfl) (by kernel_rfl) (by kernel_rfl)
      (by rw [MakeChecks.laidMetH_plain _ _ _ (by kernel_rfl)]; exact laidMet_laidAll _ (by kernel_rfl) (by kernel_rfl))) ?_
  intro W base args ds gs before hval hW hsh hl
  exact law_calls (P := Tryd.prog) (tb := 4) zqb1 rfl rfl rfl (by kernel_rfl) (by kernel_rfl) (by kernel_rfl) (by kernel_rfl) Tryd.underlying4 rfl
    (fun ds h => by
      have h : ds.length = 5 := h.trans (by kernel_rfl)
      match ds, h with
      | [d1, d2, d3, d4, d5], _ => exact ⟨rfl, rfl, rfl⟩)
    (fun {β} x y k hw => ⟨(((true, ()), ()), ()), rfl, (run_S _ _ _).trans (lexerNumbers _ _ _ _ _ _)⟩) hval (opened W hsh hl) hW

theorem over : Rows.lexerNumbersRow.holds Tryd.pinned (OpenSpec.ofChange Rows.lexerNumbersSpec) :=
  OpenClaim.holds_of_wide 3 Tryd.f3 rfl rfl rfl rfl rfl rfl rfl ⟨rfl, rfl, rfl, rfl, rfl⟩ rfl rfl rfl rfl rfl (by kernel_rfl) Tryd.func3 (by kernel_rfl)
    (of_decide_eq_true (by kernel_rfl)) (by unfold Func.isWrapper; first | (rw [if_pos (by decide +kernel)]; kernel_rfl) | (rw [if_neg (by decide +kernel)]; exact ⟨rfl, rfl⟩))
    (fun os started H enc _ => lifted os started H enc)

theorem proved : Rows.LexerNumbersCardSaid :=
  Claim7.holds_tied_plain_at .later [] [.data, .data, .data, .data, .sentinel, .sentinel, .listed, .data, .pinned] true (true, "cfeb04aa349da9d3e5844b7a0145cf694646ef56246d2d1051022937dcb30fb0") true over (fun _ h => by cases h) (by kernel_rfl) (fun _ h => by cases h) lexerNumbers_row_tie rfl ⟨rfl, rfl⟩ (by kernel_rfl) rfl
    (fun f fn hf hfn => by
      obtain rfl : f = 3 := Option.some.inj ((show Tryd.prog.funcNamed "pagewatch/pagewatchlaw06.LexerNumbers" = some 3 by kernel_rfl).symm.trans hf) |>.symm
      obtain rfl : fn = Tryd.f3 := (Option.some.inj (Tryd.func3.symm.trans hfn)).symm
      exact ⟨by kernel_rfl, fun j t ht => by
        rw [Tryd.params3] at ht
        have hm : t ∈ [3, 3, 3, 3, 3] := by simpa using Array.mem_of_getElem? ht
        have hall : ([3, 3, 3, 3, 3].all fun u => !Tryd.prog.wantsStandIn u) = true := by kernel_rfl
        exact (show Tryd.prog.wantsStandIn t = false by simpa using List.all_eq_true.1 hall t hm)⟩)
    (by kernel_rfl)
#print axioms proved
end Go.Proofs.YtjkjicgdffnmbaaDoor.lexerNumbers

