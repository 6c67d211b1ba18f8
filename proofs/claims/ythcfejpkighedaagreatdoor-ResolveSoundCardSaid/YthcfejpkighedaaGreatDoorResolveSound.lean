/- ResolveSound answers true at every input. No conditions but the library's laid variables, as the row says. -/
import Derived.Test.YthcfejpkighedaaGreatDoorCards
import Derived.Test.YthcfejpkighedaaGreatDoorTie
import Derived.SevenTiedAt
import Derived.Lib.LaidU8
import Derived.Test.YthcfejpkighedaaGreatDoorPart10
namespace Go.Proofs.YthcfejpkighedaaGreatDoor.resolveSound
open Go.RowKit Go.Lift
set_option maxRecDepth 100000
set_option linter.unusedVariables false

theorem whiteAt_of {g : Nat} {w : World} (h : Lib.WhiteTab g w) : Qa1 g w := by
  obtain ⟨T, oT, R, oR, a, b, c, d, e⟩ := h
  refine ⟨T, oT, R, oR, fun i v hv => ?_, fun i v hv => ?_, fun i v hv => ?_⟩
  · match i, hv with
    | 0, hv => cases hv; exact a
    | i + 1, hv => cases hv
  · match i, hv with
    | 0, hv => cases hv; exact b
    | 1, hv => cases hv; exact c
    | 2, hv => cases hv; exact d
    | i + 3, hv => cases hv
  · rw [List.getElem?_map] at hv
    obtain ⟨z, hz, rfl⟩ := Option.map_eq_some_iff.1 hv
    have hl : i < Lib.whiteT.length := (List.getElem?_eq_some_iff.1 hz).1
    have := e i hl
    rw [List.getD_eq_getElem?_getD, hz] at this
    exact this

theorem own : ownKnob Tryz.prog.godebug = none := by kernel_rfl

theorem opened (W : World) (hsh : W.ShapedOpen Tryz.prog) (hl0 : laidMetH Tryz.prog Rows.resolveSoundRow.laid W) : Opened Tryz.prog W := by
  have hl : laidMet Tryz.prog Rows.resolveSoundRow.laid W := (MakeChecks.laidMetH_plain _ _ _ (by kernel_rfl)).mp hl0
  refine ⟨hsh, fun x hx hn => ?_, fun x hx hn => ?_, fun g hg => ?_⟩
  · have hx : x = ("internal/strconv.uint64pow10", .u64, Lib.pow10Tab) ∨ x = ("strings.asciiSpace", .u8, Lib.asciiSpaceTab) := by simpa [Q4x] using hx
    rcases hx with rfl | rfl
    · exact Lib.tabIs_of_head (g := 7) (t := 280) (e := 261) (n := 20) (by kernel_rfl) (by kernel_rfl) Tryz.underlying280 Tryz.underlying261 (by kernel_rfl) (by kernel_rfl) (show laidMet _ (("internal/strconv.uint64pow10", Rows.laid_internal_strconv_uint64pow10) :: _) _ from hl.tail.tail)
    · exact Lib.tabIs_of_head (g := 0) (t := 171) (e := 5) (n := 256) (by kernel_rfl) (by kernel_rfl) Tryz.underlying171 Tryz.underlying5 (by kernel_rfl) (by kernel_rfl) (show laidMet _ (("strings.asciiSpace", Rows.laid_strings_asciiSpace) :: _) _ from hl.tail.tail.tail.tail.tail.tail.tail)
  · have hx : x = "strconv.ErrSyntax" ∨ x = "strconv.ErrRange" := by simpa [Q4y] using hx
    rcases hx with rfl | rfl
    · exact Qg7 (g := 5) (ti := 238) (by kernel_rfl) (by kernel_rfl) Tryz.underlying238 hl.tail.tail.tail.tail.tail
    · exact Qg7 (g := 6) (ti := 238) (by kernel_rfl) (by kernel_rfl) Tryz.underlying238 hl.tail.tail.tail.tail
  · have hr : Lib.VarReads Tryz.prog W "unicode.White_Space" Lib.whiteData := Lib.laidMet.reads hl (.tail _ (.tail _ (.tail _ (.tail _ (.tail _ (.tail _ (.head _)))))))
    have h2 := whiteTab_of_reads { @zq5s ⟨0⟩ with } ⟨by kernel_rfl, by kernel_rfl, by kernel_rfl, by kernel_rfl, by kernel_rfl, by kernel_rfl, by kernel_rfl, by kernel_rfl⟩ hr
    obtain rfl : zq5r.g 6 = g := Option.some.inj ((show Tryz.prog.globalNamed "unicode.White_Space" = some (zq5r.g 6) by kernel_rfl).symm.trans hg)
    exact whiteAt_of h2

set_option maxHeartbeats 4000000 in
theorem lifted [Sl] (F : SndFacts) (os : Os) (started : os.Started) (H : Type) (enc : TypeId × Value → H) :
    ReturnsInHanded {} Tryz.checked os 4 .any (fun w args => (Rows.resolveSoundSpec.pre enc Tryz.prog Tryz.f4 Rows.resolveSoundRow.domain false w args ∧ laidMetH Tryz.prog Rows.resolveSoundRow.laid w) ∧ sizedMet enc Tryz.prog Tryz.f4 (OpenSpec.ofChange Rows.resolveSoundSpec) false w args) (Rows.resolveSoundSpec.post enc Tryz.prog Tryz.f4 false true false false) := by
  refine Qh2 (C := Tryz.checked) own started (by kernel_rfl) Tryz.func4
    (ChangeSpec.witness_shaped (enc := enc) (C := Tryz.checked) (os := os) (X := fun w _ => laidMetH Tryz.prog Rows.resolveSoundRow.laid w) false (World.laidAll Tryz.prog os Rows.resolveSoundRow.laid) #[.slice none 0 0] 8 (World.laidAll_os _ _ _)
      (World.shaped_of_ZipB (by kernel_rfl) (by kernel_rfl)) (by kernel_rfl) (by kernel_rfl) (by kernel_rfl)
      (by rw [MakeChecks.laidMetH_plain _ _ _ (by kernel_rfl)]; exact laidMet_laidAll _ (by kernel_rfl) (by kernel_rfl))) ?_
  intro W base args ds gs before hval hW hsh hl
  exact Qjl (P := Tryz.prog) (tb := 4) zqw6 rfl rfl rfl (by kernel_rfl) (by kernel_rfl) (by kernel_rfl) (by kernel_rfl) Tryz.underlying4 rfl
    (fun ds h => by
      have h : ds.length = 1 := h.trans (by kernel_rfl)
      match ds, h with
      | [d1], _ => exact ⟨rfl, rfl, rfl⟩)
    (fun {β} x y k hw => ⟨(((true, ()), ()), ()), rfl, Qnq F _ _⟩) hval (opened W hsh hl) hW

theorem over : Rows.resolveSoundRow.holds Tryz.pinned (OpenSpec.ofChange Rows.resolveSoundSpec) :=
  OpenClaim.holds_of_wide 4 Tryz.f4 rfl rfl rfl rfl rfl rfl rfl ⟨rfl, rfl, rfl, rfl, rfl⟩ rfl rfl rfl rfl rfl (by kernel_rfl) Tryz.func4 (by kernel_rfl)
    (of_decide_eq_true (by kernel_rfl)) (by unfold Func.isWrapper; first | (rw [if_pos (by decide +kernel)]; kernel_rfl) | (rw [if_neg (by decide +kernel)]; exact ⟨rfl, rfl⟩))
    (fun os started H enc _ => (@lifted ⟨0⟩ Ql3) os started H enc)

theorem proved : Rows.ResolveSoundCardSaid :=
  Claim7.holds_tied_plain_at .later [] [.data, .data, .data, .data, .sentinel, .sentinel, .listed, .data, .pinned] true (true, "201acd94b98a6f195a794913256c6cd57cf15bfcde5c09f6aaaf1b993214de69") true over (fun _ h => by cases h) (by kernel_rfl) (fun _ h => by cases h) resolveSound_row_tie rfl ⟨rfl, rfl⟩ (by kernel_rfl) rfl
    (fun f fn hf hfn => by
      obtain rfl : f = 4 := Option.some.inj ((show Tryz.prog.funcNamed "pagewatch/pagewatchlaw08.ResolveSound" = some 4 by kernel_rfl).symm.trans hf) |>.symm
      obtain rfl : fn = Tryz.f4 := (Option.some.inj (Tryz.func4.symm.trans hfn)).symm
      exact ⟨by kernel_rfl, fun j t ht => by
        rw [Tryz.params4] at ht
        have hm : t ∈ [38] := by simpa using Array.mem_of_getElem? ht
        have hall : ([38].all fun u => !Tryz.prog.wantsStandIn u) = true := by kernel_rfl
        exact (show Tryz.prog.wantsStandIn t = false by simpa using List.all_eq_true.1 hall t hm)⟩)
    (by kernel_rfl)
#print axioms proved
end Go.Proofs.YthcfejpkighedaaGreatDoor.resolveSound

