/- Part5: LiftZ. -/
import Derived.Shelf.Sort.Plain
import Derived.Shelf.Slices.In.SortNone
import Derived.Sort.OwnSortedInts
import Derived.Shelf.Slices.CompactI
import Derived.Lib.RowBridge
import Derived.Test.YtfgmlgnpnoijcadGreatPart4
set_option linter.unusedVariables false
set_option linter.unusedSimpArgs false
namespace Go.Lift
open Go.RowKit Go.Shelf Go.Sort
theorem DList.ints {w : World} {ok : Nat → Prop} {k : IntKind} : ∀ {l : List Int} {xs : List Value}, DList (fun (x : Int) u => DRep w ok (.int k) x u) l xs ↔ xs = l.map (Value.int k)
 | [], xs => by simp [DList]
 | x :: l, xs => by
  simp only [DList, List.map_cons]
  constructor
  ·rintro ⟨u, v, rfl, h1, h2⟩
   simp only [DRep] at h1
   subst h1
   rw [DList.ints.1 h2]
   rfl
  ·rintro rfl
   exact ⟨[.int k x], _, rfl, rfl, DList.ints.2 rfl⟩
abbrev Qh (l : List Int) : List Int := l.mergeSort fun x y => decide (x ≤ y)
def Q9p (t : TypeId) : RowF := ⟨t, .int .i64, false, fun l => decide (l.length < 4611686018427387904), Qh, none⟩
theorem Qib {P : Program} {ρ : Shelf.Ren} {f : FuncId} {t : TypeId} (L : Go.Proofs.Lays.n189 P ρ) (hf : ρ.f 189 = f)
  (hfn : ∃ fn, P.funcs[f]? = some fn ∧ (fn.name == "runtime.NumGoroutine") = false ∧ fn.body.isNone = false) : RowOk P f (Q9p t) := by
 refine ⟨hfn, rfl, fun _ l => List.length_mergeSort l, fun w base sv l xs hmax _hbase _ hd hown => ?_⟩
 subst hf
 change Calls P _ #[sv] w _
 have hxs : xs = l.map (Value.int .i64) := DList.ints.1 hd
 subst hxs
 have hmax' : l.length < 4611686018427387904 := of_decide_eq_true hmax
 rcases hown.2 with ⟨rfl, h0⟩ | ⟨g, cap, cur, rfl, hbase, hb, h1, h2, h3, h4⟩
 ·have hl : l = [] := List.eq_nil_of_length_eq_zero h0
  subst hl
  refine (Go.Proofs.Any.slices_Sort_int_none L none 0 w).mono fun e w' ⟨he, hw⟩ => ?_
  subst hw
  refine ⟨.slice none 0 0, he, ⟨rfl, rfl, rfl, Nat.le_refl _, fun _ _ _ => rfl⟩, fun _ => rfl, .inl rfl, [], DList.ints.2 ?_, ?_⟩
  ·simp [Q9p, Qh]
  ·have : (Q9p t).run [] = [] := by simp [Q9p, Qh]
   rw [this]
   exact ⟨rfl, .inl ⟨rfl, rfl⟩⟩
 ·have h3' : cur.size = cap * 1 := h3
  have h4' : cur.toList.take l.length = l.map (Value.int .i64) := by
   have : l.length * (Q9p t).e.size = l.length := Nat.mul_one _
   rw [this] at h4
   exact h4
  have hg : g < w.heap.size := (Array.getElem?_eq_some_iff.1 hb).1
  refine (Go.Proofs.Any.slices_Sort_int L g 0 cap l w (holds_of_blockI hb h4') hg hmax').mono fun e w' ⟨he, n, os, hw⟩ => ?_
  subst hw
  have hlen : (Qh l).length = l.length := List.length_mergeSort l
  refine ⟨.slice (some ⟨g, 0, none⟩) l.length cap, he, grownBy_sortedI _, fun _ => rfl, .inl rfl, (Qh l).map (Value.int .i64), DList.ints.2 rfl, ?_⟩
  have := ownsRow_sortedI (n := n) (os := os) (ts := Qh l) hlen hbase hb h1 h2 h3'
  show World.ownsRow _ base t 1 _ (Qh l).length _
  rw [hlen]
  exact this
end Go.Lift
