/- Part5: LiftZ. -/
import Derived.Shelf.Sort.Plain
import Derived.Shelf.Slices.In.SortNone
import Derived.Sort.OwnSortedInts
import Derived.Shelf.Slices.CompactI
import Derived.Lib.RowBridge
import Derived.Test.YthliedaegjdljaaGreatPart4
set_option linter.unusedVariables false
set_option linter.unusedSimpArgs false
namespace Go.Lift
open Go.RowKit Go.Shelf Go.Sort
theorem DList.ints {w : World} {ok : Nat → Prop} {k : IntKind} : ∀ {l : List Int} {xs : List Value}, DList (fun (x : Int) u => DRep w ok (.int k) x u) l xs ↔ xs = l.map (Value.int k)
 | [], xs => by simp [DList]
 | x :: l, xs => by
  simp only [DList, List.map_cons]
  constructor
  ·rintro ⟨u, v, rfl, h1, h2⟩
   simp only [DRep] at h1
   subst h1
   rw [DList.ints.1 h2]
   rfl
  ·rintro rfl
   exact ⟨[.int k x], _, rfl, rfl, DList.ints.2 rfl⟩
abbrev sortInts (l : List Int) : List Int := l.mergeSort fun x y => decide (x ≤ y)
def sortF (t : TypeId) : RowF := ⟨t, .int .i64, false, fun l => decide (l.length < 4611686018427387904), sortInts, none⟩
theorem sort_rowok {P : Program} {ρ : Shelf.Ren} {f : FuncId} {t : TypeId} (L : Go.Proofs.Lays.n189 P ρ) (hf : ρ.f 189 = f)
  (hfn : ∃ fn, P.funcs[f]? = some fn ∧ (fn.name == "runtime.NumGoroutine") = false ∧ fn.body.isNone = false) : RowOk P f (sortF t) := by
 refine ⟨hfn, rfl, fun _ l => List.length_mergeSort l, fun w base sv l xs hmax _hbase _ hd hown => ?_⟩
 subst hf
 change Calls P _ #[sv] w _
 have hxs : xs = l.map (Value.int .i64) := DList.ints.1 hd
 subst hxs
 have hmax' : l.length < 4611686018427387904 := of_decide_eq_true hmax
 rcases hown.2 with ⟨rfl, h0⟩ | ⟨g, cap, cur, rfl, hbase, hb, h1, h2, h3, h4⟩
 ·have hl : l = [] := List.eq_nil_of_length_eq_zero h0
  subst hl
  refine (Go.Proofs.Any.slices_Sort_int_none L none 0 w).mono fun e w' ⟨he, hw⟩ => ?_
  subst hw
  refine ⟨.slice none 0 0, he, ⟨rfl, rfl, rfl, Nat.le_refl _, fun _ _ _ => rfl⟩, fun _ => rfl, .inl rfl, [], DList.ints.2 ?_, ?_⟩
  ·simp [sortF, sortInts]
  ·have : (sortF t).run [] = [] := by simp [sortF, sortInts]
   rw [this]
   exact ⟨rfl, .inl ⟨rfl, rfl⟩⟩
 ·have h3' : cur.size = cap * 1 := h3
  have h4' : cur.toList.take l.length = l.map (Value.int .i64) := by
   have : l.length * (sortF t).e.size = l.length := Nat.mul_one _
   rw [this] at h4
   exact h4
  have hg : g < w.heap.size := (Array.getElem?_eq_some_iff.1 hb).1
  refine (Go.Proofs.Any.slices_Sort_int L g 0 cap l w (holds_of_blockI hb h4') hg hmax').mono fun e w' ⟨he, n, os, hw⟩ => ?_
  subst hw
  have hlen : (sortInts l).length = l.length := List.length_mergeSort l
  refine ⟨.slice (some ⟨g, 0, none⟩) l.length cap, he, grownBy_sortedI _, fun _ => rfl, .inl rfl, (sortInts l).map (Value.int .i64), DList.ints.2 rfl, ?_⟩
  have := ownsRow_sortedI (n := n) (os := os) (ts := sortInts l) hlen hbase hb h1 h2 h3'
  show World.ownsRow _ base t 1 _ (sortInts l).length _
  rw [hlen]
  exact this
def compactF (t : TypeId) : RowF := ⟨t, .int .i64, true, fun l => decide (l.length < 4611686018427387904), fun l => Go.Lib.compact l, none⟩
theorem compact_rowok {P : Program} {ρ : Shelf.Ren} {f : FuncId} {t : TypeId} (L : Go.Proofs.Lays2.n20 P ρ) (hf : ρ.f 20 = f)
  (hfn : ∃ fn, P.funcs[f]? = some fn ∧ (fn.name == "runtime.NumGoroutine") = false ∧ fn.body.isNone = false) : RowOk P f (compactF t) := by
 have hc0 : ∀ l : List Int, (Go.Lib.compact l).length ≤ l.length := Go.Lib.compact_length_le
 refine ⟨hfn, rfl, fun h => (by cases h), fun w base sv (l : List Int) xs hmax _hbase _ hd hown => ?_⟩
 subst hf
 change Calls P _ #[sv] w _
 have hxs : xs = l.map (Value.int .i64) := DList.ints.1 hd
 subst hxs
 have hmax' : l.length < 4611686018427387904 := of_decide_eq_true hmax
 rcases hown.2 with ⟨rfl, h0⟩ | ⟨g, cap, cur, rfl, hbase, hb, h1, h2, h3, h4⟩
 ·have hl : l = [] := List.eq_nil_of_length_eq_zero h0
  subst hl
  have hnil : Go.Lib.compact ([] : List Int) = [] := List.eq_nil_of_length_eq_zero (Nat.le_zero.1 (hc0 []))
  refine (Go.Proofs.Any.slices_Compact_int_empty L none 0 w).mono fun e w' ⟨he, hw⟩ => ?_
  subst hw
  refine ⟨.slice none 0 0, he, ⟨rfl, rfl, rfl, Nat.le_refl _, fun _ _ _ => rfl⟩, fun h => (by cases h), .inl rfl, [], DList.ints.2 ?_, ?_⟩
  ·show [] = List.map _ (Go.Lib.compact [])
   rw [hnil]; rfl
  ·show World.ownsRow _ base t 1 _ (Go.Lib.compact ([] : List Int)).length _
   rw [hnil]
   exact ⟨rfl, .inl ⟨rfl, rfl⟩⟩
 ·have h3' : cur.size = cap * 1 := h3
  have h4' : cur.toList.take l.length = l.map (Value.int .i64) := by
   have h4 : cur.toList.take (l.length * 1) = l.map (Value.int .i64) := h4
   rw [Nat.mul_one] at h4
   exact h4
  refine (Go.Proofs.Any.slices_Compact_int L g 0 cap l w (holds_of_blockI hb h4') (Nat.le_of_lt (Nat.lt_trans hmax' (by decide))) h1).mono fun e w' ⟨he, q, hw⟩ => ?_
  have hle := hc0 l
  generalize hcl : (Go.Lib.compact l : List Int) = cl at he hw hle
  have hw' : w' = grow (putRow (Value.int .i64) (Sort.ahead w q) g 0 (cl ++ List.replicate (l.length - cl.length) 0).toArray) #[] := by rw [grow_empty]; exact hw
  subst hw'
  have hlen : (cl ++ List.replicate (l.length - cl.length) (0 : Int)).length = l.length := by simp; omega
  have hown' := ownsRow_sortedI (n := q) (os := #[]) (ts := cl ++ List.replicate (l.length - cl.length) (0 : Int)) hlen hbase hb h1 h2 h3'
  refine ⟨.slice (some ⟨g, 0, none⟩) cl.length cap, he, grownBy_sortedI _, fun h => (by cases h), .inl rfl, cl.map (Value.int .i64), ?_, ?_⟩
  ·have : cl.map (Value.int .i64) = (Go.Lib.compact l).map (Value.int .i64) := by rw [hcl]
   rw [this]
   exact DList.ints.2 rfl
  ·show World.ownsRow _ base t 1 _ (Go.Lib.compact l).length _
   rw [hcl]
   obtain ⟨_, ⟨h, _⟩ | ⟨g', cap', cur', hv, hb1, hb2, hb3, hb4, hb5, hb6⟩⟩ := hown'
   ·cases h
   ·simp only [Value.slice.injEq, Option.some.injEq, Addr.mk.injEq, and_true, true_and] at hv
    obtain ⟨rfl, rfl⟩ := hv
    refine ⟨by simp, .inr ⟨g, cap, cur', rfl, hb1, hb2, by omega, hb4, hb5, ?_⟩⟩
    rw [Nat.mul_one] at hb6 ⊢
    have h5 : (cur'.toList.take l.length).take cl.length = cur'.toList.take cl.length := by rw [List.take_take, Nat.min_eq_left hle]
    rw [← h5, hb6, List.map_append, List.take_left' (by simp)]
end Go.Lift
