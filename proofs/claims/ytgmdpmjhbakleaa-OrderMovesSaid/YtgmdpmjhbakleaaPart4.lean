/- Records made by the dice, in plain Lean. -/
import Derived.Test.YtgmdpmjhbakleaaPart3
namespace Go.Lift
open Go.RowKit Go.IntWalk
noncomputable section
set_option linter.unusedVariables false
set_option linter.unusedSimpArgs false

structure HostsOk (hosts : List Host) (ahead : List Int) : Prop where
  len : ahead.length = hosts.length
  most : hosts.length ≤ 3
  drift : ∀ h ∈ hosts, h.2 = 0 ∨ h.2 = 100 ∨ h.2 = 50000 ∨ h.2 = 500000
  off : ∀ a ∈ ahead, a = 0 ∨ a = 7 ∨ a = 100
/-- A comparison at a true time. -/
def SyncOk (nh : Nat) (ahead : List Int) (s : Sync) : Prop :=
  0 ≤ s.1 ∧ s.1 < nh ∧ ∃ t, 864000 ≤ t ∧ t < 864400 ∧ s.2.1 = t + ahead.getD s.1.toNat 0 ∧ t - 20 ≤ s.2.2.1 ∧ s.2.2.1 ≤ t ∧ t ≤ s.2.2.2 ∧ s.2.2.2 ≤ t + 15
def EventOk (nh : Nat) (ahead : List Int) (e : Event) (t : Int) : Prop :=
  0 ≤ e.1 ∧ e.1 < nh ∧ 864000 ≤ t ∧ t < 864300 ∧ e.2.1 = t + ahead.getD e.1.toNat 0
def LinkOk (times : List Int) (l : Link) : Prop :=
  0 ≤ l.1 ∧ l.1 < times.length ∧ 0 ≤ l.2.1 ∧ l.2.1 < times.length ∧ l.1 ≠ l.2.1 ∧ 0 ≤ l.2.2 ∧ times.getD l.1.toNat 0 + l.2.2 ≤ times.getD l.2.1.toNat 0
/-- What a record of the dice is. -/
structure RecOk (n : Int) (r : Rec) (ahead times : List Int) : Prop where
  hosts : HostsOk r.1 ahead
  some_ : 1 ≤ r.1.length
  fewS : r.2.1.length ≤ 8
  syncs : ∀ s ∈ r.2.1, SyncOk r.1.length ahead s
  lenE : times.length = r.2.2.1.length
  fewE : (r.2.2.1.length : Int) ≤ n
  events : ∀ i, i < r.2.2.1.length → EventOk r.1.length ahead (r.2.2.1.getD i (0, 0, [])) (times.getD i 0)
  fewL : r.2.2.2.length ≤ 8
  links : ∀ l ∈ r.2.2.2, LinkOk times l

theorem getD_mem {α : Type} {l : List α} {i : Nat} {d : α} (h : i < l.length) : l.getD i d ∈ l := by simp [List.getD, h]
theorem getD_append {α : Type} {l l' : List α} {i : Nat} {d : α} (h : i < l.length) : (l ++ l').getD i d = l.getD i d := by simp [List.getD, List.getElem?_append_left h]
theorem getD_last {α : Type} {l : List α} {x d : α} : (l ++ [x]).getD l.length d = x := by simp [List.getD]

theorem record_p1 (n N : Int) (hN : 1 ≤ N ∧ N ≤ 3) {d : Dice} (hd : DiceOk d) :
    ∃ q : Dice × List Int × List Host, (DiceOk q.1 ∧ HostsOk q.2.2 q.2.1 ∧ (q.2.2.length : Int) = N) ∧
      ∀ {β : Type} (k : zq4e β), zq5i k n N d.1 d.2 [] [] [] [] [] [] [] [] [] = k n q.1.1 q.1.2 q.2.1 [] [] [] [] q.2.2 [] [] [] := by
  refine while_loop (σ := Int × Dice × List Int × List Host) (ρ := Dice × List Int × List Host) (Kt := zq4e)
    (fun k m s => zq5g m k n s.1 s.2.1.1 s.2.1.2 s.2.2.1 [] [] [] [] s.2.2.2 [] [] []) (fun k q => k n q.1.1 q.1.2 q.2.1 [] [] [] [] q.2.2 [] [] [])
    (fun s => 0 ≤ s.1 ∧ s.1 + s.2.2.2.length = N ∧ DiceOk s.2.1 ∧ HostsOk s.2.2.2 s.2.2.1) (fun s => s.1.toNat) _ ?_ fuel (N, d, [], []) ⟨by omega, by simp, hd, ⟨rfl, by simp, by simp, by simp⟩⟩ (lt_fuel (by show N.toNat < _; omega))
  rintro ⟨i, d, ahead, hosts⟩ ⟨h0, h1, h2, h3⟩
  simp only at h0 h1 h2 h3
  have hl := h3.len
  by_cases hi : 0 < i
  · left
    obtain ⟨x, d1, hx, hd1, f1⟩ := one_ok (l := [0, 0, 100, 50000, 500000]) (by simp) (by simp) h2
    obtain ⟨y, d2, hy, hd2, f2⟩ := one_ok (l := [0, 7, 100]) (by simp) (by simp) hd1
    refine ⟨(i - 1, d2, ahead ++ [y], hosts ++ [(List.getD [[100, 98], [119, 101, 98], [108, 98]] hosts.length [], x)]), ⟨by simp only; omega, by simp; omega, hd2, ?_⟩, by simp only; omega, fun k m => ?_⟩
    · refine ⟨by simp [hl], by simp; omega, fun h hh => ?_, fun a ha => ?_⟩
      · simp only [List.mem_append, List.mem_singleton] at hh
        rcases hh with hh | rfl
        · exact h3.drift h hh
        · simpa using hx
      · simp only [List.mem_append, List.mem_singleton] at ha
        rcases ha with ha | rfl
        · exact h3.off a ha
        · simpa using hy
    · simp (disch := omega) only [zq5h, zq4y, pair_eta, c_pos, c_inb, c_room, f1, f2, i64_in, List.length_cons, List.length_nil, Int.toNat_natCast]
  · right
    exact ⟨(d, ahead, hosts), ⟨h2, h3, by simp only; omega⟩, fun k m => by simp (disch := omega) only [zq5h, zq4y, c_neg]⟩

theorem ahead_bd {hosts : List Host} {ahead : List Int} (h : HostsOk hosts ahead) (i : Nat) : 0 ≤ ahead.getD i 0 ∧ ahead.getD i 0 ≤ 100 := by
  by_cases hi : i < ahead.length
  · have := h.off _ (getD_mem (d := 0) hi)
    omega
  · simp [List.getD, hi]

theorem record_p2 (n N : Int) (hN : 0 ≤ N ∧ N ≤ 4) {d : Dice} (hd : DiceOk d) {hosts : List Host} {ahead : List Int} (hh : HostsOk hosts ahead) (h1 : 1 ≤ hosts.length) :
    ∃ q : Dice × List Sync, (DiceOk q.1 ∧ (q.2.length : Int) = N ∧ ∀ s ∈ q.2, SyncOk hosts.length ahead s) ∧
      ∀ {β : Type} (k : zq4i β), zq5m k n N d.1 d.2 ahead [] [] [] [] hosts [] [] [] = k n q.1.1 q.1.2 ahead [] [] [] [] hosts q.2 [] [] := by
  have hl := hh.len
  have hm := hh.most
  refine while_loop (σ := Int × Dice × List Sync) (ρ := Dice × List Sync) (Kt := zq4i)
    (fun k m s => zq5k m k n s.1 s.2.1.1 s.2.1.2 ahead [] [] [] [] hosts s.2.2 [] []) (fun k q => k n q.1.1 q.1.2 ahead [] [] [] [] hosts q.2 [] [])
    (fun s => 0 ≤ s.1 ∧ s.1 + s.2.2.length = N ∧ DiceOk s.2.1 ∧ ∀ x ∈ s.2.2, SyncOk hosts.length ahead x) (fun s => s.1.toNat) _ ?_ fuel (N, d, []) ⟨by omega, by simp, hd, by simp⟩ (lt_fuel (by show N.toNat < _; omega))
  rintro ⟨i, d, syncs⟩ ⟨h0, h1', h2, h3⟩
  simp only at h0 h1' h2 h3
  by_cases hi : 0 < i
  · left
    obtain ⟨x, d1, hx0, hx1, hd1, f1⟩ := next_ok (n := (hosts.length : Int)) h2 (by omega)
    obtain ⟨y, d2, hy0, hy1, hd2, f2⟩ := next_ok (n := 400) hd1 (by omega)
    obtain ⟨z, d3, hz, hd3, f3⟩ := one_ok (l := [0, 3, 20]) (by simp) (by simp) hd2
    obtain ⟨u, d4, hu, hd4, f4⟩ := one_ok (l := [0, 2, 15]) (by simp) (by simp) hd3
    simp only [List.mem_cons, List.not_mem_nil, or_false] at hz hu
    have ha := ahead_bd hh x.toNat
    refine ⟨(i - 1, d4, syncs ++ [(x, 864000 + y + ahead.getD x.toNat 0, 864000 + y - z, 864000 + y + u)]), ⟨by simp only; omega, by simp; omega, hd4, ?_⟩, by simp only; omega, fun k m => ?_⟩
    · intro s hs
      simp only [List.mem_append, List.mem_singleton] at hs
      rcases hs with hs | rfl
      · exact h3 s hs
      · exact ⟨hx0, hx1, 864000 + y, by omega, by omega, rfl, by simp only; omega, by simp only; omega, by simp only; omega, by simp only; omega⟩
    · simp (disch := omega) only [zq5l, zq51, pair_eta, c_pos, c_inb, c_room, f1, f2, f3, f4, i64_in, List.length_cons, List.length_nil, Int.toNat_natCast]
  · right
    exact ⟨(d, syncs), ⟨h2, by simp only; omega, h3⟩, fun k m => by simp (disch := omega) only [zq5l, zq51, c_neg]⟩

theorem record_p3 (N : Int) (hN : 0 ≤ N ∧ N ≤ 1000) {d : Dice} (hd : DiceOk d) {hosts : List Host} {ahead : List Int} (hh : HostsOk hosts ahead) (h1 : 1 ≤ hosts.length) (syncs : List Sync) :
    ∃ q : Dice × List Int × List Event, (DiceOk q.1 ∧ (q.2.2.length : Int) = N ∧ q.2.1.length = q.2.2.length ∧ ∀ i, i < q.2.2.length → EventOk hosts.length ahead (q.2.2.getD i (0, 0, [])) (q.2.1.getD i 0)) ∧
      ∀ {β : Type} (k : zq4m β), zq5q k N d.1 d.2 ahead [] [] [] [] [] hosts syncs [] [] = k q.1.1 q.1.2 q.2.1 [] [] [] [] hosts syncs q.2.2 [] := by
  have hl := hh.len
  have hm := hh.most
  refine while_loop (σ := Int × Dice × List Int × List Event) (ρ := Dice × List Int × List Event) (Kt := zq4m)
    (fun k m s => zq5o m k s.1 s.2.1.1 s.2.1.2 ahead s.2.2.1 [] [] [] [] hosts syncs s.2.2.2 []) (fun k q => k q.1.1 q.1.2 q.2.1 [] [] [] [] hosts syncs q.2.2 [])
    (fun s => 0 ≤ s.1 ∧ s.1 + s.2.2.2.length = N ∧ s.2.2.1.length = s.2.2.2.length ∧ DiceOk s.2.1 ∧ ∀ i, i < s.2.2.2.length → EventOk hosts.length ahead (s.2.2.2.getD i (0, 0, [])) (s.2.2.1.getD i 0)) (fun s => s.1.toNat) _ ?_ fuel (N, d, [], []) ⟨by omega, by simp, rfl, hd, by simp⟩ (lt_fuel (by show N.toNat < _; omega))
  rintro ⟨i, d, times, evs⟩ ⟨h0, h1', hlen, h2, h3⟩
  simp only at h0 h1' hlen h2 h3
  by_cases hi : 0 < i
  · left
    obtain ⟨x, d1, hx0, hx1, hd1, f1⟩ := next_ok (n := (hosts.length : Int)) h2 (by omega)
    obtain ⟨y, d2, hy0, hy1, hd2, f2⟩ := next_ok (n := 300) hd1 (by omega)
    obtain ⟨z, d3, hz0, hz1, hd3, f3⟩ := next_ok (n := 3) hd2 (by omega)
    have ha := ahead_bd hh x.toNat
    refine ⟨(i - 1, d3, times ++ [864000 + y], evs ++ [(x, 864000 + y + ahead.getD x.toNat 0, List.getD [[117, 112], [100, 111, 119, 110], [115, 108, 111, 119]] z.toNat [])]), ⟨by simp only; omega, by simp; omega, by simp [hlen], hd3, ?_⟩, by simp only; omega, fun k m => ?_⟩
    · intro j hj
      simp only [List.length_append, List.length_singleton] at hj
      by_cases hj' : j < evs.length
      · rw [getD_append hj', getD_append (by omega)]
        exact h3 j hj'
      · obtain rfl : j = evs.length := by omega
        simp only
        rw [getD_last]
        rw [← hlen, getD_last]
        exact ⟨hx0, hx1, by omega, by omega, rfl⟩
    · simp (disch := omega) only [zq5p, zq54, pair_eta, c_pos, c_inb, c_room, f1, f2, f3, i64_in, List.length_cons, List.length_nil, Int.toNat_natCast]
  · right
    exact ⟨(d, times, evs), ⟨h2, by simp only; omega, hlen, h3⟩, fun k m => by simp (disch := omega) only [zq5p, zq54, c_neg]⟩

theorem record_p5 (N : Int) (hN : 0 ≤ N ∧ N ≤ 3) {d : Dice} (hd : DiceOk d) (hosts : List Host) (syncs : List Sync) (evs : List Event) {times : List Int} (ht : times.length ≤ 1000) (hb : ∀ i, i < times.length → 864000 ≤ times.getD i 0 ∧ times.getD i 0 < 864300) :
    ∃ q : Dice × List Link, (DiceOk q.1 ∧ q.2.length ≤ 3 ∧ ∀ l ∈ q.2, LinkOk times l) ∧
      ∀ {β : Type} (k : zq4u β), zq5w k N d.1 d.2 times [] [] [] [] hosts syncs evs [] = k q.1.1 q.1.2 times [] [] [] [] hosts syncs evs q.2 := by
  refine while_loop (σ := Int × Dice × List Link) (ρ := Dice × List Link) (Kt := zq4u)
    (fun k m s => zq5u m k s.1 s.2.1.1 s.2.1.2 times [] [] [] [] hosts syncs evs s.2.2) (fun k q => k q.1.1 q.1.2 times [] [] [] [] hosts syncs evs q.2)
    (fun s => 0 ≤ s.1 ∧ s.1 + s.2.2.length ≤ N ∧ DiceOk s.2.1 ∧ ∀ x ∈ s.2.2, LinkOk times x) (fun s => s.1.toNat) _ ?_ fuel (N, d, []) ⟨by omega, by simp, hd, by simp⟩ (lt_fuel (by show N.toNat < _; omega))
  rintro ⟨i, d, links⟩ ⟨h0, h1', h2, h3⟩
  simp only at h0 h1' h2 h3
  by_cases hi : 0 < i
  · by_cases ht1 : (1 : Int) < times.length
    · left
      obtain ⟨x, d1, hx0, hx1, hd1, f1⟩ := next_ok (n := (times.length : Int)) h2 (by omega)
      obtain ⟨y, d2, hy0, hy1, hd2, f2⟩ := next_ok (n := (times.length : Int)) hd1 (by omega)
      by_cases hxy : x = y
      · refine ⟨(i - 1, d2, links), ⟨by simp only; omega, by simp only; omega, hd2, h3⟩, by simp only; omega, fun k m => ?_⟩
        simp (disch := omega) only [zq5v, zq5a, zq5s, zq58, zq57, pair_eta, c_pos, c_npos, c_f, f1, f2, i64_in]
      · have bx := hb x.toNat (by omega)
        have by_ := hb y.toNat (by omega)
        by_cases hle : times.getD x.toNat 0 ≤ times.getD y.toNat 0
        · obtain ⟨z, d3, hz0, hz1, hd3, f3⟩ := next_ok (n := times.getD y.toNat 0 - times.getD x.toNat 0 + 1) hd2 (by omega)
          refine ⟨(i - 1, d3, links ++ [(x, y, z)]), ⟨by simp only; omega, by simp; omega, hd3, ?_⟩, by simp only; omega, fun k m => ?_⟩
          · intro l hl
            simp only [List.mem_append, List.mem_singleton] at hl
            rcases hl with hl | rfl
            · exact h3 l hl
            · exact ⟨hx0, hx1, hy0, hy1, hxy, hz0, by simp only; omega⟩
          · simp (disch := omega) only [zq5v, zq5a, zq5s, zq58, zq57, pair_eta, c_pos, c_nneg, c_inb, c_room, f1, f2, f3, i64_in, List.length_cons, List.length_nil]
        · refine ⟨(i - 1, d2, links), ⟨by simp only; omega, by simp only; omega, hd2, h3⟩, by simp only; omega, fun k m => ?_⟩
          simp (disch := omega) only [zq5v, zq5a, zq5s, zq58, zq57, pair_eta, c_pos, c_nneg, c_inb, c_neg, f1, f2, i64_in]
    · right
      exact ⟨(d, links), ⟨h2, by simp only; omega, h3⟩, fun k m => by simp (disch := omega) only [zq5v, zq5a, c_pos, c_neg]⟩
  · right
    exact ⟨(d, links), ⟨h2, by simp only; omega, h3⟩, fun k m => by simp (disch := omega) only [zq5v, zq5a, c_neg]⟩

theorem record_ok4 (n : Int) (hn : 0 ≤ n ∧ n ≤ 900) {d : Dice} (hd : DiceOk d) :
    ∃ r d' times ahead, RecOk n r ahead times ∧ DiceOk d' ∧ (r.2.1.length ≤ 4 ∧ r.2.2.2.length ≤ 3) ∧ ∀ {β : Type} (k : zq2 → Dice → List Int → Option β), zq5y n d k = k r d' times := by
  obtain ⟨x, d1, hx0, hx1, hd1, f1⟩ := next_ok (n := 3) hd (by omega)
  obtain ⟨⟨d2, ahead, hosts⟩, ⟨hd2, hh, hN⟩, f2⟩ := record_p1 n (1 + x) (by omega) hd1
  simp only at hd2 hh hN f2
  obtain ⟨y, d3, hy0, hy1, hd3, f3⟩ := next_ok (n := 5) hd2 (by omega)
  obtain ⟨⟨d4, syncs⟩, ⟨hd4, hs, hsy⟩, f4⟩ := record_p2 n y (by omega) hd3 hh (by omega)
  simp only at hd4 hs hsy f4
  obtain ⟨z, d5, hz0, hz1, hd5, f5⟩ := next_ok (n := n + 1) hd4 (by omega)
  obtain ⟨⟨d6, times, evs⟩, ⟨hd6, he, hte, hev⟩, f6⟩ := record_p3 z (by omega) hd5 hh (by omega) syncs
  simp only at hd6 he hte hev f6
  obtain ⟨u, d7, hu0, hu1, hd7, f7⟩ := next_ok (n := 4) hd6 (by omega)
  obtain ⟨⟨d8, links⟩, ⟨hd8, hl, hli⟩, f8⟩ := record_p5 u (by omega) hd7 hosts syncs evs (times := times) (by omega) (fun i hi => ⟨(hev i (by omega)).2.2.1, (hev i (by omega)).2.2.2.1⟩)
  simp only at hd8 hl hli f8
  refine ⟨(hosts, syncs, evs, links), d8, times, ahead, ⟨hh, by simp only; omega, by simp only; omega, hsy, hte, by simp only; omega, hev, by simp only; omega, hli⟩, hd8, ⟨by simp only; omega, hl⟩, fun k => ?_⟩
  simp (disch := omega) only [zq5y, zq5d, f1, f2, f3, f4, f5, f6, f7, f8, i64_in, pair_eta]

theorem record_ok (n : Int) (hn : 0 ≤ n ∧ n ≤ 900) {d : Dice} (hd : DiceOk d) :
    ∃ r d' times ahead, RecOk n r ahead times ∧ DiceOk d' ∧ ∀ {β : Type} (k : zq2 → Dice → List Int → Option β), zq5y n d k = k r d' times := by
  obtain ⟨r, d', times, ahead, h1, h2, _, h3⟩ := record_ok4 n hn hd
  exact ⟨r, d', times, ahead, h1, h2, h3⟩

/-- A record of the dice is valid. -/
theorem RecOk.valid {n : Int} {r : Rec} {ahead times : List Int} (h : RecOk n r ahead times) (hn : n ≤ 40) : valid r = true := by
  obtain ⟨hosts, syncs, evs, links⟩ := r
  have hE := h.fewE
  have hS := h.fewS
  have hL := h.fewL
  have hm := h.hosts.most
  have hle := h.lenE
  simp only at hE hS hL hm hle
  have key : ∀ (l : List Int) (i : Nat), (∀ a ∈ l, a = 0 ∨ a = 7 ∨ a = 100) → 0 ≤ l.getD i 0 ∧ l.getD i 0 ≤ 100 := by
    intro l i hl
    by_cases hi : i < l.length
    · have := hl _ (getD_mem (d := 0) hi); omega
    · simp [List.getD, hi]
  have hev : ∀ e ∈ evs, vEvent hosts.length e = true := by
    intro e he
    obtain ⟨i, hi, rfl⟩ := List.getElem_of_mem he
    have := h.events i hi
    simp only at this
    rw [show evs.getD i (0, 0, []) = evs[i] by simp [List.getD, hi]] at this
    obtain ⟨a1, a2, a3, a4, a5⟩ := this
    have := key ahead evs[i].1.toNat h.hosts.off
    simp only [vEvent, Bool.and_eq_true, inN_iff]
    omega
  have hsy : ∀ s ∈ syncs, vSync hosts.length s = true := by
    intro s hs
    obtain ⟨a1, a2, t, a3, a4, a5, a6, a7, a8, a9⟩ := h.syncs s hs
    have := key ahead s.1.toNat h.hosts.off
    simp only [vSync, okSync, Bool.and_eq_true, inN_iff, decide_eq_true_eq]
    simp only at a2
    omega
  have hli : ∀ l ∈ links, vLink evs.length l = true := by
    intro l hl
    obtain ⟨a1, a2, a3, a4, a5, a6, a7⟩ := h.links l hl
    have b1 := h.events l.1.toNat (by simp only; omega)
    have b2 := h.events l.2.1.toNat (by simp only; omega)
    obtain ⟨-, -, c1, c2, -⟩ := b1
    obtain ⟨-, -, c3, c4, -⟩ := b2
    simp only [vLink, Bool.and_eq_true, inN_iff, Bool.not_eq_true', decide_eq_false_iff_not]
    omega
  have hho : ∀ x ∈ hosts, vHost x = true := by
    intro x hx
    have := h.hosts.drift x hx
    simp only [vHost, inN_iff]
    omega
  simp only [Go.Lift.valid, small, Bool.and_eq_true, List.all_eq_true, Bool.not_eq_true', decide_eq_false_iff_not]
  exact ⟨⟨by omega, by omega, by omega, by omega⟩, hho, hsy, hev, hli⟩

end
end Go.Lift

/- When a clock showed a reading. -/
namespace Go.Lift
open Go.RowKit Go.IntWalk
noncomputable section
set_option linter.unusedVariables false
set_option linter.unusedSimpArgs false

theorem elapsed_le {drift d : Int} (h1 : 0 ≤ drift ∧ drift ≤ 500000) (h2 : 0 ≤ d ∧ d ≤ 8589934592) : (elapsed drift d).1 ≤ d ∧ d ≤ (elapsed drift d).2 := by
  unfold elapsed
  rw [inN_mk h1, inN_mk h2]
  simp only [Bool.and_true, cond_true]
  have hp1 : (0 : Int) < 1000000 + drift := by omega
  have hp2 : (0 : Int) < 1000000 - drift := by omega
  constructor
  · apply Int.le_of_lt_add_one
    rw [Int.ediv_lt_iff_lt_mul hp1]
    have : (d + 1) * 1000000 ≤ (d + 1) * (1000000 + drift) := Int.mul_le_mul_of_nonneg_left (by omega) (by omega)
    omega
  · rw [Int.le_ediv_iff_mul_le hp2]
    have : d * (1000000 - drift) ≤ d * 1000000 := Int.mul_le_mul_of_nonneg_left (by omega) (by omega)
    omega

/-- What a comparison says of a reading, if its numbers are right. -/
theorem fromS_eq {h : Host} {s : Sync} {c : Int} (h1 : 0 ≤ h.2 ∧ h.2 ≤ 500000) (h2 : okSync s = true) (h3 : 0 ≤ c ∧ c ≤ 8589934592) :
    fromS h s c = if s.2.1 ≤ c then (s.2.2.1 + (elapsed h.2 (c - s.2.1)).1, s.2.2.2 + (elapsed h.2 (c - s.2.1)).2) else (s.2.2.1 - (elapsed h.2 (s.2.1 - c)).2, s.2.2.2 - (elapsed h.2 (s.2.1 - c)).1) := by
  unfold fromS
  rw [h2, inN_mk h3, vHost, inN_mk h1]
  simp only [Bool.and_self, cond_true]
  split <;> rename_i hc
  · rw [decide_eq_true hc]; rfl
  · rw [decide_eq_false hc]; rfl

/-- The range that a true comparison gives has the true time. -/
theorem fromS_true {h : Host} {s : Sync} {c t a : Int} (h1 : 0 ≤ h.2 ∧ h.2 ≤ 500000) (h2 : okSync s = true) (h3 : 0 ≤ c ∧ c ≤ 8589934592) (hs : s.2.1 = t + a) (hl : s.2.2.1 ≤ t) (hh : t ≤ s.2.2.2) :
    (fromS h s c).1 ≤ c - a ∧ c - a ≤ (fromS h s c).2 := by
  rw [fromS_eq h1 h2 h3]
  simp only [okSync, Bool.and_eq_true, inN_iff, decide_eq_true_eq] at h2
  split
  · have := elapsed_le h1 (d := c - s.2.1) (by omega)
    simp only; omega
  · have := elapsed_le h1 (d := s.2.1 - c) (by omega)
    simp only; omega

theorem meet2_eq (a b : Int × Int) : meet2 a b = (max a.1 b.1, min a.2 b.2) := by
  unfold meet2
  congr 1
  · omega
  · omega

/-- The ranges that the comparisons of a host give. -/
def froms (hosts : List Host) (host c : Int) (syncs : List Sync) : List (Int × Int) := (syncs.filter fun s => decide (s.1 = host)).map fun s => fromS (hosts.getD host.toNat ([], 0)) s c

theorem whenR_eq (r : Rec) (host c : Int) : whenR r host c = (froms r.1 host c r.2.1).foldl meet2 (0, 8589934592) := by
  unfold whenR froms
  generalize ((0 : Int), (8589934592 : Int)) = o
  induction r.2.1 generalizing o with
  | nil => rfl
  | cons s l ih =>
    simp only [List.foldl_cons, ih, List.filter_cons]
    cases decide (s.1 = host) <;> rfl

theorem foldl_meet_in {x : Int} : ∀ {l : List (Int × Int)} {o : Int × Int}, o.1 ≤ x ∧ x ≤ o.2 → (∀ f ∈ l, f.1 ≤ x ∧ x ≤ f.2) → (l.foldl meet2 o).1 ≤ x ∧ x ≤ (l.foldl meet2 o).2
  | [], o, h, _ => h
  | f :: l, o, h, hl => by
    have h1 := hl f (by simp)
    refine foldl_meet_in (o := meet2 o f) ?_ fun g hg => hl g (by simp [hg])
    rw [meet2_eq]
    simp only; omega

theorem foldl_meet_bd : ∀ {l : List (Int × Int)} {o : Int × Int}, o.1 ≤ (l.foldl meet2 o).1 ∧ (l.foldl meet2 o).2 ≤ o.2
  | [], o => ⟨Int.le_refl _, Int.le_refl _⟩
  | f :: l, o => by
    have := @foldl_meet_bd l (meet2 o f)
    rw [meet2_eq] at this
    rw [List.foldl_cons, meet2_eq]
    simp only at this
    omega

section
variable {n : Int} {r : Rec} {ahead times : List Int}
theorem RecOk.sync_ok (h : RecOk n r ahead times) {s : Sync} (hs : s ∈ r.2.1) : okSync s = true ∧ 864000 ≤ s.2.1 ∧ s.2.1 ≤ 864500 ∧ 863980 ≤ s.2.2.1 ∧ s.2.2.2 ≤ 864415 := by
  obtain ⟨a1, a2, t, a3, a4, a5, a6, a7, a8, a9⟩ := h.syncs s hs
  have := ahead_bd h.hosts s.1.toNat
  refine ⟨?_, by omega, by omega, by omega, by omega⟩
  simp only [okSync, Bool.and_eq_true, inN_iff, decide_eq_true_eq]
  omega
theorem RecOk.drift_ok (h : RecOk n r ahead times) (i : Nat) : 0 ≤ (r.1.getD i ([], 0)).2 ∧ (r.1.getD i ([], 0)).2 ≤ 500000 := by
  by_cases hi : i < r.1.length
  · have := h.hosts.drift _ (getD_mem (d := ([], 0)) hi); omega
  · simp [List.getD, hi]

theorem RecOk.froms_true (h : RecOk n r ahead times) {host c : Int} (hh : 0 ≤ host ∧ host < r.1.length) (hc : 0 ≤ c ∧ c ≤ 8589934592) :
    ∀ f ∈ froms r.1 host c r.2.1, f.1 ≤ c - ahead.getD host.toNat 0 ∧ c - ahead.getD host.toNat 0 ≤ f.2 := by
  intro f hf
  simp only [froms, List.mem_map, List.mem_filter, decide_eq_true_eq] at hf
  obtain ⟨s, ⟨hs, rfl⟩, rfl⟩ := hf
  obtain ⟨a1, a2, t, a3, a4, a5, a6, a7, a8, a9⟩ := h.syncs s hs
  exact fromS_true (h.drift_ok _) (h.sync_ok hs).1 hc a5 a7 a8

theorem RecOk.when_true (h : RecOk n r ahead times) {host c : Int} (hh : 0 ≤ host ∧ host < r.1.length) (hc : 100 ≤ c ∧ c ≤ 8589934592) :
    (whenR r host c).1 ≤ c - ahead.getD host.toNat 0 ∧ c - ahead.getD host.toNat 0 ≤ (whenR r host c).2 := by
  rw [whenR_eq]
  have := ahead_bd h.hosts host.toNat
  exact foldl_meet_in (by simp only; omega) (h.froms_true hh (by omega))

theorem RecOk.when? (h : RecOk n r ahead times) (hn : n ≤ 40) {host c : Int} (hh : 0 ≤ host ∧ host < r.1.length) (hc : 100 ≤ c ∧ c ≤ 8589934592) : when? r host c = (whenR r host c, true) := by
  have h1 := h.when_true hh hc
  unfold Go.Lift.when?
  rw [h.valid hn, inN_mk (by omega), inN_mk (by omega)]
  simp only [Bool.and_self, cond_true]
  rw [decide_eq_false (by omega)]
  rfl
end

theorem foldl_meet_shift (d : Int) : ∀ (l : List (Int × Int)) (o : Int × Int), (l.map fun f => (f.1 + d, f.2 + d)).foldl meet2 (o.1 + d, o.2 + d) = ((l.foldl meet2 o).1 + d, (l.foldl meet2 o).2 + d)
  | [], o => rfl
  | f :: l, o => by
    rw [List.map_cons, List.foldl_cons, List.foldl_cons, ← foldl_meet_shift d l]
    congr 1
    simp only [meet2_eq]
    congr 1 <;> omega
end
end Go.Lift

/- constraint.Close in plain Lean. -/
namespace Go.Lift
open Go.RowKit Go.IntWalk
noncomputable section
set_option linter.unusedVariables false
set_option linter.unusedSimpArgs false
set_option maxRecDepth 10000

theorem range_getD {n i : Nat} (h : i < n) : (List.range n).getD i 0 = i := by simp [List.getD, h]

section
variable {β : Type}
theorem close_p3 {n : Nat} (hn : n ≤ 100) {k i : Nat} (hk : k < n) (hi : i < n) {m : Mat} (hm : Sq n m) (a b c d : Int) (k1 : zqbp β) :
    zqd0 k1 (n : Int) (k : Int) (i : Int) a b c d (n : Int) 0 m = k1 (n : Int) (k : Int) a b c d (rowW n k i m) := by
  have key := fold_loopI (fun _ m => Sq n m) (fun f j m => zqcy f k1 (n : Int) (k : Int) (i : Int) a b c d (n : Int) j m) (fun m j => relaxW k i j m) (fun m => k1 (n : Int) (k : Int) a b c d m) 0 (List.range n) m fuel (lt_fuel (by simp; omega)) hm
    (fun j m hj hm => hm.relaxW _ _ _)
    (fun f j m hj hm => by
      have hj : j < n := by simpa using hj
      have e1 : IntKind.i64.wrap ((j : Int) + 1) = j + 1 := i64_in _ (by omega)
      rw [range_getD hj, zqcz]
      unfold zqcd
      simp only [Int.toNat_natCast]
      have l0 := hm.len
      have l1 := hm.row i hi
      have l2 := hm.row k hk
      refine (c_pos (by omega)).trans ?_
      refine (c_inb (by omega)).trans ?_
      refine (c_inb (by omega)).trans ?_
      have hq : ∀ (t : Bool), (zqcw (fun (n2 : Int) (k_2 : Int) (i_2 : Int) (t382 : Int) (t392 : Int) (t422 : Int) (t432 : Int) (t462 : Int) (t472 : Int) (m2 : List (List Int)) => zqcy f k1 n2 k_2 i_2 t382 t392 t422 t432 t462 (IntKind.i64.wrap (t472 + (1 : Int))) m2) (n : Int) (k : Int) (i : Int) (j : Int) a b c d (n : Int) (j : Int) t m : Option β) =
          zqcy f k1 (n : Int) (k : Int) (i : Int) a b c d (n : Int) ((j : Int) + 1) (if t then setAt m i j (if IntKind.i64.wrap (at2 m i k + at2 m k j) < at2 m i j then IntKind.i64.wrap (at2 m i k + at2 m k j) else at2 m i j) else m) := fun t => by
        unfold zqcw zqcb zqca
        cases t with
        | false =>
          simp only [cond_false, e1]
          rfl
        | true =>
          simp only [cond_true, Int.toNat_natCast, e1]
          refine (c_inb (by omega)).trans ?_
          refine (c_inb (by omega)).trans ?_
          refine (c_inb (by omega)).trans ?_
          refine (c_inb (by omega)).trans ?_
          refine (c_inb (by omega)).trans ?_
          refine (c_inb (by omega)).trans ?_
          refine (c_inb (by omega)).trans ?_
          refine (c_inb (by omega)).trans ?_
          rfl
      by_cases h1 : at2 m i k = BIG
      · refine (c_npos (show (m.getD i []).getD k 0 = (1099511627776 : Int) from h1)).trans ?_
        refine (hq false).trans ?_
        have : relaxW k i j m = m := by unfold relaxW; rw [if_pos (.inl h1)]
        rw [this]
        rfl
      · refine (c_nneg (show ¬ (m.getD i []).getD k 0 = (1099511627776 : Int) from h1)).trans ?_
        refine (c_inb (by omega)).trans ?_
        refine (c_inb (by omega)).trans ?_
        refine (hq _).trans ?_
        by_cases h2 : at2 m k j = BIG
        · have : relaxW k i j m = m := by unfold relaxW; rw [if_pos (.inr h2)]
          rw [this, decide_eq_true (show (m.getD k []).getD j 0 = (1099511627776 : Int) from h2)]
          rfl
        · have : relaxW k i j m = setAt m i j (if IntKind.i64.wrap (at2 m i k + at2 m k j) < at2 m i j then IntKind.i64.wrap (at2 m i k + at2 m k j) else at2 m i j) := by unfold relaxW; rw [if_neg (fun h => h.elim h1 h2)]
          rw [this, decide_eq_false (show ¬ (m.getD k []).getD j 0 = (1099511627776 : Int) from h2)]
          rfl)
    (fun f m hm => by
      rw [zqcz]
      unfold zqcd
      exact c_neg (by simp))
  unfold zqd0
  exact key
theorem close_p4 {n : Nat} (hn : n ≤ 100) {k : Nat} (hk : k < n) {m : Mat} (hm : Sq n m) (a b : Int) (k1 : zqbt β) :
    zqd4 k1 (n : Int) (k : Int) a b (n : Int) 0 m = k1 (n : Int) (k : Int) a b (roundW n k m) := by
  have key := fold_loopI (fun _ m => Sq n m) (fun f j m => zqd2 f k1 (n : Int) (k : Int) a b (n : Int) j m) (fun m i => rowW n k i m) (fun m => k1 (n : Int) (k : Int) a b m) 0 (List.range n) m fuel (lt_fuel (by simp; omega)) hm
    (fun j m hj hm => hm.rowW _ _)
    (fun f j m hj hm => by
      have hj : j < n := by simpa using hj
      have e1 : IntKind.i64.wrap ((j : Int) + 1) = j + 1 := i64_in _ (by omega)
      rw [range_getD hj, zqd3]
      unfold zqcg
      refine (c_pos (by omega)).trans ?_
      refine (close_p3 hn hk hj hm _ _ _ _ _).trans ?_
      simp only [e1])
    (fun f m hm => by
      rw [zqd3]
      unfold zqcg
      exact c_neg (by simp))
  unfold zqd4
  exact key

/-- The rounds of the closure: c rounds from k on. -/
def roundsW (n : Nat) : Nat → Nat → Mat → Option Mat
  | 0, _, m => some m
  | c + 1, k, m => if at2 (roundW n k m) k k < 0 then none else roundsW n c (k + 1) (roundW n k m)

theorem roundsW_sq {n : Nat} : ∀ (c k : Nat) (m m' : Mat), Sq n m → roundsW n c k m = some m' → Sq n m'
  | 0, k, m, m', h, e => by cases e; exact h
  | c + 1, k, m, m', h, e => by
    unfold roundsW at e
    split at e
    · cases e
    · exact roundsW_sq c (k + 1) _ m' (h.roundW k) e

theorem close_p5_n {n : Nat} (hn : n ≤ 100) (k1 : zqbx β) (k2 : zqby β) : ∀ (c k f : Nat) (m : Mat), k + c = n → c < f → Sq n m →
    zqd6 f k1 k2 (n : Int) (n : Int) (k : Int) m = (match roundsW n c k m with | some m' => k2 (n : Int) m' | none => k1 false [])
  | 0, k, f + 1, m, h, hf, hm => by
    rw [zqd7]
    unfold zqcj
    exact c_neg (by omega)
  | c + 1, k, f + 1, m, h, hf, hm => by
    rw [zqd7]
    unfold zqcj
    have hk : k < n := by omega
    refine (c_pos (by omega)).trans ?_
    refine (close_p4 hn hk hm _ _ _).trans ?_
    have hm' := hm.roundW k
    have l0 := hm'.len
    have l1 := hm'.row k hk
    have e1 : IntKind.i64.wrap ((k : Int) + 1) = ((k + 1 : Nat) : Int) := i64_in _ (by omega)
    simp only [Int.toNat_natCast]
    refine (c_inb (by omega)).trans ?_
    refine (c_inb (by omega)).trans ?_
    unfold roundsW
    by_cases h2 : at2 (roundW n k m) k k < 0
    · refine (c_pos h2).trans ?_
      rw [if_pos h2]
    · refine (c_neg h2).trans ?_
      rw [if_neg h2, e1]
      exact close_p5_n hn k1 k2 c (k + 1) f _ (by omega) (by omega) hm'
  | _, _, 0, _, _, hf, _ => absurd hf (by omega)

theorem close_p5 {n : Nat} (hn : n ≤ 100) (k1 : zqbx β) (k2 : zqby β) {m : Mat} (hm : Sq n m) :
    zqd8 k1 k2 (n : Int) (n : Int) 0 m = (match roundsW n n 0 m with | some m' => k2 (n : Int) m' | none => k1 false []) := by
  unfold zqd8
  exact close_p5_n hn k1 k2 n 0 fuel m (by omega) (lt_fuel (by omega)) hm

/-- No number of the diagonal is less than 0. -/
def diagOk (n : Nat) (m : Mat) : Bool := (List.range n).all fun i => decide (¬ at2 m i i < 0)

theorem close_p6 {n : Nat} (hn : n ≤ 100) (k1 : zqc2 β) (k2 : zqc3 β) {m : Mat} (hm : Sq n m) :
    zqdc k1 k2 (n : Int) 0 m = cond (diagOk n m) (k2 m) (k1 false []) := by
  have key := check_loop (fun f j => zqda f k1 k2 (n : Int) j m) (fun i => decide (¬ at2 m i i < 0)) (k1 false []) (k2 m) 0 (List.range n) fuel (lt_fuel (by simp; omega))
    (fun f j hj => by
      have hj : j < n := by simpa using hj
      have e1 : IntKind.i64.wrap ((j : Int) + 1) = j + 1 := i64_in _ (by omega)
      have l0 := hm.len
      have l1 := hm.row j hj
      rw [range_getD hj, zqdb]
      unfold zqcm
      simp only [Int.toNat_natCast, e1]
      refine (c_pos (by omega)).trans ?_
      refine (c_inb (by omega)).trans ?_
      refine (c_inb (by omega)).trans ?_
      by_cases h2 : at2 m j j < 0
      · refine (c_pos h2).trans ?_
        simp [h2]
      · refine (c_neg h2).trans ?_
        simp [h2])
    (fun f => by
      rw [zqdb]
      unfold zqcm
      exact c_neg (by simp))
  unfold zqdc
  exact key

/-- The diagonal is 0 at most. -/
def diagW (n : Nat) (m : Mat) : Mat := (List.range n).foldl (fun m i => setAt m i i (if 0 < at2 m i i then 0 else at2 m i i)) m
theorem Sq.diagW {n : Nat} {m : Mat} (h : Sq n m) : Sq n (diagW n m) := fold_inv (Sq n) _ (fun m i h => h.setAt _ _ _) _ _ h

theorem close_p1 {n : Nat} (hn : n ≤ 100) (k1 : zqbh β) {m : Mat} (hm : Sq n m) :
    zqcu k1 (n : Int) (n : Int) 0 m = k1 (n : Int) (diagW n m) := by
  have key := fold_loopI (fun _ m => Sq n m) (fun f j m => zqcs f k1 (n : Int) (n : Int) j m) (fun m i => setAt m i i (if 0 < at2 m i i then 0 else at2 m i i)) (fun m => k1 (n : Int) m) 0 (List.range n) m fuel (lt_fuel (by simp; omega)) hm
    (fun j m hj hm => hm.setAt _ _ _)
    (fun f j m hj hm => by
      have hj : j < n := by simpa using hj
      have e1 : IntKind.i64.wrap ((j : Int) + 1) = j + 1 := i64_in _ (by omega)
      have l0 := hm.len
      have l1 := hm.row j hj
      rw [range_getD hj, zqct]
      unfold zqc7
      simp only [Int.toNat_natCast, e1]
      refine (c_pos (by omega)).trans ?_
      refine (c_inb (by omega)).trans ?_
      refine (c_inb (by omega)).trans ?_
      refine (c_inb (by omega)).trans ?_
      refine (c_inb (by omega)).trans ?_
      rfl)
    (fun f m hm => by
      rw [zqct]
      unfold zqc7
      exact c_neg (by simp))
  unfold zqcu
  exact key
end
end
end Go.Lift

/- constraint.Valid and constraint.direct in plain Lean. -/
namespace Go.Lift
open Go.RowKit Go.IntWalk
noncomputable section
set_option linter.unusedVariables false
set_option linter.unusedSimpArgs false
set_option maxRecDepth 10000

abbrev Diff := Int × (Int × Int)
section
variable {β : Type}
theorem constraint_in_eq (n low high : Int) (k : Bool → Option β) : zq3w n low high k = k (decide (low ≤ n) && decide (n ≤ high)) := by
  unfold zq3w zq3t
  by_cases h : low ≤ n <;> simp [h]

def diffOk (n : Nat) (d : Diff) : Bool := decide (0 ≤ d.1 ∧ d.1 < n ∧ 0 ≤ d.2.1 ∧ d.2.1 < n ∧ -17179869184 ≤ d.2.2 ∧ d.2.2 ≤ 17179869184)

theorem Valid_f1_eq {n : Nat} (hn : n ≤ 100) (d : Diff) (k : Bool → Int → Option β) : zq43 d (n : Int) k = k (!diffOk n d) (n : Int) := by
  have e1 : IntKind.i64.wrap ((n : Int) - 1) = n - 1 := i64_in _ (by omega)
  unfold zq43 zq40
  simp only [constraint_in_eq, e1]
  unfold diffOk
  by_cases h1 : 0 ≤ d.1 ∧ d.1 ≤ (n : Int) - 1
  · rw [decide_eq_true h1.1, decide_eq_true h1.2]
    simp only [Bool.and_self, Bool.not_true, cond_false]
    by_cases h2 : 0 ≤ d.2.1 ∧ d.2.1 ≤ (n : Int) - 1
    · rw [decide_eq_true h2.1, decide_eq_true h2.2]
      simp only [Bool.and_self, Bool.not_true, cond_false]
      congr 1
      congr 1
      rw [← Bool.decide_and]
      exact decide_eq_decide.2 (by omega)
    · rw [show (decide (0 ≤ d.2.1) && decide (d.2.1 ≤ (n : Int) - 1)) = false by rw [← Bool.decide_and]; exact decide_eq_false h2]
      simp only [Bool.not_false, cond_true]
      congr 1
      rw [decide_eq_false (by omega)]
      rfl
  · rw [show (decide (0 ≤ d.1) && decide (d.1 ≤ (n : Int) - 1)) = false by rw [← Bool.decide_and]; exact decide_eq_false h1]
    simp only [Bool.not_false, cond_true]
    congr 1
    rw [decide_eq_false (by omega)]
    rfl

theorem any_eq {n : Nat} (hn : n ≤ 100) {l : List Diff} (hl : l.length ≤ 100000) (k : Bool → Int → Option β) :
    zqb6 l (n : Int) k = k (!l.all (diffOk n)) (n : Int) := by
  unfold zqb6 zqb3
  unfold zq9j zq9c
  unfold zq9h
  refine (check_loop (fun f j => zq9f f (fun (t4 : Int) (b0_2 : Int) => k (decide ((0 : Int) ≤ t4)) b0_2) (fun (b0_2 : Int) => k (decide ((0 : Int) ≤ -1)) b0_2) l (l.length : Int) j (n : Int)) (diffOk n) (k true (n : Int)) (k false (n : Int)) ((0 : Int), ((0 : Int), (0 : Int))) l fuel (lt_fuel (by omega))
    (fun f j hj => ?_) (fun f => ?_)).trans ?_
  · have e1 : IntKind.i64.wrap ((j : Int) + 1) = j + 1 := i64_in _ (by omega)
    rw [zq9g]
    unfold zq99
    refine (c_pos (by omega)).trans ?_
    refine (c_inb (by omega)).trans ?_
    simp only [Int.toNat_natCast, e1]
    refine (Valid_f1_eq hn _ _).trans ?_
    cases h : diffOk n (l.getD j ((0 : Int), ((0 : Int), (0 : Int)))) with
    | true => simp
    | false => simp
  · rw [zq9g]
    unfold zq99
    refine (c_neg (by omega)).trans ?_
    simp
  · cases l.all (diffOk n) <;> rfl

def validD (n : Nat) (l : List Diff) : Bool := decide (l.length ≤ 4000) && l.all (diffOk n)

theorem Valid_eq {n : Nat} (h1 : 1 ≤ n) (hn : n ≤ 41) {l : List Diff} (k : Bool → Option β) : zqbd (n : Int) l k = k (validD n l) := by
  unfold zqbd zqba
  refine (constraint_in_eq _ _ _ _).trans ?_
  rw [decide_eq_true (show (1 : Int) ≤ n by omega), decide_eq_true (show (n : Int) ≤ 41 by omega)]
  simp only [Bool.and_self, Bool.not_true, cond_false]
  unfold validD
  by_cases hl : l.length ≤ 4000
  · refine (c_neg (by omega)).trans ?_
    refine (any_eq (by omega) (by omega) _).trans ?_
    rw [decide_eq_true hl]
    simp
  · refine (c_pos (by omega)).trans ?_
    rw [decide_eq_false hl]
    rfl
end
end
end Go.Lift

/- constraint.direct in plain Lean. -/
namespace Go.Lift
open Go.RowKit Go.IntWalk
noncomputable section
set_option linter.unusedVariables false
set_option linter.unusedSimpArgs false
set_option maxRecDepth 10000

def bigM (n : Nat) : Mat := List.replicate n (List.replicate n BIG)
/-- One constraint more. -/
def putW (m : Mat) (d : Diff) : Mat := setAt m d.1.toNat d.2.1.toNat (if d.2.2 < at2 m d.1.toNat d.2.1.toNat then d.2.2 else at2 m d.1.toNat d.2.1.toNat)
def directW (n : Nat) (l : List Diff) : Mat := l.foldl putW (bigM n)

theorem bigM_sq (n : Nat) : Sq n (bigM n) := by
  refine ⟨by simp [bigM], fun i hi => ?_⟩
  simp [bigM, List.getD, hi]
theorem Sq.putW {n : Nat} {m : Mat} (h : Sq n m) (d : Diff) : Sq n (putW m d) := h.setAt _ _ _
theorem directW_sq (n : Nat) (l : List Diff) : Sq n (directW n l) := fold_inv (Sq n) _ (fun m d h => h.putW d) _ _ (bigM_sq n)

theorem set_getD_self {α : Type} {l : List α} {i : Nat} {d : α} (h : i < l.length) : l.set i (l.getD i d) = l := by
  apply List.ext_getElem
  · simp
  · intro j h1 h2
    rw [List.getElem_set]
    split
    · subst_vars; simp [List.getD, h]
    · rfl

theorem fill_row {α : Type} (v : α) (n : Nat) (r : List α) (h : r.length = n) : (List.range n).foldl (fun r j => r.set j v) r = List.replicate n v := by
  have key : ∀ (c : Nat), c ≤ n → (List.range c).foldl (fun r j => r.set j v) r = List.replicate c v ++ r.drop c := by
    intro c
    induction c with
    | zero => intro _; simp
    | succ c ih =>
      intro hc
      rw [List.range_succ, List.foldl_append, ih (by omega)]
      simp only [List.foldl_cons, List.foldl_nil]
      rw [List.set_append_right _ _ (by simp)]
      simp only [List.length_replicate, Nat.sub_self]
      rw [List.drop_eq_getElem_cons (by omega), List.set_cons_zero, List.replicate_succ', List.append_assoc]
      rfl
  rw [key n (Nat.le_refl n), List.drop_eq_nil_of_le (by omega), List.append_nil]

theorem fill_mat (v : Int) (i : Nat) : ∀ (l : List Nat) (out : Mat), i < out.length →
    l.foldl (fun m j => setAt m i j v) out = out.set i (l.foldl (fun r j => r.set j v) (out.getD i []))
  | [], out, h => by simp only [List.foldl_nil]; rw [set_getD_self h]
  | j :: l, out, h => by
    simp only [List.foldl_cons]
    rw [fill_mat v i l _ (by simpa [setAt] using h)]
    unfold setAt
    rw [getD_set_eq h, List.set_set]

section
variable {β : Type}
theorem c_make {n : Nat} {c : Nat} {a b : Option β} (hn : n ≤ 10000) (hc : c ≤ 1000) : cond (decide (0 ≤ (n : Int)) && (decide ((n : Int) = (n : Int)) && (decide (Int.toNat (n : Int) * c ≤ roomMax) && decide ((n : Int) ≤ 9223372036854775807)))) a b = a := by
  have h1 : Int.toNat (n : Int) * c ≤ roomMax := by
    rw [Int.toNat_natCast]
    exact Nat.le_trans (Nat.mul_le_mul hn hc) (by decide)
  rw [decide_eq_true (show (0 : Int) ≤ n by omega), decide_eq_true (rfl : (n : Int) = n), decide_eq_true h1, decide_eq_true (show (n : Int) ≤ 9223372036854775807 by omega)]
  rfl

theorem direct_p1 {n : Nat} (hn : n ≤ 100) (k1 : zq1x β) (l : List Diff) {i : Nat} (hi : i < n) (a b : Int) {out : Mat} (h0 : out.length = n) (h1 : (out.getD i []).length = n) :
    zq2n k1 (n : Int) l (i : Int) a b (n : Int) 0 out = k1 (n : Int) l a b (out.set i (List.replicate n BIG)) := by
  have key := fold_loopI (fun _ (m : Mat) => m.length = n ∧ (m.getD i []).length = n) (fun f j m => zq2l f k1 (n : Int) l (i : Int) a b (n : Int) j m) (fun m j => setAt m i j BIG) (fun m => k1 (n : Int) l a b m) 0 (List.range n) out fuel (lt_fuel (by simp; omega)) ⟨h0, h1⟩
    (fun j m hj hm => by
      refine ⟨by simp [setAt, hm.1], ?_⟩
      unfold setAt
      rw [getD_set_eq (by omega), List.length_set]
      exact hm.2)
    (fun f j m hj hm => by
      have hj : j < n := by simpa using hj
      have e1 : IntKind.i64.wrap ((j : Int) + 1) = j + 1 := i64_in _ (by omega)
      have l0 := hm.1
      have l1 := hm.2
      rw [range_getD hj, zq2m]
      unfold zq29
      simp only [Int.toNat_natCast, e1]
      refine (c_pos (by omega)).trans ?_
      refine (c_inb (by omega)).trans ?_
      refine (c_inb (by omega)).trans ?_
      rfl)
    (fun f m hm => by
      rw [zq2m]
      unfold zq29
      exact c_neg (by simp))
  unfold zq2n
  refine key.trans ?_
  rw [fill_mat BIG i _ _ (by omega), fill_row BIG n _ h1]

theorem direct_p2 {n : Nat} (hn : n ≤ 100) (k1 : zq21 β) (l : List Diff) :
    zq2r k1 (n : Int) l (n : Int) 0 (List.replicate n []) = k1 l (bigM n) := by
  have key := fold_loopI (fun _ (m : Mat) => m.length = n) (fun f j m => zq2p f k1 (n : Int) l (n : Int) j m) (fun m j => m.set j (List.replicate n BIG)) (fun m => k1 l m) 0 (List.range n) (List.replicate n []) fuel (lt_fuel (by simp; omega)) (by simp)
    (fun j m hj hm => by rw [List.length_set]; exact hm)
    (fun f j m hj hm => by
      have hj : j < n := by simpa using hj
      have e1 : IntKind.i64.wrap ((j : Int) + 1) = j + 1 := i64_in _ (by omega)
      rw [range_getD hj, zq2q]
      unfold zq2c
      refine (c_pos (by omega)).trans ?_
      refine (c_make (by omega) (by omega)).trans ?_
      refine (c_inb (by omega)).trans ?_
      simp only [Int.toNat_natCast]
      refine (c_inb (by rw [List.length_set]; omega)).trans ?_
      rw [getD_set_eq (show j < m.length by omega), List.length_replicate]
      refine (direct_p1 hn _ l hj _ _ (by rw [List.length_set]; exact hm) (by rw [getD_set_eq (show j < m.length by omega), List.length_replicate])).trans ?_
      simp only [e1, List.set_set])
    (fun f m hm => by
      rw [zq2q]
      unfold zq2c
      exact c_neg (by simp))
  unfold zq2r
  refine key.trans ?_
  rw [fill_row (List.replicate n BIG) n _ (by simp)]
  rfl

theorem direct_p3 {n : Nat} (hn : n ≤ 100) (k1 : zq25 β) {l : List Diff} (hl : l.length ≤ 4000) (ho : l.all (diffOk n) = true) {m : Mat} (hm : Sq n m) :
    zq2v k1 l (l.length : Int) 0 m = k1 (l.foldl putW m) := by
  have key := fold_loopI (fun _ (m : Mat) => Sq n m) (fun f j m => zq2t f k1 l (l.length : Int) j m) putW (fun m => k1 m) ((0 : Int), ((0 : Int), (0 : Int))) l m fuel (lt_fuel (by omega)) hm
    (fun j m hj hm => hm.putW _)
    (fun f j m hj hm => by
      have e1 : IntKind.i64.wrap ((j : Int) + 1) = j + 1 := i64_in _ (by omega)
      rw [zq2u]
      unfold zq2f
      refine (c_pos (by omega)).trans ?_
      refine (c_inb (by omega)).trans ?_
      simp only [Int.toNat_natCast, e1]
      have hd : diffOk n (l.getD j ((0 : Int), ((0 : Int), (0 : Int)))) = true := by
        rw [List.all_eq_true] at ho
        refine ho _ ?_
        rw [List.getD, List.getElem?_eq_getElem hj]
        exact List.getElem_mem hj
      have hd := of_decide_eq_true hd
      have l0 := hm.len
      have l1 := hm.row (l.getD j ((0 : Int), ((0 : Int), (0 : Int)))).1.toNat (by omega)
      refine (c_inb (by omega)).trans ?_
      refine (c_inb (by omega)).trans ?_
      refine (c_inb (by omega)).trans ?_
      refine (c_inb (by omega)).trans ?_
      rfl)
    (fun f m hm => by
      rw [zq2u]
      unfold zq2f
      exact c_neg (by omega))
  unfold zq2v
  exact key

theorem direct_eq {n : Nat} (hn : n ≤ 100) {l : List Diff} (hl : l.length ≤ 4000) (ho : l.all (diffOk n) = true) (k : Mat → Option β) : zq2x (n : Int) l k = k (directW n l) := by
  unfold zq2x zq2i
  refine (c_make (by omega) (by omega)).trans ?_
  simp only [Int.toNat_natCast, List.length_replicate]
  refine (direct_p2 hn _ l).trans ?_
  exact direct_p3 hn _ hl ho (bigM_sq n)

/-- What Close returns. -/
def closeW (n : Nat) (l : List Diff) : Option Mat :=
  if validD n l then
    match roundsW n n 0 (diagW n (directW n l)) with
    | some m => if diagOk n m then some m else none
    | none => none
  else none

theorem Close_eq {n : Nat} (h1 : 1 ≤ n) (hn : n ≤ 41) (l : List Diff) (k : Mat → Bool → Option β) : zqde (n : Int) l k = (match closeW n l with | some m => k m true | none => k [] false) := by
  unfold zqde zqcp
  refine (Valid_eq h1 hn _).trans ?_
  unfold closeW
  by_cases hv : validD n l = true
  · rw [hv]
    have hv' := hv
    unfold validD at hv'
    rw [Bool.and_eq_true] at hv'
    simp only [Bool.not_true, cond_false, if_true]
    refine (direct_eq (by omega) (of_decide_eq_true hv'.1) hv'.2 _).trans ?_
    refine (close_p1 (by omega) _ (directW_sq n l)).trans ?_
    refine (close_p5 (by omega) _ _ (directW_sq n l).diagW).trans ?_
    cases hr : roundsW n n 0 (diagW n (directW n l)) with
    | none => rfl
    | some m =>
      simp only []
      refine (close_p6 (by omega) _ _ (roundsW_sq n 0 _ _ (directW_sq n l).diagW hr)).trans ?_
      cases diagOk n m <;> rfl
  · rw [Bool.eq_false_iff.2 hv]
    rfl
end
end
end Go.Lift

/- The theory of the closure. -/
namespace Go.Lift
open Go.RowKit Go.IntWalk
noncomputable section
set_option linter.unusedVariables false
set_option linter.unusedSimpArgs false
set_option maxRecDepth 10000

theorem wrap_in {x : Int} (h : -9223372036854775808 ≤ x ∧ x ≤ 9223372036854775807) : IntKind.i64.wrap x = x := i64_in _ h

theorem range_fold {σ : Type} (g : σ → Nat → σ) (s : σ) (c : Nat) : (List.range (c + 1)).foldl g s = g ((List.range c).foldl g s) c := by
  rw [List.range_succ, List.foldl_append]; rfl

/-- What a round needs. -/
structure RH (n k : Nat) (m : Mat) : Prop where
  sq : Sq n m
  zero : at2 m k k = 0
  row : ∀ j, j < n → -1125899906842624 ≤ at2 m k j ∧ at2 m k j < 1099511627776
  col : ∀ i, i < n → -1125899906842624 ≤ at2 m i k ∧ at2 m i k < 1099511627776

theorem relax_at {n k i j : Nat} {m : Mat} (hm : Sq n m) (hi : i < n) (hj : j < n) (h1 : -1125899906842624 ≤ at2 m i k ∧ at2 m i k < 1099511627776) (h2 : -1125899906842624 ≤ at2 m k j ∧ at2 m k j < 1099511627776) (a b : Nat) :
    at2 (relaxW k i j m) a b = if a = i ∧ b = j then min (at2 m i j) (at2 m i k + at2 m k j) else at2 m a b := by
  have hB : BIG = 1099511627776 := rfl
  unfold relaxW
  rw [if_neg (by omega), at_setAt hm hi hj, wrap_in (by omega)]
  split
  · split <;> omega
  · rfl

theorem row_at {n k i : Nat} {m : Mat} (h : RH n k m) (hk : k < n) (hi : i < n) : ∀ (c : Nat), c ≤ n → Sq n ((List.range c).foldl (fun m j => relaxW k i j m) m) ∧ ∀ a b, a < n → b < n →
    at2 ((List.range c).foldl (fun m j => relaxW k i j m) m) a b = if a = i ∧ b < c then min (at2 m a b) (at2 m a k + at2 m k b) else at2 m a b := by
  intro c
  induction c with
  | zero =>
    intro _
    refine ⟨h.sq, fun a b _ _ => ?_⟩
    rw [if_neg (by omega)]
    rfl
  | succ c ih =>
    intro hc
    obtain ⟨s1, s2⟩ := ih (by omega)
    rw [range_fold]
    refine ⟨s1.relaxW _ _ _, fun a b ha hb => ?_⟩
    have z := h.zero
    have r := h.row c (by omega)
    have cc := h.col i hi
    have ck := h.col k hk
    have q1 : at2 ((List.range c).foldl (fun m j => relaxW k i j m) m) i k = at2 m i k := by
      rw [s2 i k hi hk]; split <;> omega
    have q2 : at2 ((List.range c).foldl (fun m j => relaxW k i j m) m) k c = at2 m k c := by
      rw [s2 k c hk (by omega), if_neg (by omega)]
    rw [relax_at s1 hi (by omega) (by rw [q1]; exact cc) (by rw [q2]; exact r), q1, q2, s2 i c hi (by omega), s2 a b ha hb]
    rw [if_neg (show ¬ (i = i ∧ c < c) by omega)]
    by_cases e1 : a = i
    · subst e1
      by_cases e2 : b = c
      · subst e2
        rw [if_pos ⟨rfl, rfl⟩, if_pos (by omega)]
      · rw [if_neg (fun h => e2 h.2)]
        by_cases e3 : b < c
        · rw [if_pos (by omega), if_pos (by omega)]
        · rw [if_neg (by omega), if_neg (by omega)]
    · rw [if_neg (fun h => e1 h.1), if_neg (fun h => e1 h.1), if_neg (fun h => e1 h.1)]

theorem rowW_at {n k i : Nat} {m : Mat} (h : RH n k m) (hk : k < n) (hi : i < n) (a b : Nat) (ha : a < n) (hb : b < n) :
    at2 (rowW n k i m) a b = if a = i then min (at2 m a b) (at2 m a k + at2 m k b) else at2 m a b := by
  refine ((row_at h hk hi n (Nat.le_refl n)).2 a b ha hb).trans ?_
  by_cases e : a = i
  · rw [if_pos ⟨e, hb⟩, if_pos e]
  · rw [if_neg (fun h => e h.1), if_neg e]

theorem rounds_at {n k : Nat} {m : Mat} (h : RH n k m) (hk : k < n) : ∀ (c : Nat), c ≤ n → RH n k ((List.range c).foldl (fun m i => rowW n k i m) m) ∧ ∀ a b, a < n → b < n →
    at2 ((List.range c).foldl (fun m i => rowW n k i m) m) a b = if a < c then min (at2 m a b) (at2 m a k + at2 m k b) else at2 m a b := by
  intro c
  induction c with
  | zero =>
    intro _
    refine ⟨h, fun a b _ _ => ?_⟩
    rw [if_neg (by omega)]
    rfl
  | succ c ih =>
    intro hc
    obtain ⟨s1, s2⟩ := ih (by omega)
    rw [range_fold]
    have hh : ∀ a b, a < n → b < n → at2 (rowW n k c ((List.range c).foldl (fun m i => rowW n k i m) m)) a b = if a < c + 1 then min (at2 m a b) (at2 m a k + at2 m k b) else at2 m a b := by
      intro a b ha hb
      rw [rowW_at s1 hk (by omega) a b ha hb]
      have z := h.zero
      have e1 : at2 ((List.range c).foldl (fun m i => rowW n k i m) m) k b = at2 m k b := by rw [s2 k b hk hb]; split <;> omega
      have e2 : at2 ((List.range c).foldl (fun m i => rowW n k i m) m) a k = at2 m a k := by rw [s2 a k ha hk]; split <;> omega
      rw [e1, e2, s2 a b ha hb]
      split <;> split <;> split <;> omega
    refine ⟨⟨s1.sq.rowW _ _, ?_, ?_, ?_⟩, hh⟩
    · rw [hh k k hk hk]
      have z := h.zero
      split <;> omega
    · intro j hj
      rw [hh k j hk hj]
      have z := h.zero
      have := h.row j hj
      split <;> omega
    · intro i hi
      rw [hh i k hi hk]
      have z := h.zero
      have := h.col i hi
      split <;> omega

theorem roundW_at {n k : Nat} {m : Mat} (h : RH n k m) (hk : k < n) (a b : Nat) (ha : a < n) (hb : b < n) :
    at2 (roundW n k m) a b = min (at2 m a b) (at2 m a k + at2 m k b) := by
  refine ((rounds_at h hk n (Nat.le_refl n)).2 a b ha hb).trans ?_
  rw [if_pos ha]

/- Entries never grow, whatever they are. -/
def Le (n : Nat) (m' m : Mat) : Prop := ∀ a b, a < n → b < n → at2 m' a b ≤ at2 m a b
theorem Le.refl {n : Nat} (m : Mat) : Le n m m := fun _ _ _ _ => Int.le_refl _
theorem Le.trans {n : Nat} {a b c : Mat} (h : Le n a b) (g : Le n b c) : Le n a c := fun i j hi hj => Int.le_trans (h i j hi hj) (g i j hi hj)

theorem relax_le {n k i j : Nat} {m : Mat} (hm : Sq n m) (hi : i < n) (hj : j < n) : Le n (relaxW k i j m) m := by
  intro a b ha hb
  unfold relaxW
  split
  · exact Int.le_refl _
  · rw [at_setAt hm hi hj]
    split
    · rename_i e
      rw [e.1, e.2]
      split <;> omega
    · exact Int.le_refl _

theorem fold_le {n : Nat} (g : Mat → Nat → Mat) (h1 : ∀ m j, Sq n m → Sq n (g m j)) (h2 : ∀ m j, Sq n m → j < n → Le n (g m j) m) : ∀ (l : List Nat) (m : Mat), Sq n m → (∀ x ∈ l, x < n) → Le n (l.foldl g m) m
  | [], m, _, _ => Le.refl m
  | x :: l, m, hm, hl => (fold_le g h1 h2 l (g m x) (h1 m x hm) (fun y hy => hl y (List.mem_cons_of_mem _ hy))).trans (h2 m x hm (hl x (List.mem_cons_self ..)))

theorem row_le {n k i : Nat} {m : Mat} (hm : Sq n m) (hi : i < n) : Le n (rowW n k i m) m :=
  fold_le _ (fun m j h => h.relaxW k i j) (fun m j h hj => relax_le h hi hj) _ m hm (fun x hx => by simpa using hx)
theorem round_le {n k : Nat} {m : Mat} (hm : Sq n m) : Le n (roundW n k m) m :=
  fold_le _ (fun m j h => h.rowW k j) (fun m j h hj => row_le h hj) _ m hm (fun x hx => by simpa using hx)
theorem rounds_le {n : Nat} : ∀ (c k : Nat) (m m' : Mat), Sq n m → roundsW n c k m = some m' → Le n m' m
  | 0, k, m, m', h, e => by cases e; exact Le.refl m
  | c + 1, k, m, m', h, e => by
    unfold roundsW at e
    split at e
    · cases e
    · exact (rounds_le c (k + 1) _ m' (h.roundW k) e).trans (round_le h)
end
end Go.Lift

/- The theory of the closure, 2: the rounds. -/
namespace Go.Lift
open Go.RowKit Go.IntWalk
noncomputable section
set_option linter.unusedVariables false
set_option linter.unusedSimpArgs false
set_option maxRecDepth 10000

/-- The matrix at the beginning. -/
structure Inv0 (n : Nat) (m : Mat) : Prop where
  sq : Sq n m
  lo : ∀ i j, i < n → j < n → -17179869184 ≤ at2 m i j
  row : ∀ j, j < n → at2 m 0 j ≤ 17179869184
  neg : ∀ i, i < n → at2 m i 0 ≤ 0
  diag : ∀ i, i < n → at2 m i i ≤ 0

/-- The matrix behind k rounds. -/
structure Inv (n k : Nat) (W m : Mat) : Prop where
  sq : Sq n m
  hi : ∀ i j, i < n → j < n → at2 m i j ≤ 34359738368
  diag : ∀ i, i < n → at2 m i i ≤ 0
  le : Le n m W
  tri : ∀ a, a < k → a < n → ∀ i j, i < n → j < n → at2 m i j ≤ at2 m i a + at2 m a j
  dl : ∀ i j, i < n → j < n → at2 m i j = at2 W i j ∨ ∃ b, b < k ∧ b < n ∧ at2 m i b + at2 W b j ≤ at2 m i j
  dr : ∀ i j, i < n → j < n → at2 m i j = at2 W i j ∨ ∃ b, b < k ∧ b < n ∧ at2 W i b + at2 m b j ≤ at2 m i j

/-- Numbers whose differences are within a matrix. -/
def SolM (n : Nat) (m : Mat) (x : Nat → Int) : Prop := ∀ i j, i < n → j < n → x j - x i ≤ at2 m i j

theorem Inv0.rh {n : Nat} {m : Mat} (h : Inv0 n m) (hn : 0 < n) (z : at2 m 0 0 = 0) : RH n 0 m :=
  ⟨h.sq, z, fun j hj => by have := h.lo 0 j hn hj; have := h.row j hj; omega, fun i hi => by have := h.lo i 0 hi hn; have := h.neg i hi; omega⟩

theorem Inv0.step {n : Nat} {m : Mat} (h : Inv0 n m) (hn : 0 < n) (z : at2 m 0 0 = 0) : Inv n 1 m (roundW n 0 m) := by
  have e := roundW_at (h.rh hn z) hn
  refine ⟨h.sq.roundW _, fun i j hi hj => ?_, fun i hi => ?_, fun i j hi hj => ?_, fun a ha ha' i j hi hj => ?_, fun i j hi hj => ?_, fun i j hi hj => ?_⟩
  · rw [e i j hi hj]
    have := h.neg i hi; have := h.row j hj
    omega
  · rw [e i i hi hi]
    have := h.diag i hi
    omega
  · rw [e i j hi hj]
    omega
  · obtain rfl : a = 0 := by omega
    rw [e i j hi hj, e i 0 hi hn, e 0 j hn hj]
    omega
  · by_cases hc : at2 m i j ≤ at2 m i 0 + at2 m 0 j
    · left; rw [e i j hi hj]; omega
    · right
      refine ⟨0, by omega, hn, ?_⟩
      rw [e i j hi hj, e i 0 hi hn]
      omega
  · by_cases hc : at2 m i j ≤ at2 m i 0 + at2 m 0 j
    · left; rw [e i j hi hj]; omega
    · right
      refine ⟨0, by omega, hn, ?_⟩
      rw [e i j hi hj, e 0 j hn hj]
      omega

/-- No entry is far below 0, if the diagonal is not. -/
theorem Inv.lo {n k : Nat} {W m : Mat} (h : Inv n k W m) (hk : 1 ≤ k) (w : Inv0 n W) (hn : 0 < n) (z : ∀ i, i < n → 0 ≤ at2 m i i) {i j : Nat} (hi : i < n) (hj : j < n) : -51539607552 ≤ at2 m i j := by
  have row0 : ∀ j, j < n → 0 ≤ at2 m 0 j ∧ at2 m 0 j ≤ 17179869184 := fun j hj => by
    have h1 := h.tri 0 (by omega) hn j j hj hj
    have := z j hj
    have := h.le j 0 hj hn
    have := w.neg j hj
    have := h.le 0 j hn hj
    have := w.row j hj
    omega
  have done : ∀ c b, c < k → c < n → b < n → -17179869184 ≤ at2 m c b := fun c b hc hcn hb => by
    have h1 := h.tri c hc hcn 0 b hn hb
    have := row0 b hb
    have := row0 c hcn
    omega
  have half : ∀ i b, i < n → b < n → -34359738368 ≤ at2 m i b := fun i b hi hb => by
    rcases h.dr i b hi hb with h1 | ⟨c, hc, hcn, h1⟩
    · have := w.lo i b hi hb
      omega
    · have := w.lo i c hi hcn
      have := done c b hc hcn hb
      omega
  have := half i j hi hj
  omega

theorem Inv.rh {n k : Nat} {W m : Mat} (h : Inv n k W m) (hk1 : 1 ≤ k) (hk : k < n) (w : Inv0 n W) (z : ∀ i, i < n → 0 ≤ at2 m i i) : RH n k m :=
  ⟨h.sq, by have := z k hk; have := h.diag k hk; omega,
    fun j hj => by have := h.lo hk1 w (by omega) z hk hj; have := h.hi k j hk hj; omega, fun i hi => by have := h.lo hk1 w (by omega) z hi hk; have := h.hi i k hi hk; omega⟩

theorem Inv.step {n k : Nat} {W m : Mat} (h : Inv n k W m) (hk : k < n) (r : RH n k m) : Inv n (k + 1) W (roundW n k m) := by
  have e := roundW_at r hk
  have z := r.zero
  refine ⟨h.sq.roundW _, fun i j hi hj => ?_, fun i hi => ?_, fun i j hi hj => ?_, fun a ha ha' i j hi hj => ?_, fun i j hi hj => ?_, fun i j hi hj => ?_⟩
  · rw [e i j hi hj]
    have := h.hi i j hi hj
    omega
  · rw [e i i hi hi]
    have := h.diag i hi
    omega
  · rw [e i j hi hj]
    have := h.le i j hi hj
    omega
  · rw [e i j hi hj, e i a hi ha', e a j ha' hj]
    by_cases q : a = k
    · subst q
      omega
    · have t := h.tri a (by omega) ha'
      have t1 := t i j hi hj
      have t2 := t k j hk hj
      have t3 := t i k hi hk
      have t4 := t k k hk hk
      omega
  · by_cases hc : at2 m i j ≤ at2 m i k + at2 m k j
    · rcases h.dl i j hi hj with h1 | ⟨b, hb, hbn, h1⟩
      · left; rw [e i j hi hj]; omega
      · right
        refine ⟨b, by omega, hbn, ?_⟩
        rw [e i j hi hj, e i b hi hbn]
        omega
    · right
      rcases h.dl k j hk hj with h1 | ⟨b, hb, hbn, h1⟩
      · refine ⟨k, by omega, hk, ?_⟩
        rw [e i j hi hj, e i k hi hk]
        omega
      · refine ⟨b, by omega, hbn, ?_⟩
        rw [e i j hi hj, e i b hi hbn]
        omega
  · by_cases hc : at2 m i j ≤ at2 m i k + at2 m k j
    · rcases h.dr i j hi hj with h1 | ⟨b, hb, hbn, h1⟩
      · left; rw [e i j hi hj]; omega
      · right
        refine ⟨b, by omega, hbn, ?_⟩
        rw [e i j hi hj, e b j hbn hj]
        omega
    · right
      rcases h.dr i k hi hk with h1 | ⟨b, hb, hbn, h1⟩
      · refine ⟨k, by omega, hk, ?_⟩
        rw [e i j hi hj, e k j hk hj]
        omega
      · refine ⟨b, by omega, hbn, ?_⟩
        rw [e i j hi hj, e b j hbn hj]
        omega

theorem SolM.step {n k : Nat} {m : Mat} {x : Nat → Int} (s : SolM n m x) (h : RH n k m) (hk : k < n) : SolM n (roundW n k m) x := by
  intro i j hi hj
  rw [roundW_at h hk i j hi hj]
  have := s i j hi hj; have := s i k hi hk; have := s k j hk hj
  omega

theorem rounds_final {n : Nat} {W : Mat} (w : Inv0 n W) : ∀ (c k : Nat) (m m' : Mat), k + c = n → 1 ≤ k → Inv n k W m → roundsW n c k m = some m' → (∀ i, i < n → 0 ≤ at2 m' i i) → Inv n n W m' ∧ ∀ x, SolM n m x → SolM n m' x
  | 0, k, m, m', h, _, hi, e, _ => by
    cases e
    obtain rfl : k = n := by omega
    exact ⟨hi, fun x s => s⟩
  | c + 1, k, m, m', h, h1, hi, e, z => by
    have hk : k < n := by omega
    have zz : ∀ i, i < n → 0 ≤ at2 m i i := fun i hi' => by
      have := rounds_le (c + 1) k m m' hi.sq e i i hi' hi'
      have := z i hi'
      omega
    have r := hi.rh h1 hk w zz
    unfold roundsW at e
    split at e
    · cases e
    · have := rounds_final w c (k + 1) _ m' (by omega) (by omega) (hi.step hk r) e z
      exact ⟨this.1, fun x s => this.2 x (s.step r hk)⟩

theorem SolM.diag {n : Nat} {m : Mat} {x : Nat → Int} (s : SolM n m x) {i : Nat} (hi : i < n) : 0 ≤ at2 m i i := by
  have := s i i hi hi
  omega

theorem rounds_exist {n : Nat} {W : Mat} (w : Inv0 n W) {x : Nat → Int} : ∀ (c k : Nat) (m : Mat), k + c = n → 1 ≤ k → Inv n k W m → SolM n m x → ∃ m', roundsW n c k m = some m' ∧ SolM n m' x
  | 0, k, m, h, _, hi, s => ⟨m, rfl, s⟩
  | c + 1, k, m, h, h1, hi, s => by
    have hk : k < n := by omega
    have r := hi.rh h1 hk w (fun i hi => s.diag hi)
    have s' := s.step r hk
    unfold roundsW
    rw [if_neg (by have := s'.diag hk; omega)]
    exact rounds_exist w c (k + 1) _ (by omega) (by omega) (hi.step hk r) s'

/-- All that is known of a closed matrix. -/
structure ClosedM (n : Nat) (W m : Mat) : Prop where
  inv : Inv n n W m
  start : Inv0 n W
  zero : ∀ i, i < n → at2 m i i = 0
  le : Le n m W
  sol : ∀ x, SolM n W x → SolM n m x

theorem closed_final {n : Nat} (h1 : 1 ≤ n) {W m : Mat} (h : Inv0 n W) (e : roundsW n n 0 W = some m) (z : ∀ i, i < n → 0 ≤ at2 m i i) : ClosedM n W m := by
  have le := rounds_le n 0 W m h.sq e
  have zz : at2 W 0 0 = 0 := by
    have := le 0 0 h1 h1
    have := z 0 h1
    have := h.diag 0 h1
    omega
  obtain ⟨c, rfl⟩ : ∃ c, n = c + 1 := ⟨n - 1, by omega⟩
  unfold roundsW at e
  split at e
  · cases e
  · have := rounds_final h c 1 _ m (by omega) (by omega) (h.step h1 zz) e z
    refine ⟨this.1, h, fun i hi => ?_, le, fun x s => this.2 x (s.step (h.rh h1 zz) h1)⟩
    have := this.1.diag i hi
    have := z i hi
    omega

theorem closed_exist {n : Nat} (h1 : 1 ≤ n) {W : Mat} (h : Inv0 n W) {x : Nat → Int} (s : SolM n W x) : ∃ m, roundsW n n 0 W = some m ∧ ClosedM n W m := by
  have zz : at2 W 0 0 = 0 := by
    have := s.diag h1
    have := h.diag 0 h1
    omega
  have s' := s.step (h.rh h1 zz) h1
  obtain ⟨c, rfl⟩ : ∃ c, n = c + 1 := ⟨n - 1, by omega⟩
  obtain ⟨m', e, s''⟩ := rounds_exist h c 1 _ (by omega) (by omega) (h.step h1 zz) s'
  have e' : roundsW (c + 1) (c + 1) 0 W = some m' := by
    unfold roundsW
    rw [if_neg (by have := s'.diag h1; omega)]
    exact e
  exact ⟨m', e', closed_final h1 h e' (fun i hi => s''.diag hi)⟩

theorem ClosedM.tri {n : Nat} {W m : Mat} (h : ClosedM n W m) {i a j : Nat} (hi : i < n) (ha : a < n) (hj : j < n) : at2 m i j ≤ at2 m i a + at2 m a j := h.inv.tri a ha ha i j hi hj
theorem ClosedM.lo {n : Nat} {W m : Mat} (h : ClosedM n W m) (h1 : 1 ≤ n) {i j : Nat} (hi : i < n) (hj : j < n) : -51539607552 ≤ at2 m i j :=
  h.inv.lo h1 h.start h1 (fun i hi => by have := h.zero i hi; omega) hi hj

/-- Each row is a solution. -/
theorem ClosedM.row {n : Nat} {W m : Mat} (h : ClosedM n W m) {r : Nat} (hr : r < n) : SolM n W (fun j => at2 m r j) := by
  intro i j hi hj
  have := h.tri hr hi hj
  have := h.le i j hi hj
  show at2 m r j - at2 m r i ≤ at2 W i j
  omega
end
end Go.Lift

/- The theory of the closure, 3: constraints. -/
namespace Go.Lift
open Go.RowKit Go.IntWalk
noncomputable section
set_option linter.unusedVariables false
set_option linter.unusedSimpArgs false
set_option maxRecDepth 10000

/-- Numbers that fulfil all constraints. -/
def Sol (l : List Diff) (x : Nat → Int) : Prop := ∀ d ∈ l, x d.2.1.toNat - x d.1.toNat ≤ d.2.2

theorem put_at {n : Nat} {m : Mat} (h : Sq n m) {d : Diff} (hd : diffOk n d = true) (a b : Nat) :
    at2 (putW m d) a b = if a = d.1.toNat ∧ b = d.2.1.toNat then min (at2 m a b) d.2.2 else at2 m a b := by
  have hd := of_decide_eq_true hd
  unfold putW
  rw [at_setAt h (by omega) (by omega)]
  split
  · rename_i e
    rw [e.1, e.2]
    split <;> omega
  · rfl

theorem big_at {n : Nat} {i j : Nat} (hi : i < n) (hj : j < n) : at2 (bigM n) i j = 1099511627776 := by
  unfold at2 bigM
  simp [List.getD, hi, hj]

/-- The direct bounds: what is under all of them. -/
theorem direct_glb {n : Nat} : ∀ (l : List Diff), l.all (diffOk n) = true → ∀ (m : Mat), Sq n m → ∀ i j (v : Int), v ≤ at2 (l.foldl putW m) i j ↔ v ≤ at2 m i j ∧ ∀ d ∈ l, d.1.toNat = i → d.2.1.toNat = j → v ≤ d.2.2
  | [], _, m, hm, i, j, v => by simp
  | d :: l, ho, m, hm, i, j, v => by
    rw [List.all_cons, Bool.and_eq_true] at ho
    simp only [List.foldl_cons]
    rw [direct_glb l ho.2 _ (hm.putW d) i j v, put_at hm ho.1]
    simp only [List.mem_cons, forall_eq_or_imp]
    by_cases e : i = d.1.toNat ∧ j = d.2.1.toNat
    · rw [if_pos e]
      constructor
      · intro h
        refine ⟨by omega, fun _ _ => by omega, h.2⟩
      · intro h
        have := h.2.1 e.1.symm e.2.symm
        exact ⟨by omega, h.2.2⟩
    · rw [if_neg e]
      constructor
      · intro h
        exact ⟨h.1, fun a b => absurd ⟨a.symm, b.symm⟩ e, h.2⟩
      · intro h
        exact ⟨h.1, h.2.2⟩

theorem diag_at {n : Nat} {m : Mat} (hm : Sq n m) {i j : Nat} (hi : i < n) (hj : j < n) : at2 (diagW n m) i j = if i = j then min (at2 m i j) 0 else at2 m i j := by
  have key : ∀ c, c ≤ n → Sq n ((List.range c).foldl (fun m i => setAt m i i (if 0 < at2 m i i then 0 else at2 m i i)) m) ∧ ∀ a b, a < n → b < n →
      at2 ((List.range c).foldl (fun m i => setAt m i i (if 0 < at2 m i i then 0 else at2 m i i)) m) a b = if a = b ∧ a < c then min (at2 m a b) 0 else at2 m a b := by
    intro c
    induction c with
    | zero =>
      intro _
      refine ⟨hm, fun a b _ _ => ?_⟩
      rw [if_neg (by omega)]
      rfl
    | succ c ih =>
      intro hc
      obtain ⟨s1, s2⟩ := ih (by omega)
      rw [range_fold]
      refine ⟨s1.setAt _ _ _, fun a b ha hb => ?_⟩
      rw [at_setAt s1 (by omega) (by omega), s2 c c (by omega) (by omega), s2 a b ha hb, if_neg (show ¬ (c = c ∧ c < c) by omega)]
      by_cases e : a = c ∧ b = c
      · rw [if_pos e, if_pos (show a = b ∧ a < c + 1 by omega), e.1, e.2]
        split <;> omega
      · rw [if_neg e]
        by_cases e2 : a = b ∧ a < c
        · rw [if_pos e2, if_pos (show a = b ∧ a < c + 1 by omega)]
        · rw [if_neg e2, if_neg (show ¬ (a = b ∧ a < c + 1) by omega)]
  refine ((key n (Nat.le_refl n)).2 i j hi hj).trans ?_
  by_cases e : i = j
  · rw [if_pos ⟨e, hi⟩, if_pos e]
  · rw [if_neg (fun h => e h.1), if_neg e]

/-- The matrix at the beginning. -/
def startW (n : Nat) (l : List Diff) : Mat := diagW n (directW n l)

theorem start_glb {n : Nat} {l : List Diff} (ho : l.all (diffOk n) = true) {i j : Nat} (hi : i < n) (hj : j < n) (v : Int) :
    v ≤ at2 (startW n l) i j ↔ v ≤ 1099511627776 ∧ (∀ d ∈ l, d.1.toNat = i → d.2.1.toNat = j → v ≤ d.2.2) ∧ (i = j → v ≤ 0) := by
  unfold startW
  rw [diag_at (directW_sq n l) hi hj]
  have g := direct_glb l ho (bigM n) (bigM_sq n) i j v
  rw [big_at hi hj] at g
  by_cases e : i = j
  · rw [if_pos e]
    constructor
    · intro h
      have := g.1 (by unfold directW at h; omega)
      exact ⟨this.1, this.2, fun _ => by omega⟩
    · intro h
      have := g.2 ⟨h.1, h.2.1⟩
      have := h.2.2 e
      unfold directW
      omega
  · rw [if_neg e]
    constructor
    · intro h
      have := g.1 h
      exact ⟨this.1, this.2, fun h => absurd h e⟩
    · intro h
      exact g.2 ⟨h.1, h.2.1⟩

theorem start_le {n : Nat} {l : List Diff} (ho : l.all (diffOk n) = true) {d : Diff} (hd : d ∈ l) : at2 (startW n l) d.1.toNat d.2.1.toNat ≤ d.2.2 := by
  have h := of_decide_eq_true (List.all_eq_true.1 ho d hd)
  exact ((start_glb ho (by omega) (by omega) _).1 (Int.le_refl _)).2.1 d hd rfl rfl

/-- Every variable has both bounds against the variable 0. -/
structure Conn (n : Nat) (l : List Diff) : Prop where
  pos : 1 ≤ n
  small : n ≤ 41
  valid : validD n l = true
  up : ∀ i, 1 ≤ i → i < n → ∃ d ∈ l, d.1.toNat = 0 ∧ d.2.1.toNat = i
  down : ∀ i, 1 ≤ i → i < n → ∃ d ∈ l, d.1.toNat = i ∧ d.2.1.toNat = 0 ∧ d.2.2 ≤ 0

theorem Conn.all {n : Nat} {l : List Diff} (h : Conn n l) : l.all (diffOk n) = true := by
  have := h.valid
  unfold validD at this
  rw [Bool.and_eq_true] at this
  exact this.2

theorem Conn.inv {n : Nat} {l : List Diff} (h : Conn n l) : Inv0 n (startW n l) := by
  have ho := h.all
  refine ⟨(directW_sq n l).diagW, fun i j hi hj => ?_, fun j hj => ?_, fun i hi => ?_, fun i hi => ?_⟩
  · rw [start_glb ho hi hj]
    refine ⟨by omega, fun d hd _ _ => ?_, by omega⟩
    have := of_decide_eq_true (List.all_eq_true.1 ho d hd)
    omega
  · by_cases e : j = 0
    · subst e
      have := ((start_glb ho h.pos h.pos _).1 (Int.le_refl _)).2.2 rfl
      omega
    · obtain ⟨d, hd, e1, e2⟩ := h.up j (by omega) hj
      have := start_le ho hd
      have := of_decide_eq_true (List.all_eq_true.1 ho d hd)
      rw [e1, e2] at *
      omega
  · by_cases e : i = 0
    · subst e
      have := ((start_glb ho h.pos h.pos _).1 (Int.le_refl _)).2.2 rfl
      omega
    · obtain ⟨d, hd, e1, e2, e3⟩ := h.down i (by omega) hi
      have h1 := start_le ho hd
      rw [e1, e2] at h1
      omega
  · exact ((start_glb ho hi hi _).1 (Int.le_refl _)).2.2 rfl

/-- Solutions of the constraints, as far as numbers below BIG go. -/
theorem sol_iff {n : Nat} {l : List Diff} (ho : l.all (diffOk n) = true) (x : Nat → Int) (hx : ∀ i j, i < n → j < n → x j - x i ≤ 1099511627776) : SolM n (startW n l) x ↔ Sol l x := by
  constructor
  · intro h d hd
    have hh := of_decide_eq_true (List.all_eq_true.1 ho d hd)
    have := h d.1.toNat d.2.1.toNat (by omega) (by omega)
    have := start_le ho hd
    omega
  · intro h i j hi hj
    rw [start_glb ho hi hj]
    refine ⟨hx i j hi hj, fun d hd e1 e2 => ?_, fun e => by subst e; omega⟩
    have := h d hd
    rw [e1, e2] at this
    exact this

/-- All that is known of what Close returns. -/
structure CloseOk (n : Nat) (l : List Diff) (m : Mat) : Prop where
  sq : Sq n m
  lo : ∀ i j, i < n → j < n → -4398046511104 ≤ at2 m i j
  hi : ∀ i j, i < n → j < n → at2 m i j ≤ 34359738368
  zero : ∀ i, i < n → at2 m i i = 0
  tri : ∀ i a j, i < n → a < n → j < n → at2 m i j ≤ at2 m i a + at2 m a j
  /-- no solution goes beyond -/
  sol : ∀ x, Sol l x → ∀ i j, i < n → j < n → x j - x i ≤ at2 m i j
  /-- each row is a solution -/
  row : ∀ r, r < n → Sol l (fun j => at2 m r j)

/-- A solution is bounded. -/
theorem Conn.bounded {n : Nat} {l : List Diff} (h : Conn n l) {x : Nat → Int} (s : Sol l x) : ∀ i j, i < n → j < n → x j - x i ≤ 1099511627776 := by
  have ho := h.all
  intro i j hi hj
  have a : x j - x 0 ≤ 17179869184 := by
    by_cases e : j = 0
    · subst e; omega
    · obtain ⟨d, hd, e1, e2⟩ := h.up j (by omega) hj
      have := s d hd
      have := of_decide_eq_true (List.all_eq_true.1 ho d hd)
      rw [e1, e2] at *
      omega
  have b : x 0 - x i ≤ 17179869184 := by
    by_cases e : i = 0
    · subst e; omega
    · obtain ⟨d, hd, e1, e2, e3⟩ := h.down i (by omega) hi
      have := s d hd
      rw [e1, e2] at this
      omega
  omega

theorem ClosedM.ok {n : Nat} {l : List Diff} (h : Conn n l) {m : Mat} (c : ClosedM n (startW n l) m) : CloseOk n l m := by
  have ho := h.all
  have hs := h.small
  refine ⟨c.inv.sq, fun i j hi hj => ?_, c.inv.hi, c.zero, fun i a j hi ha hj => c.tri hi ha hj, fun x s i j hi hj => ?_, fun r hr => ?_⟩
  · have := c.lo h.pos hi hj
    omega
  · exact c.sol x ((sol_iff ho x (h.bounded s)).2 s) i j hi hj
  · intro d hd
    have hh := of_decide_eq_true (List.all_eq_true.1 ho d hd)
    have := c.row hr d.1.toNat d.2.1.toNat (by omega) (by omega)
    have := start_le ho hd
    omega

theorem diagOk_iff {n : Nat} {m : Mat} : diagOk n m = true ↔ ∀ i, i < n → 0 ≤ at2 m i i := by
  unfold diagOk
  rw [List.all_eq_true]
  constructor
  · intro h i hi
    have := of_decide_eq_true (h i (by simpa using hi))
    omega
  · intro h i hi
    have := h i (by simpa using hi)
    exact decide_eq_true (by omega)

/-- If Close returns a matrix, all is known of it. -/
theorem close_ok {n : Nat} {l : List Diff} (h : Conn n l) {m : Mat} (e : closeW n l = some m) : CloseOk n l m := by
  unfold closeW at e
  rw [if_pos h.valid] at e
  cases hr : roundsW n n 0 (diagW n (directW n l)) with
  | none => rw [hr] at e; cases e
  | some m' =>
    rw [hr] at e
    simp only [] at e
    by_cases hd : diagOk n m' = true
    · rw [if_pos hd] at e
      cases e
      exact (closed_final h.pos h.inv hr (diagOk_iff.1 hd)).ok h
    · rw [if_neg hd] at e; cases e

/-- If there is a solution, Close returns a matrix. -/
theorem close_some {n : Nat} {l : List Diff} (h : Conn n l) {x : Nat → Int} (s : Sol l x) : ∃ m, closeW n l = some m ∧ CloseOk n l m := by
  obtain ⟨m, hr, c⟩ := closed_exist h.pos h.inv ((sol_iff h.all x (h.bounded s)).2 s)
  refine ⟨m, ?_, c.ok h⟩
  unfold closeW
  rw [if_pos h.valid]
  have hr' : roundsW n n 0 (diagW n (directW n l)) = some m := hr
  rw [hr']
  simp only []
  rw [if_pos (diagOk_iff.2 (fun i hi => by have := c.zero i hi; omega))]
end
end Go.Lift

/- The constraints of a record, and what their solutions are. -/
namespace Go.Lift
open Go.RowKit Go.IntWalk
noncomputable section
set_option linter.unusedVariables false
set_option linter.unusedSimpArgs false
set_option maxRecDepth 10000

theorem foldl_flat {α γ : Type} (f : α → List γ) : ∀ (l : List α) (s : List γ), l.foldl (fun s x => s ++ f x) s = s ++ l.flatMap f
  | [], s => by simp
  | x :: l, s => by
    simp only [List.foldl_cons, List.flatMap_cons]
    rw [foldl_flat f l, List.append_assoc]

/-- A loop with a test at each element: out, or on. -/
theorem fold_check {β α σ : Type} (I : Nat → σ → Prop) (F : Nat → Int → σ → Option β) (p : α → Bool) (g : σ → α → σ) (E : Option β) (K : σ → Option β) (d : α) (xs : List α) (s : σ) (n : Nat) (hn : xs.length < n) (h0 : I 0 s)
    (hI : ∀ (i : Nat) s, i < xs.length → I i s → p (xs.getD i d) = true → I (i + 1) (g s (xs.getD i d)))
    (h1 : ∀ (m i : Nat) s, i < xs.length → I i s → F (m + 1) (i : Int) s = cond (p (xs.getD i d)) (F m ((i : Int) + 1) (g s (xs.getD i d))) E)
    (h2 : ∀ (m : Nat) s, I xs.length s → F (m + 1) (xs.length : Int) s = K s) : F n 0 s = cond (xs.all p) (K (xs.foldl g s)) E := by
  have key : ∀ (r : List α) (j fuel : Nat) (s : σ), xs.drop j = r → j + r.length = xs.length → r.length < fuel → I j s → F fuel (j : Int) s = cond (r.all p) (K (r.foldl g s)) E := by
    intro r
    induction r with
    | nil =>
      intro j fuel s hd hj hf hs
      obtain ⟨m, rfl⟩ : ∃ m, fuel = m + 1 := ⟨fuel - 1, by omega⟩
      simp only [List.length_nil, Nat.add_zero] at hj
      subst hj
      exact h2 m s hs
    | cons x r ih =>
      intro j fuel s hd hj hf hs
      obtain ⟨m, rfl⟩ : ∃ m, fuel = m + 1 := ⟨fuel - 1, by omega⟩
      simp only [List.length_cons] at hj hf
      have h3 : j < xs.length := by omega
      have hx : xs.getD j d = x := by
        rw [List.drop_eq_getElem_cons h3] at hd
        injection hd with hd1 hd2
        simp [List.getD, h3, hd1]
      have hr : xs.drop (j + 1) = r := by
        rw [List.drop_eq_getElem_cons h3] at hd
        injection hd with hd1 hd2
      rw [h1 m j s h3 hs, hx]
      have := hI j s h3 hs
      rw [hx] at this
      simp only [List.all_cons, List.foldl_cons]
      cases hp : p x with
      | true => simpa using ih (j + 1) m (g s x) hr (by omega) (by omega) (this hp)
      | false => rfl
  exact key xs 0 n s rfl (by simp) hn h0

/-- The same over the numbers below n. -/
theorem range_check {β σ : Type} (n : Nat) (I : Nat → σ → Prop) (F : Nat → Int → σ → Option β) (p : Nat → Bool) (g : σ → Nat → σ) (E : Option β) (K : σ → Option β) (s : σ) (N : Nat) (hn : n < N) (h0 : I 0 s)
    (hI : ∀ (i : Nat) s, i < n → I i s → p i = true → I (i + 1) (g s i))
    (h1 : ∀ (m i : Nat) s, i < n → I i s → F (m + 1) (i : Int) s = cond (p i) (F m ((i : Int) + 1) (g s i)) E)
    (h2 : ∀ (m : Nat) s, I n s → F (m + 1) (n : Int) s = K s) : F N 0 s = cond ((List.range n).all p) (K ((List.range n).foldl g s)) E := by
  have hl : (List.range n).length = n := List.length_range
  refine fold_check I F p g E K 0 (List.range n) s N (by omega) h0 (fun i s hi hs => ?_) (fun m i s hi hs => ?_) (fun m s hs => ?_)
  · rw [range_getD (by omega)]
    exact hI i s (by omega) hs
  · rw [range_getD (by omega)]
    exact h1 m i s (by omega) hs
  · rw [hl] at hs ⊢
    exact h2 m s hs

theorem range_fold' {β σ : Type} (n : Nat) (I : Nat → σ → Prop) (F : Nat → Int → σ → Option β) (g : σ → Nat → σ) (K : σ → Option β) (s : σ) (N : Nat) (hn : n < N) (h0 : I 0 s)
    (hI : ∀ (i : Nat) s, i < n → I i s → I (i + 1) (g s i))
    (h1 : ∀ (m i : Nat) s, i < n → I i s → F (m + 1) (i : Int) s = F m ((i : Int) + 1) (g s i))
    (h2 : ∀ (m : Nat) s, I n s → F (m + 1) (n : Int) s = K s) : F N 0 s = K ((List.range n).foldl g s) := by
  have h := range_check n I F (fun _ => true) g none K s N hn h0 (fun i s hi hs _ => hI i s hi hs) h1 h2
  rw [h]
  have : (List.range n).all (fun _ => true) = true := by simp
  rw [this]
  rfl

def evAt (r : Rec) (i : Nat) : Event := r.2.2.1.getD i (0, 0, [])
def whenAt (r : Rec) (i : Nat) : (Int × Int) × Bool := when? r (evAt r i).1 (evAt r i).2.1
def driftAt (r : Rec) (h : Int) : Int := (r.1.getD h.toNat ([], 0)).2
def evD (r : Rec) (i : Nat) : List Diff := [(0, ((i : Int) + 1, (whenAt r i).1.2)), ((i : Int) + 1, (0, -(whenAt r i).1.1))]
def pairD (r : Rec) (i j : Nat) : List Diff :=
  if (evAt r j).2.1 < (evAt r i).2.1 then
    [((j : Int) + 1, ((i : Int) + 1, (elapsed (driftAt r (evAt r j).1) ((evAt r i).2.1 - (evAt r j).2.1)).2)), ((i : Int) + 1, ((j : Int) + 1, -(elapsed (driftAt r (evAt r j).1) ((evAt r i).2.1 - (evAt r j).2.1)).1))]
  else
    [((i : Int) + 1, ((j : Int) + 1, (elapsed (driftAt r (evAt r i).1) ((evAt r j).2.1 - (evAt r i).2.1)).2)), ((j : Int) + 1, ((i : Int) + 1, -(elapsed (driftAt r (evAt r i).1) ((evAt r j).2.1 - (evAt r i).2.1)).1))]
def pairIf (r : Rec) (i j : Nat) : List Diff := if (evAt r j).1 = (evAt r i).1 then pairD r i j else []
def pairsI (r : Rec) (n i : Nat) : List Diff := ((List.range n).filter fun j => decide (i < j)).flatMap (pairIf r i)
def linkD (l : Link) : Diff := (l.2.1 + 1, (l.1 + 1, -l.2.2))
def nE (r : Rec) : Nat := r.2.2.1.length
def whensOk (r : Rec) : Bool := (List.range (nE r)).all fun i => (whenAt r i).2
def consL (r : Rec) : List Diff := (List.range (nE r)).flatMap (evD r) ++ (List.range (nE r)).flatMap (pairsI r (nE r)) ++ r.2.2.2.map linkD
/-- The constraints of a record. -/
def consW (r : Rec) : Option (List Diff) := if valid r && whensOk r then some (consL r) else none

/-- Times that fit a record. -/
structure SolR (r : Rec) (x : Nat → Int) : Prop where
  ev : ∀ i, i < nE r → x (i + 1) - x 0 ≤ (whenAt r i).1.2 ∧ x 0 - x (i + 1) ≤ -(whenAt r i).1.1
  pair : ∀ i j, i < nE r → j < nE r → i ≠ j → (evAt r i).1 = (evAt r j).1 → (evAt r i).2.1 ≤ (evAt r j).2.1 →
    (elapsed (driftAt r (evAt r i).1) ((evAt r j).2.1 - (evAt r i).2.1)).1 ≤ x (j + 1) - x (i + 1) ∧ x (j + 1) - x (i + 1) ≤ (elapsed (driftAt r (evAt r i).1) ((evAt r j).2.1 - (evAt r i).2.1)).2
  link : ∀ l ∈ r.2.2.2, l.2.2 ≤ x (l.2.1.toNat + 1) - x (l.1.toNat + 1)

theorem valid_parts {r : Rec} (h : valid r = true) : (∀ h ∈ r.1, 0 ≤ h.2 ∧ h.2 ≤ 500000) ∧ (∀ s ∈ r.2.1, 0 ≤ s.1 ∧ s.1 < r.1.length ∧ okSync s = true) ∧
    (∀ e ∈ r.2.2.1, 0 ≤ e.1 ∧ e.1 < r.1.length ∧ 0 ≤ e.2.1 ∧ e.2.1 ≤ 8589934592) ∧
    (∀ l ∈ r.2.2.2, 0 ≤ l.1 ∧ l.1 < nE r ∧ 0 ≤ l.2.1 ∧ l.2.1 < nE r ∧ l.1 ≠ l.2.1 ∧ 0 ≤ l.2.2 ∧ l.2.2 ≤ 8589934592) := by
  unfold valid at h
  simp only [Bool.and_eq_true, List.all_eq_true] at h
  obtain ⟨_, h1, h2, h3, h4⟩ := h
  refine ⟨fun x hx => ?_, fun x hx => ?_, fun x hx => ?_, fun x hx => ?_⟩
  · exact inN_iff.1 (h1 x hx)
  · have := h2 x hx
    simp only [vSync, Bool.and_eq_true, inN_iff] at this
    exact ⟨by omega, by omega, this.2⟩
  · have := h3 x hx
    simp only [vEvent, Bool.and_eq_true, inN_iff] at this
    omega
  · have := h4 x hx
    simp only [vLink, Bool.and_eq_true, inN_iff, Bool.not_eq_true', decide_eq_false_iff_not] at this
    unfold nE
    omega

theorem valid_ev {r : Rec} (h : valid r = true) {i : Nat} (hi : i < nE r) : 0 ≤ (evAt r i).1 ∧ (evAt r i).1 < r.1.length ∧ 0 ≤ (evAt r i).2.1 ∧ (evAt r i).2.1 ≤ 8589934592 :=
  (valid_parts h).2.2.1 _ (getD_mem hi)

theorem elapsed_zero (d : Int) : elapsed d 0 = (0, 0) := by
  unfold elapsed
  by_cases h : inN d 0 500000 = true
  · have := inN_iff.1 h
    rw [h, inN_mk (by omega)]
    simp only [Bool.and_self, cond_true]
    rw [Int.zero_mul, Int.zero_ediv]
    congr 1
    exact Int.ediv_eq_zero_of_lt (by omega) (by omega)
  · rw [Bool.eq_false_iff.2 h]
    rfl

theorem mem_pairs {r : Rec} {n : Nat} {d : Diff} : d ∈ (List.range n).flatMap (pairsI r n) ↔ ∃ i j, i < j ∧ j < n ∧ (evAt r j).1 = (evAt r i).1 ∧ d ∈ pairD r i j := by
  simp only [List.mem_flatMap, pairsI, List.mem_filter, List.mem_range, decide_eq_true_eq, pairIf]
  constructor
  · rintro ⟨i, hi, j, ⟨hj, hij⟩, hd⟩
    split at hd
    · rename_i e
      exact ⟨i, j, hij, hj, e, hd⟩
    · cases hd
  · rintro ⟨i, j, hij, hj, e, hd⟩
    exact ⟨i, by omega, j, ⟨hj, hij⟩, by rw [if_pos e]; exact hd⟩

theorem mem_cons {r : Rec} {d : Diff} : d ∈ consL r ↔ (∃ i, i < nE r ∧ d ∈ evD r i) ∨ (∃ i j, i < j ∧ j < nE r ∧ (evAt r j).1 = (evAt r i).1 ∧ d ∈ pairD r i j) ∨ ∃ l ∈ r.2.2.2, d = linkD l := by
  unfold consL
  rw [List.mem_append, List.mem_append, mem_pairs, or_assoc]
  simp only [List.mem_flatMap, List.mem_range, List.mem_map, eq_comm]

theorem pairD_sol {r : Rec} {i j : Nat} {x : Nat → Int} : (∀ d ∈ pairD r i j, x d.2.1.toNat - x d.1.toNat ≤ d.2.2) ↔
    (if (evAt r j).2.1 < (evAt r i).2.1 then
      (elapsed (driftAt r (evAt r j).1) ((evAt r i).2.1 - (evAt r j).2.1)).1 ≤ x (i + 1) - x (j + 1) ∧ x (i + 1) - x (j + 1) ≤ (elapsed (driftAt r (evAt r j).1) ((evAt r i).2.1 - (evAt r j).2.1)).2
    else (elapsed (driftAt r (evAt r i).1) ((evAt r j).2.1 - (evAt r i).2.1)).1 ≤ x (j + 1) - x (i + 1) ∧ x (j + 1) - x (i + 1) ≤ (elapsed (driftAt r (evAt r i).1) ((evAt r j).2.1 - (evAt r i).2.1)).2) := by
  have ei : ((i : Int) + 1).toNat = i + 1 := by omega
  have ej : ((j : Int) + 1).toNat = j + 1 := by omega
  unfold pairD
  split
  · simp only [List.mem_cons, List.not_mem_nil, or_false, forall_eq_or_imp, forall_eq, ei, ej]
    omega
  · simp only [List.mem_cons, List.not_mem_nil, or_false, forall_eq_or_imp, forall_eq, ei, ej]
    omega

theorem sol_cons {r : Rec} (hv : valid r = true) (x : Nat → Int) : Sol (consL r) x ↔ SolR r x := by
  have hp := valid_parts hv
  constructor
  · intro h
    refine ⟨fun i hi => ?_, fun i j hi hj hij hh hc => ?_, fun l hl => ?_⟩
    · have h1 := h (0, ((i : Int) + 1, (whenAt r i).1.2)) (mem_cons.2 (.inl ⟨i, hi, by simp [evD]⟩))
      have h2 := h ((i : Int) + 1, (0, -(whenAt r i).1.1)) (mem_cons.2 (.inl ⟨i, hi, by simp [evD]⟩))
      have e : ((i : Int) + 1).toNat = i + 1 := by omega
      simp only [e, Int.toNat_zero] at h1 h2
      exact ⟨h1, h2⟩
    · rcases Nat.lt_or_gt_of_ne hij with hl | hl
      · have := pairD_sol.1 (fun d hd => h d (mem_cons.2 (.inr (.inl ⟨i, j, hl, hj, hh.symm, hd⟩))))
        rw [if_neg (by omega)] at this
        exact this
      · have := pairD_sol.1 (fun d hd => h d (mem_cons.2 (.inr (.inl ⟨j, i, hl, hi, hh, hd⟩))))
        by_cases e : (evAt r i).2.1 = (evAt r j).2.1
        · rw [if_neg (by omega), e, Int.sub_self, elapsed_zero] at this
          rw [e, Int.sub_self, elapsed_zero]
          simp only at this ⊢
          omega
        · rw [if_pos (by omega)] at this
          exact this
    · have h1 := h (linkD l) (mem_cons.2 (.inr (.inr ⟨l, hl, rfl⟩)))
      have := hp.2.2.2 l hl
      have e1 : (l.1 + 1).toNat = l.1.toNat + 1 := by omega
      have e2 : (l.2.1 + 1).toNat = l.2.1.toNat + 1 := by omega
      simp only [linkD, e1, e2] at h1
      omega
  · intro h d hd
    rcases mem_cons.1 hd with ⟨i, hi, hd⟩ | ⟨i, j, hij, hj, hh, hd⟩ | ⟨l, hl, rfl⟩
    · have := h.ev i hi
      have e : ((i : Int) + 1).toNat = i + 1 := by omega
      simp only [evD, List.mem_cons, List.not_mem_nil, or_false] at hd
      rcases hd with rfl | rfl
      · simp only [e, Int.toNat_zero]
        exact this.1
      · simp only [e, Int.toNat_zero]
        exact this.2
    · refine pairD_sol.2 ?_ d hd
      split
      · rename_i hc
        exact h.pair j i hj (by omega) (by omega) hh (by omega)
      · rename_i hc
        exact h.pair i j (by omega) hj (by omega) hh.symm (by omega)
    · have := h.link l hl
      have hb := hp.2.2.2 l hl
      have e1 : (l.1 + 1).toNat = l.1.toNat + 1 := by omega
      have e2 : (l.2.1 + 1).toNat = l.2.1.toNat + 1 := by omega
      simp only [linkD, e1, e2]
      omega

theorem flat_len {α γ : Type} (f : α → List γ) (c : Nat) : ∀ l : List α, (∀ x ∈ l, (f x).length ≤ c) → (l.flatMap f).length ≤ l.length * c
  | [], _ => by simp
  | x :: l, h => by
    have h1 := h x (by simp)
    have h2 := flat_len f c l (fun y hy => h y (by simp [hy]))
    simp only [List.flatMap_cons, List.length_append, List.length_cons, Nat.succ_mul]
    omega

theorem cons_len {r : Rec} (hv : valid r = true) : (consL r).length ≤ 4000 := by
  have hb := valid_bd hv
  have h1 := flat_len (evD r) 2 (List.range (nE r)) (fun i _ => by simp [evD])
  have h2 : ∀ i ∈ List.range (nE r), (pairsI r (nE r) i).length ≤ 80 := fun i _ => by
    have h3 := flat_len (pairIf r i) 2 ((List.range (nE r)).filter fun j => decide (i < j)) (fun j _ => by
      unfold pairIf pairD
      split
      · split <;> simp
      · simp)
    have h4 := List.length_filter_le (fun j => decide (i < j)) (List.range (nE r))
    rw [List.length_range] at h4
    unfold pairsI nE at *
    omega
  have h3 := flat_len (pairsI r (nE r)) 80 _ h2
  unfold consL
  rw [List.length_append, List.length_append, List.length_map]
  rw [List.length_range] at h1 h3
  unfold nE at *
  omega

/-- The ranges of the readings. -/
theorem whenAt_bd {r : Rec} {i : Nat} (h : (whenAt r i).2 = true) : 0 ≤ (whenAt r i).1.1 ∧ (whenAt r i).1.1 ≤ (whenAt r i).1.2 ∧ (whenAt r i).1.2 ≤ 8589934592 := by
  unfold whenAt Go.Lift.when? at h ⊢
  cases hc : (valid r && (inN (evAt r i).1 0 ((r.1.length : Int) - 1) && inN (evAt r i).2.1 0 8589934592)) with
  | false => rw [hc] at h; cases h
  | true =>
    rw [hc] at h
    simp only [cond_true, Bool.not_eq_true', decide_eq_false_iff_not] at h ⊢
    rw [whenR_eq] at h ⊢
    have := @foldl_meet_bd (froms r.1 (evAt r i).1 (evAt r i).2.1 r.2.1) (0, 8589934592)
    simp only at this
    omega

theorem whensOk_iff {r : Rec} : whensOk r = true ↔ ∀ i, i < nE r → (whenAt r i).2 = true := by
  unfold whensOk
  rw [List.all_eq_true]
  simp only [List.mem_range]

theorem consL_ok {r : Rec} (hv : valid r = true) (hw : whensOk r = true) : (consL r).all (diffOk (nE r + 1)) = true := by
  rw [List.all_eq_true]
  intro d hd
  have hp := valid_parts hv
  unfold diffOk
  apply decide_eq_true
  rcases mem_cons.1 hd with ⟨i, hi, hd⟩ | ⟨i, j, hij, hj, hh, hd⟩ | ⟨l, hl, rfl⟩
  · have := whenAt_bd (whensOk_iff.1 hw i hi)
    simp only [evD, List.mem_cons, List.not_mem_nil, or_false] at hd
    rcases hd with rfl | rfl <;> simp only <;> omega
  · unfold pairD at hd
    split at hd <;> simp only [List.mem_cons, List.not_mem_nil, or_false] at hd
    · have := @elapsed_bd (driftAt r (evAt r j).1) ((evAt r i).2.1 - (evAt r j).2.1)
      rcases hd with rfl | rfl <;> simp only <;> omega
    · have := @elapsed_bd (driftAt r (evAt r i).1) ((evAt r j).2.1 - (evAt r i).2.1)
      rcases hd with rfl | rfl <;> simp only <;> omega
  · have := hp.2.2.2 l hl
    simp only [linkD]
    omega

theorem consL_valid {r : Rec} (hv : valid r = true) (hw : whensOk r = true) : validD (nE r + 1) (consL r) = true := by
  unfold validD
  rw [decide_eq_true (cons_len hv), consL_ok hv hw]
  rfl

/-- Every variable is bound both ways. -/
theorem cons_conn {r : Rec} (hv : valid r = true) (hw : whensOk r = true) : Conn (nE r + 1) (consL r) := by
  have hn : nE r ≤ 40 := (valid_bd hv).2.2.1
  refine ⟨by omega, by omega, consL_valid hv hw, fun i h1 h2 => ?_, fun i h1 h2 => ?_⟩
  · refine ⟨(0, (((i - 1 : Nat) : Int) + 1, (whenAt r (i - 1)).1.2)), mem_cons.2 (.inl ⟨i - 1, by omega, by simp [evD]⟩), rfl, ?_⟩
    simp only
    omega
  · refine ⟨(((i - 1 : Nat) : Int) + 1, (0, -(whenAt r (i - 1)).1.1)), mem_cons.2 (.inl ⟨i - 1, by omega, by simp [evD]⟩), ?_, rfl, ?_⟩
    · simp only
      omega
    · have := whenAt_bd (whensOk_iff.1 hw (i - 1) (by omega))
      simp only
      omega

/-- The matrix of a record. -/
def closedW (r : Rec) : Option Mat := match consW r with | some l => closeW (nE r + 1) l | none => none

theorem CloseOk.le_iff {n : Nat} {l : List Diff} {m : Mat} (h : CloseOk n l m) {i j : Nat} (hi : i < n) (hj : j < n) (c : Int) : at2 m i j ≤ c ↔ ∀ x, Sol l x → x j - x i ≤ c := by
  constructor
  · intro hc x s
    exact Int.le_trans (h.sol x s i j hi hj) hc
  · intro hx
    have := hx _ (h.row i hi)
    have := h.zero i hi
    omega

/-- What is known of a record that has a matrix. -/
structure ClosedR (r : Rec) (m : Mat) : Prop where
  valid : valid r = true
  whens : whensOk r = true
  eq : closedW r = some m
  ok : CloseOk (nE r + 1) (consL r) m

theorem closed_some' {r : Rec} (hv : Go.Lift.valid r = true) (hw : whensOk r = true) {x : Nat → Int} (s : SolR r x) : ∃ m, ClosedR r m := by
  obtain ⟨m, e, h⟩ := close_some (cons_conn hv hw) ((sol_cons hv x).2 s)
  refine ⟨m, hv, hw, ?_, h⟩
  unfold closedW consW
  rw [hv, hw]
  exact e

theorem closed_some {r : Rec} (hv : Go.Lift.valid r = true) (hw : whensOk r = true) (hn : nE r ≤ 7) {x : Nat → Int} (s : SolR r x) : ∃ m, ClosedR r m := closed_some' hv hw s

theorem closed_ok' {r : Rec} {m : Mat} (e : closedW r = some m) : ClosedR r m := by
  unfold closedW consW at e
  by_cases h : (Go.Lift.valid r && whensOk r) = true
  · have e0 := e
    rw [if_pos h] at e
    rw [Bool.and_eq_true] at h
    refine ⟨h.1, h.2, ?_, close_ok (cons_conn h.1 h.2) e⟩
    unfold closedW consW
    exact e0
  · rw [if_neg h] at e
    cases e

theorem closed_ok {r : Rec} (hn : nE r ≤ 7) {m : Mat} (e : closedW r = some m) : ClosedR r m := closed_ok' e

theorem ClosedR.le_iff {r : Rec} {m : Mat} (h : ClosedR r m) {i j : Nat} (hi : i < nE r + 1) (hj : j < nE r + 1) (c : Int) : at2 m i j ≤ c ↔ ∀ x, SolR r x → x j - x i ≤ c := by
  rw [h.ok.le_iff hi hj]
  exact ⟨fun g x s => g x ((sol_cons h.valid x).2 s), fun g x s => g x ((sol_cons h.valid x).1 s)⟩

theorem ClosedR.row {r : Rec} {m : Mat} (h : ClosedR r m) {i : Nat} (hi : i < nE r + 1) : SolR r (fun j => at2 m i j) := (sol_cons h.valid _).1 (h.ok.row i hi)

theorem ClosedR.sol {r : Rec} {m : Mat} (h : ClosedR r m) {x : Nat → Int} (s : SolR r x) {i j : Nat} (hi : i < nE r + 1) (hj : j < nE r + 1) : x j - x i ≤ at2 m i j :=
  (h.le_iff hi hj _).1 (Int.le_refl _) x s

end
end Go.Lift

/- The functions of the package order in plain Lean. -/
namespace Go.Lift
open Go.RowKit Go.IntWalk
noncomputable section
set_option linter.unusedVariables false
set_option linter.unusedSimpArgs false
set_option maxRecDepth 10000

section
variable {β : Type}
theorem pair_p1_eq (k1 : zq7z β) (r : Rec) {i j : Nat} (hi : i ≤ 100) (hj : j ≤ 100) {a a2 b b2 : Int} (a3 b3 : List UInt8) (ha : 0 ≤ a ∧ a < r.1.length) (h2 : 0 ≤ a2 ∧ a2 ≤ 8589934592) (h3 : 0 ≤ b2 ∧ b2 ≤ 8589934592) :
    zq89 k1 (i : Int) (j : Int) r.1 r.2.1 r.2.2.1 r.2.2.2 a a2 a3 b b2 b3 = k1 [((i : Int) + 1, ((j : Int) + 1, (elapsed (driftAt r a) (b2 - a2)).2)), ((j : Int) + 1, ((i : Int) + 1, -(elapsed (driftAt r a) (b2 - a2)).1))] := by
  have e1 : IntKind.i64.wrap ((i : Int) + 1) = i + 1 := i64_in _ (by omega)
  have e2 : IntKind.i64.wrap ((j : Int) + 1) = j + 1 := i64_in _ (by omega)
  have e3 : IntKind.i64.wrap (b2 - a2) = b2 - a2 := i64_in _ (by omega)
  unfold zq89 zq84 zq83
  refine (c_inb ha).trans ?_
  simp only [e1, e2, e3]
  refine (clock_Elapsed_eq _ _ _).trans ?_
  have := @elapsed_bd (driftAt r a) (b2 - a2)
  have e4 : IntKind.i64.wrap (0 - (elapsed (driftAt r a) (b2 - a2)).1) = -(elapsed (driftAt r a) (b2 - a2)).1 := (i64_in _ (by omega)).trans (by omega)
  unfold driftAt at e4 ⊢
  rw [e4]

theorem order_pair_eq {r : Rec} (hv : valid r = true) {i j : Nat} (hi : i < nE r) (hj : j < nE r) (k : List Diff → Option β) : zq8b r (i : Int) (j : Int) k = k (pairD r i j) := by
  have hb := valid_bd hv
  have h1 := valid_ev hv hi
  have h2 := valid_ev hv hj
  unfold nE evAt at *
  unfold zq8b zq86
  refine (c_inb (by omega)).trans ?_
  refine (c_inb (by omega)).trans ?_
  unfold pairD evAt
  simp only [Int.toNat_natCast]
  by_cases hc : (r.2.2.1.getD j (0, 0, [])).2.1 < (r.2.2.1.getD i (0, 0, [])).2.1
  · refine (c_pos hc).trans ?_
    rw [if_pos hc]
    exact pair_p1_eq _ r (by omega) (by omega) _ _ (by omega) (by omega) (by omega)
  · refine (c_neg hc).trans ?_
    rw [if_neg hc]
    exact pair_p1_eq _ r (by omega) (by omega) _ _ (by omega) (by omega) (by omega)

theorem cons_p1 (k1 : zq9n β) (k2 : zq9o β) {r : Rec} (hv : valid r = true) :
    zqal k1 k2 r.2.2.1 (r.2.2.1.length : Int) 0 r.1 r.2.1 r.2.2.1 r.2.2.2 [] = cond (whensOk r) (k2 r.1 r.2.1 r.2.2.1 r.2.2.2 ((List.range (nE r)).flatMap (evD r))) (k1 false []) := by
  have hb := valid_bd hv
  have key := range_check (nE r) (fun i (s : List Diff) => s.length ≤ 2 * i) (fun f j s => zqaj f k1 k2 r.2.2.1 (r.2.2.1.length : Int) j r.1 r.2.1 r.2.2.1 r.2.2.2 s) (fun i => (whenAt r i).2)
    (fun s i => s ++ evD r i) (k1 false []) (fun s => k2 r.1 r.2.1 r.2.2.1 r.2.2.2 s) [] fuel (lt_fuel (by unfold nE; omega)) (by simp)
    (fun i s hi hs _ => by simp only [List.length_append, evD, List.length_cons, List.length_nil]; omega)
    (fun f i s hi hs => by
      unfold nE at hi
      have e1 : IntKind.i64.wrap ((i : Int) + 1) = i + 1 := i64_in _ (by omega)
      rw [zqak]
      unfold zqa4
      refine (c_pos (by omega)).trans ?_
      refine (c_inb (by omega)).trans ?_
      simp only [Int.toNat_natCast, e1]
      refine (clock_When_eq _ _ _ _).trans ?_
      have hw : when? (r.1, r.2.1, r.2.2.1, r.2.2.2) (r.2.2.1.getD i (0, 0, [])).1 (r.2.2.1.getD i (0, 0, [])).2.1 = whenAt r i := rfl
      rw [hw]
      cases hk : (whenAt r i).2 with
      | false => rfl
      | true =>
        have hbd := whenAt_bd hk
        have e2 : IntKind.i64.wrap (0 - (whenAt r i).1.1) = -(whenAt r i).1.1 := (i64_in _ (by omega)).trans (by omega)
        simp only [Bool.not_true, cond_false, cond_true, e2]
        refine (c_room (by simp only [List.length_cons, List.length_nil]; omega)).trans ?_
        rfl)
    (fun f s hs => by
      rw [zqak]
      unfold zqa4
      exact c_neg (by unfold nE; omega))
  unfold zqal
  rw [key, foldl_flat]
  rfl

theorem cons_p2 (k1 : zq9s β) {r : Rec} (hv : valid r = true) {i : Nat} (hi : i < nE r) (t52 : List Event) (t53 t54 : Int) (a2 : Int) (a3 : List UInt8) (out : List Diff) (ho : out.length ≤ 4000) :
    zqap k1 (i : Int) ((i : Int) + 1) t52 t53 t54 r.1 r.2.1 r.2.2.1 r.2.2.2 out (evAt r i).1 a2 a3 = k1 t52 t53 t54 r.1 r.2.1 r.2.2.1 r.2.2.2 (out ++ pairsI r (nE r) i) := by
  have hb := valid_bd hv
  have key : ∀ (c j f : Nat) (s : List Diff), j + c = nE r → i < j → c < f → s.length + 2 * c ≤ 100000 →
      zqan f k1 (i : Int) (j : Int) t52 t53 t54 r.1 r.2.1 r.2.2.1 r.2.2.2 s (evAt r i).1 a2 a3 = k1 t52 t53 t54 r.1 r.2.1 r.2.2.1 r.2.2.2 (s ++ (List.range' j c).flatMap (pairIf r i)) := by
    intro c
    induction c with
    | zero =>
      intro j f s hj hij hf hs
      obtain ⟨f, rfl⟩ : ∃ m, f = m + 1 := ⟨f - 1, by omega⟩
      rw [zqao]
      unfold zqa7
      unfold nE at hj
      refine (c_neg (by omega)).trans ?_
      simp
    | succ c ih =>
      intro j f s hj hij hf hs
      obtain ⟨f, rfl⟩ : ∃ m, f = m + 1 := ⟨f - 1, by omega⟩
      rw [zqao]
      unfold zqa7
      have hj' : j < nE r := by omega
      have hjn : (j : Int) < (r.2.2.1.length : Int) := by unfold nE at hj'; omega
      have e1 : IntKind.i64.wrap ((j : Int) + 1) = ((j + 1 : Nat) : Int) := i64_in _ (by unfold nE at hj'; omega)
      refine (c_pos hjn).trans ?_
      refine (c_inb (by omega)).trans ?_
      simp only [Int.toNat_natCast, e1]
      rw [List.range'_succ, List.flatMap_cons]
      have hpi : pairIf r i j = if (evAt r j).1 = (evAt r i).1 then pairD r i j else [] := rfl
      rw [hpi]
      by_cases hh : (evAt r j).1 = (evAt r i).1
      · refine (c_pos (p := (r.2.2.1.getD j ((0 : Int), ((0 : Int), ([] : List UInt8)))).1 = (evAt r i).1) hh).trans ?_
        rw [if_pos hh]
        refine (order_pair_eq hv hi hj' _).trans ?_
        have hp : (pairD r i j).length = 2 := by unfold pairD; split <;> rfl
        refine (c_room (by omega)).trans ?_
        refine (ih (j + 1) f _ (by omega) (by omega) (by omega) (by rw [List.length_append]; omega)).trans ?_
        rw [List.append_assoc]
      · refine (c_neg (p := (r.2.2.1.getD j ((0 : Int), ((0 : Int), ([] : List UInt8)))).1 = (evAt r i).1) hh).trans ?_
        rw [if_neg hh]
        refine (ih (j + 1) f _ (by omega) (by omega) (by omega) (by omega)).trans ?_
        rw [List.nil_append]
  unfold zqap
  have h1 := key (nE r - (i + 1)) (i + 1) fuel out (by omega) (by omega) (lt_fuel (by unfold nE at *; omega)) (by unfold nE at *; omega)
  rw [show ((i : Int) + 1) = ((i + 1 : Nat) : Int) by omega, h1]
  congr 1
  congr 1
  unfold pairsI
  have e : ∀ n, i < n → (List.range n).filter (fun j => decide (i < j)) = List.range' (i + 1) (n - (i + 1)) := by
    intro n
    induction n with
    | zero => intro h; omega
    | succ n ihn =>
      intro h
      rw [List.range_succ, List.filter_append]
      by_cases hin : i < n
      · rw [ihn hin]
        have : n + 1 - (i + 1) = (n - (i + 1)) + 1 := by omega
        rw [this, List.range'_concat]
        simp only [List.filter_cons, List.filter_nil, decide_eq_true hin, if_true]
        congr 2
        omega
      · have hin' : n = i := by omega
        subst hin'
        have : (List.range n).filter (fun j => decide (n < j)) = [] := by
          rw [List.filter_eq_nil_iff]
          intro a ha
          simp only [List.mem_range] at ha
          simp only [decide_eq_true_eq]
          omega
        rw [this]
        simp
  rw [e _ hi]

theorem cons_p3 (k1 : zq9w β) {r : Rec} (hv : valid r = true) (out : List Diff) (ho : out.length ≤ 80) :
    zqat k1 r.2.2.1 (r.2.2.1.length : Int) 0 r.1 r.2.1 r.2.2.1 r.2.2.2 out = k1 r.1 r.2.1 r.2.2.1 r.2.2.2 (out ++ (List.range (nE r)).flatMap (pairsI r (nE r))) := by
  have hb := valid_bd hv
  have h2 : ∀ i, (pairsI r (nE r) i).length ≤ 80 := fun i => by
    have h3 := flat_len (pairIf r i) 2 ((List.range (nE r)).filter fun j => decide (i < j)) (fun j _ => by
      unfold pairIf pairD
      split
      · split <;> simp
      · simp)
    have h4 := List.length_filter_le (fun j => decide (i < j)) (List.range (nE r))
    rw [List.length_range] at h4
    unfold pairsI nE at *
    omega
  have key := range_fold' (nE r) (fun i (s : List Diff) => s.length ≤ 80 + 80 * i) (fun f j s => zqar f k1 r.2.2.1 (r.2.2.1.length : Int) j r.1 r.2.1 r.2.2.1 r.2.2.2 s)
    (fun s i => s ++ pairsI r (nE r) i) (fun s => k1 r.1 r.2.1 r.2.2.1 r.2.2.2 s) out fuel (lt_fuel (by unfold nE; omega)) (by omega)
    (fun i s hi hs => by have := h2 i; rw [List.length_append]; omega)
    (fun f i s hi hs => by
      have hi' := hi
      unfold nE at hi'
      have e1 : IntKind.i64.wrap ((i : Int) + 1) = i + 1 := i64_in _ (by omega)
      rw [zqas]
      unfold zqaa
      refine (c_pos (by omega)).trans ?_
      refine (c_inb (by omega)).trans ?_
      simp only [Int.toNat_natCast, e1]
      refine (cons_p2 _ hv hi _ _ _ _ _ s (by omega)).trans ?_
      simp only [e1])
    (fun f s hs => by
      rw [zqas]
      unfold zqaa
      exact c_neg (by unfold nE; omega))
  unfold zqat
  rw [key, foldl_flat]

theorem cons_p4 (k1 : zqa0 β) (l : List Link) (hl : l.length ≤ 1000) (hok : ∀ x ∈ l, 0 ≤ x.1 ∧ x.1 ≤ 1000 ∧ 0 ≤ x.2.1 ∧ x.2.1 ≤ 1000 ∧ 0 ≤ x.2.2 ∧ x.2.2 ≤ 8589934592) (out : List Diff) (ho : out.length ≤ 10000) :
    zqax k1 l (l.length : Int) 0 out = k1 (out ++ l.map linkD) := by
  have key := fold_loopI (fun i (s : List Diff) => s.length ≤ 10000 + i) (fun f j s => zqav f k1 l (l.length : Int) j s)
    (fun s x => s ++ [linkD x]) (fun s => k1 s) ((0 : Int), ((0 : Int), (0 : Int))) l out fuel (lt_fuel (by omega)) (by omega)
    (fun i s hi hs => by simp only [List.length_append, List.length_cons, List.length_nil]; omega)
    (fun f i s hi hs => by
      have e1 : IntKind.i64.wrap ((i : Int) + 1) = i + 1 := i64_in _ (by omega)
      have hx := hok _ (getD_mem (d := ((0 : Int), ((0 : Int), (0 : Int)))) hi)
      rw [zqaw]
      unfold zqad
      refine (c_pos (by omega)).trans ?_
      refine (c_inb (by omega)).trans ?_
      simp only [Int.toNat_natCast, e1]
      generalize l.getD i ((0 : Int), ((0 : Int), (0 : Int))) = x at hx
      have e2 : IntKind.i64.wrap (x.2.1 + 1) = x.2.1 + 1 := i64_in _ (by omega)
      have e3 : IntKind.i64.wrap (x.1 + 1) = x.1 + 1 := i64_in _ (by omega)
      have e4 : IntKind.i64.wrap (0 - x.2.2) = -x.2.2 := (i64_in _ (by omega)).trans (by omega)
      simp only [e2, e3, e4]
      refine (c_room (by simp only [List.length_cons, List.length_nil]; omega)).trans ?_
      rfl)
    (fun f s hs => by
      rw [zqaw]
      unfold zqad
      exact c_neg (by omega))
  unfold zqax
  rw [key]
  have : ∀ (l : List Link) (s : List Diff), l.foldl (fun s x => s ++ [linkD x]) s = s ++ l.map linkD := by
    intro l
    induction l with
    | nil => intro s; simp
    | cons x l ih => intro s; simp only [List.foldl_cons, List.map_cons]; rw [ih, List.append_assoc]; rfl
  rw [this]

theorem Constraints_eq (r : Rec) (k : Bool → List Diff → Option β) : zqaz r k = (match consW r with | some l => k true l | none => k false []) := by
  unfold zqaz zqag
  refine (clock_Valid_eq _ _).trans ?_
  unfold consW
  cases hv : valid r with
  | false => rfl
  | true =>
    have hb := valid_bd hv
    have hp := valid_parts hv
    simp only [Bool.not_true, cond_false, Bool.true_and]
    refine (cons_p1 _ _ hv).trans ?_
    cases hw : whensOk r with
    | false => rfl
    | true =>
      simp only [cond_true, if_true]
      have h1 := flat_len (evD r) 2 (List.range (nE r)) (fun i _ => by simp [evD])
      rw [List.length_range] at h1
      have h2 := cons_len hv
      unfold consL at h2 ⊢
      rw [List.length_append, List.length_map] at h2
      refine (cons_p3 _ hv _ (by unfold nE at *; omega)).trans ?_
      exact cons_p4 _ _ (by omega) (fun x hx => by have := hp.2.2.2 x hx; unfold nE at *; omega) _ (by omega)

theorem closed_eq {r : Rec} (hE : nE r ≤ 100) (k : Mat → Bool → Option β) : zqdl r k = (match closedW r with | some m => k m true | none => k [] false) := by
  unfold zqdl zqdi
  refine (Constraints_eq _ _).trans ?_
  unfold closedW
  cases hc : consW r with
  | none => rfl
  | some l =>
    simp only [Bool.not_true, cond_false]
    have e1 : IntKind.i64.wrap ((r.2.2.1.length : Int) + 1) = ((nE r + 1 : Nat) : Int) := i64_in _ (by unfold nE at hE; omega)
    rw [e1]
    have hn : nE r ≤ 40 := by
      unfold consW at hc
      by_cases hh : (valid r && whensOk r) = true
      · rw [Bool.and_eq_true] at hh
        have := valid_bd hh.1
        unfold nE
        omega
      · rw [if_neg hh] at hc
        cases hc
    exact Close_eq (by omega) (by omega) l _

/-- One event is before another one for certain. -/
def bef (m : Mat) (a b : Nat) : Bool := decide (at2 m (b + 1) (a + 1) ≤ -1)
def cmpN (m : Mat) (a b : Nat) : Int := if bef m a b then -1 else if bef m b a then 1 else 0
def rangeN (m : Mat) (i : Nat) : Int × Int := (-at2 m (i + 1) 0, at2 m 0 (i + 1))
structure MatB (n : Nat) (m : Mat) : Prop where
  sq : Sq (n + 1) m
  small : n ≤ 100
  bd : ∀ i j, i < n + 1 → j < n + 1 → -9223372036854775807 ≤ at2 m i j ∧ at2 m i j ≤ 9223372036854775807

theorem before_eq {n : Nat} {m : Mat} (h : MatB n m) {a b : Nat} (ha : a < n) (hb : b < n) (k : Bool → Option β) : zq1f m (a : Int) (b : Int) k = k (bef m a b) := by
  have hs := h.small
  have e1 : IntKind.i64.wrap ((a : Int) + 1) = ((a + 1 : Nat) : Int) := i64_in _ (by omega)
  have e2 : IntKind.i64.wrap ((b : Int) + 1) = ((b + 1 : Nat) : Int) := i64_in _ (by omega)
  have l0 := h.sq.len
  have l1 := h.sq.row (b + 1) (by omega)
  unfold zq1f zq1c
  simp only [e1, e2, Int.toNat_natCast]
  refine (c_inb (by omega)).trans ?_
  refine (c_inb (by omega)).trans ?_
  rfl

theorem mwhen_eq {n : Nat} {m : Mat} (h : MatB n m) {i : Nat} (hi : i < n) (k : Int × Int → Option β) : zq18 m (i : Int) k = k (rangeN m i) := by
  have hs := h.small
  have e1 : IntKind.i64.wrap ((i : Int) + 1) = ((i + 1 : Nat) : Int) := i64_in _ (by omega)
  have l0 := h.sq.len
  have l1 := h.sq.row (i + 1) (by omega)
  have l2 := h.sq.row 0 (by omega)
  have hb := h.bd (i + 1) 0 (by omega) (by omega)
  have e2 : IntKind.i64.wrap (0 - at2 m (i + 1) 0) = -at2 m (i + 1) 0 := (i64_in _ (by omega)).trans (by omega)
  unfold zq18 zq15
  simp only [e1, Int.toNat_natCast, Int.toNat_zero]
  refine (c_inb (by omega)).trans ?_
  refine (c_inb (by omega)).trans ?_
  refine (c_inb (by omega)).trans ?_
  refine (c_inb (by omega)).trans ?_
  unfold at2 at e2
  rw [e2]
  rfl

theorem oin_eq (n lo hi : Int) (k : Bool → Option β) : zq1t n lo hi k = k (inN n lo hi) := by
  simp only [zq1t, zq1q, inN, c_kb]

theorem both_eq {r : Rec} (hE : nE r ≤ 100) (a b : Int) (k : Mat → Bool → Option β) : zqds r a b k = (match closedW r with | some m => k m (inN a 0 (nE r - 1) && inN b 0 (nE r - 1)) | none => k [] false) := by
  unfold zqds zqdp
  refine (closed_eq hE _).trans ?_
  cases closedW r with
  | none => rfl
  | some m =>
    have e1 : IntKind.i64.wrap ((r.2.2.1.length : Int) - 1) = (nE r : Int) - 1 := i64_in _ (by unfold nE at hE; omega)
    simp only [cond_true, e1]
    refine (oin_eq _ _ _ _).trans ?_
    cases inN a 0 (nE r - 1) with
    | false => rfl
    | true => exact oin_eq _ _ _ _

theorem Compare_eq {r : Rec} {m : Mat} (he : closedW r = some m) (h : MatB (nE r) m) {a b : Nat} (ha : a < nE r) (hb : b < nE r) (k : Int → Bool → Option β) : zqeh r (a : Int) (b : Int) k = k (cmpN m a b) true := by
  unfold zqeh zqee
  refine (both_eq h.small _ _ _).trans ?_
  rw [he]
  simp only []
  rw [inN_mk (by omega), inN_mk (by omega)]
  simp only [Bool.and_self, Bool.not_true, cond_false]
  refine (before_eq h ha hb _).trans ?_
  unfold cmpN
  cases bef m a b with
  | true => rfl
  | false =>
    simp only [cond_false]
    refine (before_eq h hb ha _).trans ?_
    cases bef m b a <;> rfl

def whensN (n : Nat) (m : Mat) : List (Int × Int) := (List.range n).map (rangeN m)

theorem When_eq {r : Rec} (hE : nE r ≤ 100) (hm : ∀ m, closedW r = some m → MatB (nE r) m) (k : Bool → List (Int × Int) → Option β) :
    zqea r k = (match closedW r with | some m => k true (whensN (nE r) m) | none => k false []) := by
  unfold zqea zqe3
  refine (closed_eq hE _).trans ?_
  cases he : closedW r with
  | none => rfl
  | some m =>
    have h := hm m he
    have hs := h.small
    simp only [Bool.not_true, cond_false]
    have key := range_fold' (nE r) (fun i (s : List (Int × Int)) => s.length ≤ i) (fun f j s => zqe6 f (fun out => k true out) m (r.2.2.1.length : Int) j s)
      (fun s i => s ++ [rangeN m i]) (fun s => k true s) [] fuel (lt_fuel (by omega)) (by simp)
      (fun i s hi hs => by simp only [List.length_append, List.length_cons, List.length_nil]; omega)
      (fun f i s hi hs => by
        have hi' := hi
        unfold nE at hi'
        have e1 : IntKind.i64.wrap ((i : Int) + 1) = i + 1 := i64_in _ (by omega)
        rw [zqe7]
        unfold zqe0
        refine (c_pos (by omega)).trans ?_
        refine (mwhen_eq h hi _).trans ?_
        simp only [e1]
        exact c_room (by simp only [List.length_cons, List.length_nil]; omega))
      (fun f s hs => by
        rw [zqe7]
        unfold zqe0
        exact c_neg (by unfold nE; omega))
    unfold zqe8
    rw [key]
    have : ∀ (l : List Nat) (s : List (Int × Int)), l.foldl (fun s i => s ++ [rangeN m i]) s = s ++ l.map (rangeN m) := by
      intro l
      induction l with
      | nil => intro s; simp
      | cons x l ih => intro s; simp only [List.foldl_cons, List.map_cons]; rw [ih, List.append_assoc]; rfl
    rw [this]
    rfl
end
end
end Go.Lift

/- Records of the dice and their order; the example of the chapter. -/
namespace Go.Lift
open Go.RowKit Go.IntWalk
noncomputable section
set_option linter.unusedVariables false
set_option linter.unusedSimpArgs false
set_option maxRecDepth 10000

/-- A loop that only looks and always goes on. -/
theorem pass_loop {β : Type} (n : Nat) (F : Nat → Int → Option β) (K : Option β) (N : Nat) (hn : n < N)
    (h1 : ∀ (m i : Nat), i < n → F (m + 1) (i : Int) = F m ((i : Int) + 1))
    (h2 : ∀ (m : Nat), F (m + 1) (n : Int) = K) : F N 0 = K :=
  range_fold' (σ := Unit) n (fun _ _ => True) (fun m i _ => F m i) (fun s _ => s) (fun _ => K) () N hn trivial (fun _ _ _ _ => trivial) (fun m i _ hi _ => h1 m i hi) (fun m _ _ => h2 m)

theorem ClosedR.matB {r : Rec} {m : Mat} (h : ClosedR r m) (hn : nE r ≤ 7) : MatB (nE r) m :=
  ⟨h.ok.sq, by omega, fun i j hi hj => by have := h.ok.lo i j hi hj; have := h.ok.hi i j hi hj; omega⟩

/-- The true times as a solution. -/
def xOf (times : List Int) (j : Nat) : Int := if j = 0 then 0 else times.getD (j - 1) 0
theorem xOf_zero (times : List Int) : xOf times 0 = 0 := rfl
theorem xOf_succ (times : List Int) (j : Nat) : xOf times (j + 1) = times.getD j 0 := by unfold xOf; rw [if_neg (by omega)]; rfl

section
variable {n : Int} {r : Rec} {ahead times : List Int}
theorem RecOk.nE_le (h : RecOk n r ahead times) : (nE r : Int) ≤ n := h.fewE
theorem RecOk.evOk (h : RecOk n r ahead times) {i : Nat} (hi : i < nE r) : EventOk r.1.length ahead (evAt r i) (times.getD i 0) := h.events i hi

theorem RecOk.whenAt (h : RecOk n r ahead times) (hn : n ≤ 40) {i : Nat} (hi : i < nE r) : (whenAt r i).2 = true ∧ (whenAt r i).1.1 ≤ times.getD i 0 ∧ times.getD i 0 ≤ (whenAt r i).1.2 := by
  obtain ⟨a1, a2, a3, a4, a5⟩ := h.evOk hi
  have hb := ahead_bd h.hosts (evAt r i).1.toNat
  have e := h.when? hn (host := (evAt r i).1) (c := (evAt r i).2.1) ⟨a1, a2⟩ (by omega)
  have t := h.when_true (host := (evAt r i).1) (c := (evAt r i).2.1) ⟨a1, a2⟩ (by omega)
  unfold Go.Lift.whenAt
  rw [e]
  refine ⟨rfl, ?_, ?_⟩ <;> simp only <;> omega

theorem RecOk.whens (h : RecOk n r ahead times) (hn : n ≤ 40) : whensOk r = true := whensOk_iff.2 fun i hi => (h.whenAt hn hi).1

theorem RecOk.solR (h : RecOk n r ahead times) (hn : n ≤ 40) : SolR r (xOf times) := by
  refine ⟨fun i hi => ?_, fun i j hi hj hij hh hc => ?_, fun l hl => ?_⟩
  · have := h.whenAt hn hi
    rw [xOf_succ, xOf_zero]
    omega
  · obtain ⟨a1, a2, a3, a4, a5⟩ := h.evOk hi
    obtain ⟨b1, b2, b3, b4, b5⟩ := h.evOk hj
    rw [xOf_succ, xOf_succ]
    rw [← hh] at b5
    have hd : 0 ≤ driftAt r (evAt r i).1 ∧ driftAt r (evAt r i).1 ≤ 500000 := h.drift_ok _
    have := elapsed_le hd (d := (evAt r j).2.1 - (evAt r i).2.1) (by omega)
    omega
  · have := h.links l hl
    unfold LinkOk at this
    rw [xOf_succ, xOf_succ]
    omega

theorem RecOk.closed (h : RecOk n r ahead times) (hn : n ≤ 7) : ∃ m, ClosedR r m := by
  have := h.nE_le
  exact closed_some (h.valid (by omega)) (h.whens (by omega)) (by omega) (h.solR (by omega))
end

section
variable {β : Type}
theorem c_nt {a b : Option β} : cond (!true) a b = b := rfl
theorem When_some {r : Rec} {m : Mat} (he : closedW r = some m) (h : MatB (nE r) m) (k : Bool → List (Int × Int) → Option β) : zqea r k = k true (whensN (nE r) m) := by
  refine (When_eq h.small (fun m' he' => ?_) _).trans ?_
  · rw [he] at he'
    cases he'
    exact h
  · rw [he]

end

section
variable {β : Type}
theorem sane40_eq (k : Bool → Option β) : zqfh k = k true := by
  kernel_rfl
end
end
end Go.Lift

/- What is certain, and what the true times are. -/
namespace Go.Lift
open Go.RowKit Go.IntWalk
noncomputable section
set_option linter.unusedVariables false
set_option linter.unusedSimpArgs false
set_option maxRecDepth 10000

section
variable {β : Type} {n : Int} {r : Rec} {ahead times : List Int}

theorem ClosedR.bef {r : Rec} {m : Mat} (hm : ClosedR r m) {a b : Nat} (ha : a < nE r) (hb : b < nE r) : bef m a b = true ↔ ∀ x, SolR r x → x (a + 1) < x (b + 1) := by
  unfold Go.Lift.bef
  rw [decide_eq_true_iff, hm.le_iff (i := b + 1) (j := a + 1) (by omega) (by omega)]
  constructor
  · intro h x s
    have := h x s
    omega
  · intro h x s
    have := h x s
    omega

theorem whensN_getD {n : Nat} {m : Mat} {i : Nat} (hi : i < n) : (whensN n m).getD i ((0 : Int), (0 : Int)) = rangeN m i := by
  unfold whensN
  simp [List.getD, hi]

theorem ClosedR.range {r : Rec} {m : Mat} (hm : ClosedR r m) {x : Nat → Int} (s : SolR r x) (h0 : x 0 = 0) {i : Nat} (hi : i < nE r) : (rangeN m i).1 ≤ x (i + 1) ∧ x (i + 1) ≤ (rangeN m i).2 := by
  have h1 := hm.sol s (i := i + 1) (j := 0) (by omega) (by omega)
  have h2 := hm.sol s (i := 0) (j := i + 1) (by omega) (by omega)
  unfold rangeN
  simp only
  omega

/-- Readings of one clock that are two seconds apart. -/
theorem ClosedR.far {m : Mat} (hm : ClosedR r m) {i k : Nat} (hi : i < nE r) (hk : k < nE r) (hh : (evAt r i).1 = (evAt r k).1) (hc : (evAt r i).2.1 + 2 ≤ (evAt r k).2.1) : Go.Lift.bef m i k = true := by
  rw [hm.bef hi hk]
  intro x s
  have h1 := (s.pair i k hi hk (by intro h; subst h; omega) hh (by omega)).1
  have e1 := valid_ev hm.valid hi
  have e2 := valid_ev hm.valid hk
  have hd : 0 ≤ driftAt r (evAt r i).1 ∧ driftAt r (evAt r i).1 ≤ 500000 := by
    have := (valid_parts hm.valid).1 _ (getD_mem (l := r.1) (i := (evAt r i).1.toNat) (d := ([], 0)) (by omega))
    exact this
  have h2 : 1 ≤ (elapsed (driftAt r (evAt r i).1) ((evAt r k).2.1 - (evAt r i).2.1)).1 := by
    unfold elapsed
    rw [inN_mk hd, inN_mk (by omega)]
    simp only [Bool.and_self, cond_true]
    rw [Int.le_ediv_iff_mul_le (by omega)]
    omega
  omega

end
end
end Go.Lift

/- Records that are changed in their links. -/
namespace Go.Lift
open Go.RowKit Go.IntWalk
noncomputable section
set_option linter.unusedVariables false
set_option linter.unusedSimpArgs false
set_option maxRecDepth 10000

theorem valid_mk {r : Rec} (h0 : r.1.length ≤ 8) (h1 : r.2.1.length ≤ 64) (h2 : r.2.2.1.length ≤ 40) (h3 : r.2.2.2.length ≤ 64) (h4 : ∀ h ∈ r.1, 0 ≤ h.2 ∧ h.2 ≤ 500000)
    (h5 : ∀ s ∈ r.2.1, 0 ≤ s.1 ∧ s.1 < r.1.length ∧ okSync s = true) (h6 : ∀ e ∈ r.2.2.1, 0 ≤ e.1 ∧ e.1 < r.1.length ∧ 0 ≤ e.2.1 ∧ e.2.1 ≤ 8589934592)
    (h7 : ∀ l ∈ r.2.2.2, 0 ≤ l.1 ∧ l.1 < nE r ∧ 0 ≤ l.2.1 ∧ l.2.1 < nE r ∧ l.1 ≠ l.2.1 ∧ 0 ≤ l.2.2 ∧ l.2.2 ≤ 8589934592) : valid r = true := by
  unfold valid small
  simp only [Bool.and_eq_true, List.all_eq_true, Bool.not_eq_true', decide_eq_false_iff_not]
  refine ⟨⟨by omega, by omega, by omega, by omega⟩, fun x hx => inN_mk (h4 x hx), fun x hx => ?_, fun x hx => ?_, fun x hx => ?_⟩
  · have := h5 x hx
    simp only [vSync, Bool.and_eq_true, inN_iff]
    exact ⟨by omega, this.2.2⟩
  · have := h6 x hx
    simp only [vEvent, Bool.and_eq_true, inN_iff]
    omega
  · have := h7 x hx
    unfold nE at this
    simp only [vLink, Bool.and_eq_true, inN_iff, Bool.not_eq_true', decide_eq_false_iff_not]
    omega

end
end Go.Lift

/- Loops with an invariant; any comparison of any record. -/
namespace Go.Lift
open Go.RowKit Go.IntWalk
noncomputable section
set_option linter.unusedVariables false
set_option linter.unusedSimpArgs false
set_option maxRecDepth 10000

theorem whenAt_eq {r : Rec} (hv : valid r = true) {i : Nat} (hi : i < nE r) : whenAt r i = (whenR r (evAt r i).1 (evAt r i).2.1, !decide ((whenR r (evAt r i).1 (evAt r i).2.1).2 < (whenR r (evAt r i).1 (evAt r i).2.1).1)) := by
  have := valid_ev hv hi
  unfold whenAt Go.Lift.when?
  rw [hv, inN_mk (by omega), inN_mk (by omega)]
  rfl

/-- A loop that keeps an invariant. -/
theorem range_ex {β σ : Type} (n : Nat) (I : Nat → σ → Prop) (F : Nat → Int → σ → Option β) (K : σ → Option β) (s : σ) (N : Nat) (hn : n < N) (h0 : I 0 s)
    (h1 : ∀ (i : Nat) s, i < n → I i s → ∃ s', I (i + 1) s' ∧ ∀ m, F (m + 1) (i : Int) s = F m ((i : Int) + 1) s')
    (h2 : ∀ (m : Nat) s, I n s → F (m + 1) (n : Int) s = K s) : ∃ s', I n s' ∧ F N 0 s = K s' := by
  have key : ∀ (c i N : Nat) (s : σ), i + c = n → c < N → I i s → ∃ s', I n s' ∧ F N (i : Int) s = K s' := by
    intro c
    induction c with
    | zero =>
      intro i N s hi hN hs
      obtain ⟨N, rfl⟩ : ∃ m, N = m + 1 := ⟨N - 1, by omega⟩
      obtain rfl : i = n := by omega
      exact ⟨s, hs, h2 N s hs⟩
    | succ c ih =>
      intro i N s hi hN hs
      obtain ⟨N, rfl⟩ : ∃ m, N = m + 1 := ⟨N - 1, by omega⟩
      obtain ⟨s', hs', e⟩ := h1 i s (by omega) hs
      obtain ⟨s'', h3, h4⟩ := ih (i + 1) N s' (by omega) (by omega) hs'
      exact ⟨s'', h3, (e N).trans h4⟩
  exact key n 0 N s (by omega) hn h0

section
variable {β : Type}
theorem Compare_none {r : Rec} (he : closedW r = none) (hE : nE r ≤ 100) (a b : Int) (k : Int → Bool → Option β) : zqeh r a b k = k 0 false := by
  unfold zqeh zqee
  refine (both_eq hE _ _ _).trans ?_
  rw [he]
  rfl
theorem Compare_any (r : Rec) (hn : nE r ≤ 7) {a b : Nat} (ha : a < nE r) (hb : b < nE r) : ∃ v o, ∀ (k : Int → Bool → Option β), zqeh r (a : Int) (b : Int) k = k v o := by
  cases he : closedW r with
  | none => exact ⟨0, false, fun k => Compare_none he (by omega) _ _ k⟩
  | some m => exact ⟨_, true, fun k => Compare_eq he ((closed_ok hn he).matB hn) ha hb k⟩
theorem When_any (r : Rec) (hn : nE r ≤ 7) : ∃ o l, ∀ (k : Bool → List (Int × Int) → Option β), zqea r k = k o l := by
  cases he : closedW r with
  | none =>
    refine ⟨false, [], fun k => ?_⟩
    refine (When_eq (by omega) (fun m h => ?_) k).trans ?_
    · rw [he] at h
      cases h
    · rw [he]
  | some m => exact ⟨true, _, fun k => When_some he ((closed_ok hn he).matB hn) k⟩
end
end
end Go.Lift

/- OrderMoves in plain Lean. -/
namespace Go.Lift
open Go.RowKit Go.IntWalk
noncomputable section
set_option linter.unusedVariables false
set_option linter.unusedSimpArgs false
set_option maxRecDepth 10000

/-! ### A record whose events are numbered the other way round -/
def turnL (n : Nat) (l : Link) : Link := ((n : Int) - 1 - l.1, ((n : Int) - 1 - l.2.1, l.2.2))
def turnR (r : Rec) : Rec := (r.1, r.2.1, r.2.2.1.reverse, r.2.2.2.map (turnL (nE r)))
def sig (n j : Nat) : Nat := if j = 0 then 0 else n + 1 - j

theorem nE_turn (r : Rec) : nE (turnR r) = nE r := by unfold nE turnR; simp
theorem turn_turn (r : Rec) : turnR (turnR r) = r := by
  have h := nE_turn r
  obtain ⟨a, b, c, d⟩ := r
  unfold turnR at h ⊢
  simp only [List.reverse_reverse, List.map_map, h]
  congr 1
  congr 1
  congr 1
  have : (turnL (nE (a, b, c, d)) ∘ turnL (nE (a, b, c, d))) = id := by
    funext l
    obtain ⟨x, y, z⟩ := l
    simp only [Function.comp, turnL, id]
    congr 1
    · omega
    · congr 1
      omega
  rw [this, List.map_id]
theorem evAt_turn {r : Rec} {i : Nat} (hi : i < nE r) : evAt (turnR r) i = evAt r (nE r - 1 - i) := by
  unfold evAt turnR nE at *
  simp only [List.getD]
  rw [List.getElem?_reverse hi]

theorem valid_turn {r : Rec} (hv : valid r = true) : valid (turnR r) = true := by
  have hb := valid_bd hv
  have hp := valid_parts hv
  refine valid_mk hb.1 hb.2.1 (by unfold turnR; simp; exact hb.2.2.1) (by unfold turnR; simp; exact hb.2.2.2) hp.1 hp.2.1 (fun e he => hp.2.2.1 e (by unfold turnR at he; simpa using he)) (fun l hl => ?_)
  rw [nE_turn]
  unfold turnR at hl
  simp only [List.mem_map] at hl
  obtain ⟨y, hy, rfl⟩ := hl
  have := hp.2.2.2 y hy
  unfold turnL
  simp only
  omega

theorem whenAt_turn {r : Rec} (hv : valid r = true) {i : Nat} (hi : i < nE r) : whenAt (turnR r) i = whenAt r (nE r - 1 - i) := by
  unfold whenAt Go.Lift.when?
  rw [evAt_turn hi, hv, valid_turn hv]
  rfl

theorem whens_turn {r : Rec} (hv : valid r = true) (hw : whensOk r = true) : whensOk (turnR r) = true := by
  rw [whensOk_iff] at hw ⊢
  intro i hi
  rw [nE_turn] at hi
  rw [whenAt_turn hv hi]
  exact hw _ (by omega)

theorem sol_turn {r : Rec} (hv : valid r = true) {x : Nat → Int} (s : SolR (turnR r) x) : SolR r (fun j => x (sig (nE r) j)) := by
  have e : ∀ i, i < nE r → sig (nE r) (i + 1) = (nE r - 1 - i) + 1 := fun i hi => by unfold sig; rw [if_neg (by omega)]; omega
  refine ⟨fun i hi => ?_, fun i j hi hj hij hh hc => ?_, fun l hl => ?_⟩
  · have h := s.ev (nE r - 1 - i) (by rw [nE_turn]; omega)
    rw [whenAt_turn hv (by omega), show nE r - 1 - (nE r - 1 - i) = i by omega] at h
    simp only [e i hi]
    exact h
  · have h := s.pair (nE r - 1 - i) (nE r - 1 - j) (by rw [nE_turn]; omega) (by rw [nE_turn]; omega) (by omega)
    rw [evAt_turn (by omega), evAt_turn (by omega), show nE r - 1 - (nE r - 1 - i) = i by omega, show nE r - 1 - (nE r - 1 - j) = j by omega] at h
    simp only [e i hi, e j hj]
    exact h hh hc
  · have h := s.link (turnL (nE r) l) (by unfold turnR; exact List.mem_map_of_mem hl)
    have hb := (valid_parts hv).2.2.2 l hl
    unfold turnL at h
    rw [show ((nE r : Int) - 1 - l.2.1).toNat = nE r - 1 - l.2.1.toNat by omega, show ((nE r : Int) - 1 - l.1).toNat = nE r - 1 - l.1.toNat by omega] at h
    show l.2.2 ≤ x (sig (nE r) (l.2.1.toNat + 1)) - x (sig (nE r) (l.1.toNat + 1))
    rw [e _ (by omega), e _ (by omega)]
    exact h

theorem sol_turn' {r : Rec} (hv : valid r = true) {x : Nat → Int} (s : SolR r x) : SolR (turnR r) (fun j => x (sig (nE r) j)) := by
  have h := sol_turn (r := turnR r) (valid_turn hv) (x := x) (by rw [turn_turn]; exact s)
  rw [nE_turn] at h
  exact h

theorem sig_sig {n j : Nat} (h : j ≤ n) : sig n (sig n j) = j := by
  unfold sig
  by_cases h0 : j = 0
  · rw [if_pos h0, if_pos rfl]
    exact h0.symm
  · rw [if_neg h0, if_neg (by omega)]
    omega
theorem sig_le {n j : Nat} : sig n j ≤ n := by
  unfold sig
  split <;> omega

theorem ClosedR.turn {r : Rec} {m : Mat} (hm : ClosedR r m) (hn : nE r ≤ 7) : ∃ mt, ClosedR (turnR r) mt ∧ ∀ i j, i ≤ nE r → j ≤ nE r → at2 mt (sig (nE r) i) (sig (nE r) j) = at2 m i j := by
  obtain ⟨mt, ht⟩ := closed_some (valid_turn hm.valid) (whens_turn hm.valid hm.whens) (by rw [nE_turn]; exact hn) (sol_turn' hm.valid (hm.row (i := 0) (by omega)))
  refine ⟨mt, ht, fun i j hi hj => Int.le_antisymm ?_ ?_⟩
  · have hi' := @sig_le (nE r) i
    have hj' := @sig_le (nE r) j
    rw [ht.le_iff (by rw [nE_turn]; omega) (by rw [nE_turn]; omega)]
    intro x s
    exact hm.sol (sol_turn hm.valid s) (i := i) (j := j) (by omega) (by omega)
  · have hi' := @sig_le (nE r) i
    have hj' := @sig_le (nE r) j
    rw [hm.le_iff (by omega) (by omega)]
    intro x s
    have h := ht.sol (sol_turn' hm.valid s) (i := sig (nE r) i) (j := sig (nE r) j) (by rw [nE_turn]; omega) (by rw [nE_turn]; omega)
    simp only [sig_sig hi, sig_sig hj] at h
    exact h

/-! ### A record whose comparisons are moved -/
abbrev shiftA (d : Int) (s : Sync) : Sync := (s.1, s.2.1, s.2.2.1 + d, s.2.2.2 + d)
def movedR (d : Int) (r : Rec) : Rec := (r.1, r.2.1.map (shiftA d), r.2.2.1, r.2.2.2)

theorem fromS_shiftA {h : Host} {s : Sync} {c d : Int} (h1 : 0 ≤ h.2 ∧ h.2 ≤ 500000) (h2 : okSync s = true) (hd : 0 ≤ d ∧ s.2.2.2 + d ≤ 8589934592) (h3 : 0 ≤ c ∧ c ≤ 8589934592) : okSync (shiftA d s) = true ∧ fromS h (shiftA d s) c = ((fromS h s c).1 + d, (fromS h s c).2 + d) := by
  have h4 : okSync (shiftA d s) = true := by
    simp [okSync, shiftA, inN] at h2 ⊢
    omega
  refine ⟨h4, ?_⟩
  rw [fromS_eq h1 h2 h3, fromS_eq h1 h4 h3]
  simp only [shiftA]
  by_cases hc : s.2.1 ≤ c
  · rw [if_pos hc, if_pos hc]
    simp only [Prod.mk.injEq]
    omega
  · rw [if_neg hc, if_neg hc]
    simp only [Prod.mk.injEq]
    omega

theorem elapsed_two {drift d : Int} (h1 : 0 ≤ drift ∧ drift ≤ 500000) (h2 : 0 ≤ d ∧ d ≤ 8589934592) : (elapsed drift d).2 ≤ 2 * d + 1 := by
  unfold elapsed
  rw [inN_mk h1, inN_mk h2]
  simp only [Bool.and_self, cond_true]
  apply Int.le_of_lt_add_one
  rw [Int.ediv_lt_iff_lt_mul (by omega)]
  have : d * 1000000 ≤ d * (2 * (1000000 - drift)) := Int.mul_le_mul_of_nonneg_left (by omega) h2.1
  have e : d * (2 * (1000000 - drift)) = 2 * d * (1000000 - drift) := by rw [← Int.mul_assoc, Int.mul_comm d 2]
  have e2 : (2 * d + 1 + 1) * (1000000 - drift) = 2 * d * (1000000 - drift) + 2 * (1000000 - drift) := by rw [Int.add_assoc, Int.add_mul]; rfl
  omega

theorem fold_start : ∀ (l : List (Int × Int)) (o : Int × Int), l ≠ [] → (∀ f ∈ l, o.1 ≤ f.1 ∧ f.2 ≤ o.2) → ∃ f l', l = f :: l' ∧ l.foldl meet2 o = l'.foldl meet2 f
  | [], o, h, _ => absurd rfl h
  | f :: l, o, _, h => by
    refine ⟨f, l, rfl, ?_⟩
    have := h f (by simp)
    rw [List.foldl_cons]
    congr 1
    rw [meet2_eq]
    have e1 : max o.1 f.1 = f.1 := by omega
    have e2 : min o.2 f.2 = f.2 := by omega
    rw [e1, e2]

section
variable {n : Int} {r : Rec} {ahead times : List Int}

theorem RecOk.froms_bd (h : RecOk n r ahead times) {i : Nat} (hi : i < nE r) : ∀ f ∈ froms r.1 (evAt r i).1 (evAt r i).2.1 r.2.1, 0 ≤ f.1 ∧ f.2 ≤ 1000000 := by
  intro f hf
  simp only [froms, List.mem_map, List.mem_filter, decide_eq_true_eq] at hf
  obtain ⟨s, ⟨hs, he⟩, rfl⟩ := hf
  obtain ⟨b1, b2, b3, b4, b5⟩ := h.sync_ok hs
  obtain ⟨a1, a2, a3, a4, a5⟩ := h.evOk hi
  have ab := ahead_bd h.hosts (evAt r i).1.toNat
  have hd := h.drift_ok (evAt r i).1.toNat
  have b6 := b1
  simp only [okSync, Bool.and_eq_true, inN_iff, decide_eq_true_eq] at b6
  rw [fromS_eq hd b1 (by omega)]
  split
  · have e1 := elapsed_two hd (d := (evAt r i).2.1 - s.2.1) (by omega)
    have e2 := @elapsed_bd (r.1.getD (evAt r i).1.toNat ([], 0)).2 ((evAt r i).2.1 - s.2.1)
    simp only
    omega
  · have e1 := elapsed_two hd (d := s.2.1 - (evAt r i).2.1) (by omega)
    have e2 := @elapsed_bd (r.1.getD (evAt r i).1.toNat ([], 0)).2 (s.2.1 - (evAt r i).2.1)
    simp only
    omega

theorem RecOk.moved_valid (h : RecOk n r ahead times) (hn : n ≤ 40) {d : Int} (hd : 0 ≤ d ∧ d ≤ 65535) : Go.Lift.valid (movedR d r) = true := by
  have hv := h.valid hn
  have hb := valid_bd hv
  have hp := valid_parts hv
  refine valid_mk hb.1 (by unfold movedR; simp; exact hb.2.1) hb.2.2.1 hb.2.2.2 hp.1 (fun s hs => ?_) hp.2.2.1 hp.2.2.2
  unfold movedR at hs
  simp only [List.mem_map] at hs
  obtain ⟨y, hy, rfl⟩ := hs
  have h1 := hp.2.1 y hy
  obtain ⟨b1, b2, b3, b4, b5⟩ := h.sync_ok hy
  exact ⟨h1.1, h1.2.1, (fromS_shiftA (h := ([], 0)) (c := 0) (by simp) b1 (by omega) (by omega)).1⟩

theorem RecOk.moved_when (h : RecOk n r ahead times) (hn : n ≤ 40) {d : Int} (hd : 0 ≤ d ∧ d ≤ 65535) {i : Nat} (hi : i < nE r) (hs : ∃ s ∈ r.2.1, s.1 = (evAt r i).1) :
    (Go.Lift.whenAt (movedR d r) i).2 = true ∧ (Go.Lift.whenAt (movedR d r) i).1 = ((Go.Lift.whenAt r i).1.1 + d, (Go.Lift.whenAt r i).1.2 + d) := by
  have hv := h.valid hn
  have hv' := h.moved_valid hn hd
  have hw := (h.whenAt hn hi)
  have hbd := h.froms_bd hi
  have e : evAt (movedR d r) i = evAt r i := rfl
  have hf : froms (movedR d r).1 (evAt r i).1 (evAt r i).2.1 (movedR d r).2.1 = (froms r.1 (evAt r i).1 (evAt r i).2.1 r.2.1).map fun f => (f.1 + d, f.2 + d) := by
    unfold froms movedR
    simp only [List.filter_map, List.map_map]
    have : ((fun s : Sync => decide (s.1 = (evAt r i).1)) ∘ shiftA d) = fun s => decide (s.1 = (evAt r i).1) := rfl
    rw [this]
    apply List.map_congr_left
    intro s hs
    simp only [List.mem_filter, decide_eq_true_eq] at hs
    obtain ⟨b1, b2, b3, b4, b5⟩ := h.sync_ok hs.1
    obtain ⟨a1, a2, a3, a4, a5⟩ := h.evOk hi
    have ab := ahead_bd h.hosts (evAt r i).1.toNat
    exact (fromS_shiftA (h.drift_ok _) b1 (by omega) (by omega)).2
  have hne : froms r.1 (evAt r i).1 (evAt r i).2.1 r.2.1 ≠ [] := by
    obtain ⟨s, hs1, hs2⟩ := hs
    intro h0
    unfold froms at h0
    rw [List.map_eq_nil_iff, List.filter_eq_nil_iff] at h0
    have := h0 s hs1
    simp only [decide_eq_true_eq] at this
    exact this hs2
  obtain ⟨f, l, e1, e2⟩ := fold_start _ (0, 8589934592) hne (fun f hf => by have := hbd f hf; simp only; omega)
  have hR : whenR r (evAt r i).1 (evAt r i).2.1 = l.foldl meet2 f := by rw [whenR_eq]; exact e2
  have hR' : whenR (movedR d r) (evAt r i).1 (evAt r i).2.1 = ((l.foldl meet2 f).1 + d, (l.foldl meet2 f).2 + d) := by
    rw [whenR_eq, hf, e1, List.map_cons, List.foldl_cons, ← foldl_meet_shift]
    congr 1
    have hb := hbd f (by rw [e1]; simp)
    rw [meet2_eq]
    simp only
    have e3 : max 0 (f.1 + d) = f.1 + d := by omega
    have e4 : min 8589934592 (f.2 + d) = f.2 + d := by omega
    rw [e3, e4]
  rw [whenAt_eq hv hi, hR] at hw
  rw [whenAt_eq hv' hi, e, hR', whenAt_eq hv hi, hR]
  simp only [Bool.not_eq_true', decide_eq_false_iff_not] at hw ⊢
  exact ⟨by omega, trivial⟩

def zeroAdd (d : Int) (x : Nat → Int) (j : Nat) : Int := if j = 0 then x 0 + d else x j

theorem RecOk.moved_sol (h : RecOk n r ahead times) (hn : n ≤ 40) {d : Int} (hd : 0 ≤ d ∧ d ≤ 65535) (hs : ∀ i, i < nE r → ∃ s ∈ r.2.1, s.1 = (evAt r i).1) (x : Nat → Int) :
    SolR (movedR d r) x ↔ SolR r (zeroAdd d x) := by
  have e0 : zeroAdd d x 0 = x 0 + d := rfl
  have e1 : ∀ j, zeroAdd d x (j + 1) = x (j + 1) := fun j => by unfold zeroAdd; rw [if_neg (by omega)]
  constructor
  · intro s
    refine ⟨fun i hi => ?_, fun i j hi hj => ?_, fun l hl => ?_⟩
    · have h1 := s.ev i hi
      rw [(h.moved_when hn hd hi (hs i hi)).2] at h1
      rw [e0, e1]
      simp only at h1
      omega
    · rw [e1, e1]
      exact s.pair i j hi hj
    · rw [e1, e1]
      exact s.link l hl
  · intro s
    refine ⟨fun i hi => ?_, fun i j hi hj => ?_, fun l hl => ?_⟩
    · have h1 := s.ev i hi
      rw [(h.moved_when hn hd hi (hs i hi)).2]
      rw [e0, e1] at h1
      simp only
      omega
    · have := s.pair i j hi hj
      rw [e1, e1] at this
      exact this
    · have := s.link l hl
      rw [e1, e1] at this
      exact this

theorem RecOk.moved_closed (h : RecOk n r ahead times) (hn : n ≤ 7) {d : Int} (hd : 0 ≤ d ∧ d ≤ 65535) (hs : ∀ i, i < nE r → ∃ s ∈ r.2.1, s.1 = (evAt r i).1) {m : Mat} (hm : ClosedR r m) :
    ∃ m', ClosedR (movedR d r) m' ∧ (∀ i j, i < nE r → j < nE r → at2 m' (i + 1) (j + 1) = at2 m (i + 1) (j + 1)) ∧ ∀ i, i < nE r → rangeN m' i = ((rangeN m i).1 + d, (rangeN m i).2 + d) := by
  have hnE := h.nE_le
  have z : ∀ x, zeroAdd d (zeroAdd (-d) x) = x := fun x => by
    funext j
    unfold zeroAdd
    split
    · rename_i e
      subst e
      simp only [if_true]
      omega
    · rfl
  have e1 : ∀ (d : Int) x j, zeroAdd d x (j + 1) = x (j + 1) := fun d x j => by unfold zeroAdd; rw [if_neg (by omega)]
  have e0 : ∀ (d : Int) x, zeroAdd d x 0 = x 0 + d := fun d x => rfl
  have back : ∀ x, SolR r x → SolR (movedR d r) (zeroAdd (-d) x) := fun x s => (h.moved_sol (by omega) hd hs _).2 (by rw [z]; exact s)
  have forth : ∀ x, SolR (movedR d r) x → SolR r (zeroAdd d x) := fun x s => (h.moved_sol (by omega) hd hs x).1 s
  obtain ⟨m', hm'⟩ := closed_some (h.moved_valid (by omega) hd) (whensOk_iff.2 fun i hi => (h.moved_when (by omega) hd hi (hs i hi)).1) (show nE r ≤ 7 by omega) (back _ (hm.row (i := 0) (by omega)))
  have hN : nE (movedR d r) = nE r := rfl
  refine ⟨m', hm', fun i j hi hj => Int.le_antisymm ?_ ?_, fun i hi => ?_⟩
  · rw [hm'.le_iff (by omega) (by omega)]
    intro x s
    have := hm.sol (forth x s) (i := i + 1) (j := j + 1) (by omega) (by omega)
    rw [e1, e1] at this
    exact this
  · rw [hm.le_iff (by omega) (by omega)]
    intro x s
    have := hm'.sol (back x s) (i := i + 1) (j := j + 1) (by omega) (by omega)
    rw [e1, e1] at this
    exact this
  · unfold rangeN
    have a1 : at2 m' (i + 1) 0 = at2 m (i + 1) 0 - d := by
      apply Int.le_antisymm
      · rw [hm'.le_iff (by omega) (by omega)]
        intro x s
        have := hm.sol (forth x s) (i := i + 1) (j := 0) (by omega) (by omega)
        rw [e1, e0] at this
        omega
      · have : at2 m (i + 1) 0 ≤ at2 m' (i + 1) 0 + d := by
          rw [hm.le_iff (by omega) (by omega)]
          intro x s
          have := hm'.sol (back x s) (i := i + 1) (j := 0) (by omega) (by omega)
          rw [e1, e0] at this
          omega
        omega
    have a2 : at2 m' 0 (i + 1) = at2 m 0 (i + 1) + d := by
      apply Int.le_antisymm
      · rw [hm'.le_iff (by omega) (by omega)]
        intro x s
        have := hm.sol (forth x s) (i := 0) (j := i + 1) (by omega) (by omega)
        rw [e1, e0] at this
        omega
      · have : at2 m 0 (i + 1) ≤ at2 m' 0 (i + 1) - d := by
          rw [hm.le_iff (by omega) (by omega)]
          intro x s
          have := hm'.sol (back x s) (i := 0) (j := i + 1) (by omega) (by omega)
          rw [e1, e0] at this
          omega
        omega
    rw [a1, a2]
    congr 1
    omega
end
end
end Go.Lift

/- OrderMoves in plain Lean: the loops. -/
namespace Go.Lift
open Go.RowKit Go.IntWalk
noncomputable section
set_option linter.unusedVariables false
set_option linter.unusedSimpArgs false
set_option maxRecDepth 10000

section
variable {β : Type} {N : Int} {r : Rec} {ahead times : List Int}

theorem moves_p1' (h : RecOk N r ahead times) (hN : N ≤ 40) {d : Int} (hd : 0 ≤ d ∧ d ≤ 65535) (k1 : zqfl β) (kk : Int) (r' : List Host) (r3' : List Event) (r4' : List Link) :
    ∃ hv : List Bool, (hv.length = r.1.length ∧ ∀ h : Nat, hv.getD h false = true → ∃ s ∈ r.2.1, s.1.toNat = h) ∧
      zqh6 k1 d kk r.2.1 (r.2.1.length : Int) 0 r.1 r.2.1 r.2.2.1 r.2.2.2 r' r3' r4' (List.replicate r.1.length false) [] = k1 d kk r.1 r.2.1 r.2.2.1 r.2.2.2 r' r3' r4' hv (r.2.1.map (shiftA d)) := by
  have hb := valid_bd (h.valid hN)
  obtain ⟨⟨hv, b⟩, ⟨h1, h2, h3⟩, h4⟩ := range_ex (σ := List Bool × List Sync) r.2.1.length
    (fun i s => s.1.length = r.1.length ∧ (∀ h : Nat, s.1.getD h false = true → ∃ s ∈ r.2.1, s.1.toNat = h) ∧ s.2 = (r.2.1.take i).map (shiftA d))
    (fun f j s => zqh4 f k1 d kk r.2.1 (r.2.1.length : Int) j r.1 r.2.1 r.2.2.1 r.2.2.2 r' r3' r4' s.1 s.2) (fun s => k1 d kk r.1 r.2.1 r.2.2.1 r.2.2.2 r' r3' r4' s.1 s.2)
    (List.replicate r.1.length false, []) fuel (lt_fuel (by omega)) ⟨by simp, fun h hh => by simp [List.getD, List.getElem?_replicate] at hh; split at hh <;> simp at hh, by simp⟩
    (fun i s hi hs => by
      obtain ⟨hv, b⟩ := s
      obtain ⟨h1, h2, h3⟩ := hs
      simp only at h1 h2 h3
      have hm := getD_mem (d := ((0 : Int), ((0 : Int), ((0 : Int), (0 : Int))))) hi
      obtain ⟨b1, b2, b3, b4, b5⟩ := h.sync_ok hm
      obtain ⟨c1, c2, _⟩ := h.syncs _ hm
      have b6 := b1
      simp only [okSync, Bool.and_eq_true, inN_iff, decide_eq_true_eq] at b6
      refine ⟨(hv.set (r.2.1.getD i (0, 0, 0, 0)).1.toNat true, b ++ [shiftA d (r.2.1.getD i (0, 0, 0, 0))]), ⟨by simp [h1], fun g hg => ?_, ?_⟩, fun f => ?_⟩
      · by_cases e : (r.2.1.getD i (0, 0, 0, 0)).1.toNat = g
        · exact ⟨_, hm, e⟩
        · simp only at hg
          rw [getD_set_ne e] at hg
          exact h2 g hg
      · simp only
        rw [List.take_succ_eq_append_getElem hi, List.map_append, ← h3]
        simp [List.getD, hi]
      · have e1 : IntKind.i64.wrap ((i : Int) + 1) = i + 1 := i64_in _ (by omega)
        have e2 : IntKind.i64.wrap d = d := i64_in _ (by omega)
        have e3 : IntKind.i64.wrap ((r.2.1.getD i (0, 0, 0, 0)).2.2.1 + d) = (r.2.1.getD i (0, 0, 0, 0)).2.2.1 + d := i64_in _ (by omega)
        have e4 : IntKind.i64.wrap ((r.2.1.getD i (0, 0, 0, 0)).2.2.2 + d) = (r.2.1.getD i (0, 0, 0, 0)).2.2.2 + d := i64_in _ (by omega)
        have hbl : b.length ≤ 64 := by rw [h3, List.length_map, List.length_take]; omega
        simp only
        rw [zqh5]
        unfold zqgg
        simp only [Int.toNat_natCast, e1, e2, e3, e4]
        refine (c_pos (by omega)).trans ?_
        refine (c_inb (by omega)).trans ?_
        refine (c_room (by simp only [List.length_cons, List.length_nil]; omega)).trans ?_
        refine (c_inb (by omega)).trans ?_
        rfl)
    (fun f s hs => by
      rw [zqh5]
      unfold zqgg
      exact c_neg (by omega))
  refine ⟨hv, ⟨h1, h2⟩, ?_⟩
  unfold zqh6
  refine h4.trans ?_
  simp only at h3 ⊢
  rw [h3, List.take_length]

theorem moves_p2' (h : RecOk N r ahead times) (hN : N ≤ 40) (k1 : zqfp β) (d kk : Int) {hv : List Bool} (hl : hv.length = r.1.length) (r' : List Host) (r3' : List Event) (r4' : List Link) (b : List Sync) :
    ∃ all : Bool, (all = true → ∀ i, i < nE r → hv.getD (evAt r i).1.toNat false = true) ∧
      zqha k1 d kk true r.2.2.1 (r.2.2.1.length : Int) 0 r.1 r.2.1 r.2.2.1 r.2.2.2 r' r3' r4' hv b = k1 d kk all r.1 r.2.1 r.2.2.1 r.2.2.2 r' r3' r4' b := by
  have hb := valid_bd (h.valid hN)
  obtain ⟨all, h1, h4⟩ := range_ex (σ := Bool) r.2.2.1.length (fun i s => s = true → ∀ j, j < i → hv.getD (evAt r j).1.toNat false = true)
    (fun f j s => zqh8 f k1 d kk s r.2.2.1 (r.2.2.1.length : Int) j r.1 r.2.1 r.2.2.1 r.2.2.2 r' r3' r4' hv b) (fun s => k1 d kk s r.1 r.2.1 r.2.2.1 r.2.2.2 r' r3' r4' b)
    true fuel (lt_fuel (by omega)) (fun _ j hj => by omega)
    (fun i s hi hs => by
      have hev := valid_ev (h.valid hN) (i := i) hi
      have e1 : IntKind.i64.wrap ((i : Int) + 1) = i + 1 := i64_in _ (by omega)
      refine ⟨s && hv.getD (evAt r i).1.toNat false, fun ht j hj => ?_, fun f => ?_⟩
      · rw [Bool.and_eq_true] at ht
        by_cases e : j = i
        · rw [e]; exact ht.2
        · exact hs ht.1 j (by omega)
      · rw [zqh9]
        unfold zqgj
        simp only [Int.toNat_natCast, e1]
        refine (c_pos (by omega)).trans ?_
        refine (c_inb (by omega)).trans ?_
        cases s with
        | false => rfl
        | true =>
          refine c_t.trans ?_
          refine (c_inb (by unfold evAt at hev; omega)).trans ?_
          rfl)
    (fun f s hs => by
      rw [zqh9]
      unfold zqgj
      exact c_neg (by omega))
  refine ⟨all, h1, ?_⟩
  unfold zqha
  exact h4

theorem moves_p3' (hE : r.2.2.1.length ≤ 100) (k1 : zqft β) (d kk : Int) (all : Bool) (r' : List Host) (r3' : List Event) (r4' : List Link) (t' : List Host) (t2 b : List Sync) (b5 : List Link) :
    zqhe k1 d kk all ((r.2.2.1.length : Int) - 1) r.1 r.2.1 r.2.2.1 r.2.2.2 r' r3' r4' t' t2 b [] b5 = k1 d kk all r.1 r.2.1 r.2.2.1 r.2.2.2 r' r3' r4' t' t2 b r.2.2.1.reverse b5 := by
  have key : ∀ (c f : Nat), c ≤ r.2.2.1.length → c < f → zqhc f k1 d kk all ((c : Int) - 1) r.1 r.2.1 r.2.2.1 r.2.2.2 r' r3' r4' t' t2 b (r.2.2.1.drop c).reverse b5 = k1 d kk all r.1 r.2.1 r.2.2.1 r.2.2.2 r' r3' r4' t' t2 b r.2.2.1.reverse b5 := by
    intro c
    induction c with
    | zero =>
      intro f hc hf
      obtain ⟨f, rfl⟩ : ∃ m, f = m + 1 := ⟨f - 1, by omega⟩
      rw [zqhd]
      unfold zqgm
      refine (c_neg (by omega)).trans ?_
      rw [List.drop_zero]
    | succ c ih =>
      intro f hc hf
      obtain ⟨f, rfl⟩ : ∃ m, f = m + 1 := ⟨f - 1, by omega⟩
      have e1 : ((c + 1 : Nat) : Int) - 1 = (c : Int) := by omega
      have e2 : IntKind.i64.wrap ((c : Int) - 1) = (c : Int) - 1 := i64_in _ (by omega)
      rw [zqhd, e1]
      unfold zqgm
      simp only [Int.toNat_natCast, e2]
      refine (c_pos (by omega)).trans ?_
      refine (c_inb (by omega)).trans ?_
      refine (c_room (by simp only [List.length_cons, List.length_nil, List.length_reverse, List.length_drop]; omega)).trans ?_
      rw [← ih f (by omega) (by omega)]
      congr 1
      rw [List.drop_eq_getElem_cons (show c < r.2.2.1.length by omega), List.reverse_cons]
      simp [List.getD, show c < r.2.2.1.length by omega]
  unfold zqhe
  have := key r.2.2.1.length fuel (Nat.le_refl _) (lt_fuel (by omega))
  rw [List.drop_length] at this
  exact this

theorem moves_p4' (hv : valid r = true) (k1 : zqfx β) (d : Int) (all : Bool) (r' : List Host) (r3' : List Event) (r4' : List Link) (t' : List Host) (t2 b : List Sync) (b4 : List Event) :
    zqhi k1 d (nE r : Int) all r.2.2.2 (r.2.2.2.length : Int) 0 r.1 r.2.1 r.2.2.1 r.2.2.2 r' r3' r4' t' t2 b b4 [] = k1 d (nE r : Int) all r.1 r.2.1 r.2.2.1 r.2.2.2 r' r3' r4' t' t2 b b4 (r.2.2.2.map (turnL (nE r))) := by
  have hb := valid_bd hv
  have hn : nE r ≤ 40 := by unfold nE; omega
  have key := fold_loopI (fun i (s : List Link) => s.length ≤ i) (fun f j s => zqhg f k1 d (nE r : Int) all r.2.2.2 (r.2.2.2.length : Int) j r.1 r.2.1 r.2.2.1 r.2.2.2 r' r3' r4' t' t2 b b4 s)
    (fun s l => s ++ [turnL (nE r) l]) (fun s => k1 d (nE r : Int) all r.1 r.2.1 r.2.2.1 r.2.2.2 r' r3' r4' t' t2 b b4 s) ((0 : Int), ((0 : Int), (0 : Int))) r.2.2.2 [] fuel (lt_fuel (by omega)) (by simp)
    (fun i s hi hs => by simp only [List.length_append, List.length_cons, List.length_nil]; omega)
    (fun f i s hi hs => by
      have hm := (valid_parts hv).2.2.2 _ (getD_mem (d := ((0 : Int), ((0 : Int), (0 : Int)))) hi)
      have e1 : IntKind.i64.wrap ((i : Int) + 1) = i + 1 := i64_in _ (by omega)
      have e0 : IntKind.i64.wrap ((nE r : Int) - 1) = (nE r : Int) - 1 := i64_in _ (by omega)
      have e2 : IntKind.i64.wrap ((nE r : Int) - 1 - (r.2.2.2.getD i (0, 0, 0)).1) = (nE r : Int) - 1 - (r.2.2.2.getD i (0, 0, 0)).1 := i64_in _ (by omega)
      have e3 : IntKind.i64.wrap ((nE r : Int) - 1 - (r.2.2.2.getD i (0, 0, 0)).2.1) = (nE r : Int) - 1 - (r.2.2.2.getD i (0, 0, 0)).2.1 := i64_in _ (by omega)
      rw [zqhh]
      unfold zqgp
      simp only [Int.toNat_natCast, e0, e1, e2, e3]
      refine (c_pos (by omega)).trans ?_
      refine (c_inb (by omega)).trans ?_
      refine (c_room (by simp only [List.length_cons, List.length_nil]; omega)).trans ?_
      rfl)
    (fun f s hs => by
      rw [zqhh]
      unfold zqgp
      exact c_neg (by omega))
  unfold zqhi
  rw [key]
  have : ∀ (l : List Link) (s : List Link), l.foldl (fun s x => s ++ [turnL (nE r) x]) s = s ++ l.map (turnL (nE r)) := by
    intro l
    induction l with
    | nil => intro s; simp
    | cons x l ih => intro s; simp only [List.foldl_cons, List.map_cons]; rw [ih, List.append_assoc]; rfl
  rw [this]
  rfl

variable {m mt : Mat}
theorem cmp_turn (h : ∀ i j, i ≤ nE r → j ≤ nE r → at2 mt (sig (nE r) i) (sig (nE r) j) = at2 m i j) {i j : Nat} (hi : i < nE r) (hj : j < nE r) : cmpN mt (nE r - 1 - i) (nE r - 1 - j) = cmpN m i j := by
  have e : ∀ i, i < nE r → sig (nE r) (i + 1) = (nE r - 1 - i) + 1 := fun i hi => by unfold sig; rw [if_neg (by omega)]; omega
  have h1 := h (i + 1) (j + 1) (by omega) (by omega)
  have h2 := h (j + 1) (i + 1) (by omega) (by omega)
  rw [e i hi, e j hj] at h1 h2
  unfold cmpN bef
  rw [h1, h2]
theorem range_turn (h : ∀ i j, i ≤ nE r → j ≤ nE r → at2 mt (sig (nE r) i) (sig (nE r) j) = at2 m i j) {i : Nat} (hi : i < nE r) : rangeN mt (nE r - 1 - i) = rangeN m i := by
  have e : sig (nE r) (i + 1) = (nE r - 1 - i) + 1 := by unfold sig; rw [if_neg (by omega)]; omega
  have e0 : sig (nE r) 0 = 0 := rfl
  have h1 := h (i + 1) 0 (by omega) (by omega)
  have h2 := h 0 (i + 1) (by omega) (by omega)
  rw [e, e0] at h1 h2
  unfold rangeN
  rw [h1, h2]

theorem moves_p5' (hm : ClosedR r m) (hn : nE r ≤ 7) (ht : ClosedR (turnR r) mt) (hh : ∀ i j, i ≤ nE r → j ≤ nE r → at2 mt (sig (nE r) i) (sig (nE r) j) = at2 m i j) {d : Int} {all : Bool}
    (hd : all = true → ∃ m', ClosedR (movedR d r) m' ∧ (∀ i j, i < nE r → j < nE r → at2 m' (i + 1) (j + 1) = at2 m (i + 1) (j + 1)))
    (k1 : zqg1 β) (k2 : zqg2 β) (is : Bool) {i : Nat} (hi : i < nE r) (a b c : List (Int × Int)) :
    zqhm k1 k2 d (nE r : Int) all is (i : Int) 0 r.1 r.2.1 r.2.2.1 r.2.2.2 r.1 r.2.2.1 r.2.2.2 r.1 r.2.1 a b c (r.2.1.map (shiftA d)) r.2.2.1.reverse (r.2.2.2.map (turnL (nE r))) =
      k2 d (nE r : Int) all is (i : Int) r.1 r.2.1 r.2.2.1 r.2.2.2 r.1 r.2.2.1 r.2.2.2 r.1 r.2.1 a b c (r.2.1.map (shiftA d)) r.2.2.1.reverse (r.2.2.2.map (turnL (nE r))) := by
  have key := pass_loop (nE r) (fun f j => zqhk f k1 k2 d (nE r : Int) all is (i : Int) j r.1 r.2.1 r.2.2.1 r.2.2.2 r.1 r.2.2.1 r.2.2.2 r.1 r.2.1 a b c (r.2.1.map (shiftA d)) r.2.2.1.reverse (r.2.2.2.map (turnL (nE r))))
    (k2 d (nE r : Int) all is (i : Int) r.1 r.2.1 r.2.2.1 r.2.2.2 r.1 r.2.2.1 r.2.2.2 r.1 r.2.1 a b c (r.2.1.map (shiftA d)) r.2.2.1.reverse (r.2.2.2.map (turnL (nE r)))) fuel (lt_fuel (by omega))
    (fun f j hj => by
      have e1 : IntKind.i64.wrap ((j : Int) + 1) = j + 1 := i64_in _ (by omega)
      have e0 : IntKind.i64.wrap ((nE r : Int) - 1) = (nE r : Int) - 1 := i64_in _ (by omega)
      have e2 : IntKind.i64.wrap ((nE r : Int) - 1 - i) = ((nE r - 1 - i : Nat) : Int) := (i64_in _ (by omega)).trans (by omega)
      have e3 : IntKind.i64.wrap ((nE r : Int) - 1 - j) = ((nE r - 1 - j : Nat) : Int) := (i64_in _ (by omega)).trans (by omega)
      have hN : nE (turnR r) = nE r := nE_turn r
      rw [zqhl]
      unfold zqgs
      simp only [e0, e1, e2, e3]
      refine (c_pos (by omega)).trans ?_
      refine (Compare_eq hm.eq (hm.matB hn) hi hj _).trans ?_
      refine (Compare_eq (r := turnR r) ht.eq (ht.matB (by omega)) (by omega) (by omega) _).trans ?_
      obtain ⟨v, o, hv, ha⟩ : ∃ v o, (∀ (k : Int → Bool → Option β), zqeh (movedR d r) (i : Int) (j : Int) k = k v o) ∧ (all = true → v = cmpN m i j) := by
        cases hall : all with
        | false =>
          obtain ⟨v, o, h⟩ := Compare_any (β := β) (movedR d r) hn (a := i) (b := j) hi hj
          exact ⟨v, o, h, fun h => by cases h⟩
        | true =>
          obtain ⟨m', hm', h⟩ := hd hall
          refine ⟨cmpN m' i j, true, fun k => Compare_eq hm'.eq (hm'.matB hn) hi hj k, fun _ => ?_⟩
          unfold cmpN bef
          rw [h i j hi hj, h j i hj hi]
      refine (hv _).trans ?_
      refine (c_npos (cmp_turn hh hi hj).symm).trans ?_
      cases hall : all with
      | false => rfl
      | true =>
        refine c_t.trans ?_
        exact c_npos (ha hall).symm)
    (fun f => by
      rw [zqhl]
      unfold zqgs
      exact c_neg (by omega))
  unfold zqhm
  exact key

theorem c_pair {a b : Int × Int} {x y : Option β} (h : a = b) : cond (!(decide (a.1 = b.1) && (decide (a.2 = b.2) && true))) x y = y := by
  subst h
  rw [decide_eq_true rfl, decide_eq_true rfl]
  rfl

theorem moves_p7' (hm : ClosedR r m) (hn : nE r ≤ 7) (ht : ClosedR (turnR r) mt) (hh : ∀ i j, i ≤ nE r → j ≤ nE r → at2 mt (sig (nE r) i) (sig (nE r) j) = at2 m i j) {d : Int} (hd0 : 0 ≤ d ∧ d ≤ 65535) {all is : Bool} {b : List (Int × Int)}
    (hd : all = true → ∃ m', ClosedR (movedR d r) m' ∧ (∀ i j, i < nE r → j < nE r → at2 m' (i + 1) (j + 1) = at2 m (i + 1) (j + 1)) ∧ (∀ i, i < nE r → rangeN m' i = ((rangeN m i).1 + d, (rangeN m i).2 + d)) ∧ is = true ∧ b = whensN (nE r) m')
    (k1 : zqgb β) (k2 : zqgc β) :
    zqhs k1 k2 d (nE r : Int) all is 0 r.1 r.2.1 r.2.2.1 r.2.2.2 r.1 r.2.2.1 r.2.2.2 r.1 r.2.1 (whensN (nE r) m) b (whensN (nE r) mt) (r.2.1.map (shiftA d)) r.2.2.1.reverse (r.2.2.2.map (turnL (nE r))) = k2 () := by
  have hw : ∀ m, (whensN (nE r) m).length = nE r := fun m => by unfold whensN; simp
  have key := pass_loop (nE r) (fun f j => zqhq f k1 k2 d (nE r : Int) all is j r.1 r.2.1 r.2.2.1 r.2.2.2 r.1 r.2.2.1 r.2.2.2 r.1 r.2.1 (whensN (nE r) m) b (whensN (nE r) mt) (r.2.1.map (shiftA d)) r.2.2.1.reverse (r.2.2.2.map (turnL (nE r))))
    (k2 ()) fuel (lt_fuel (by omega))
    (fun f j hj => by
      have e1 : IntKind.i64.wrap ((j : Int) + 1) = j + 1 := i64_in _ (by omega)
      have e0 : IntKind.i64.wrap ((nE r : Int) - 1) = (nE r : Int) - 1 := i64_in _ (by omega)
      have e3 : IntKind.i64.wrap ((nE r : Int) - 1 - j) = ((nE r - 1 - j : Nat) : Int) := (i64_in _ (by omega)).trans (by omega)
      have ed : IntKind.i64.wrap d = d := i64_in _ (by omega)
      have hN : nE (turnR r) = nE r := nE_turn r
      have w1 := hw m
      have w2 := hw mt
      have b1 := hm.ok.lo (j + 1) 0 (by omega) (by omega)
      have b2 := hm.ok.hi (j + 1) 0 (by omega) (by omega)
      have b3 := hm.ok.lo 0 (j + 1) (by omega) (by omega)
      have b4 := hm.ok.hi 0 (j + 1) (by omega) (by omega)
      have bd1 : -4398046511104 ≤ (rangeN m j).1 ∧ (rangeN m j).1 ≤ 4398046511104 := by unfold rangeN; simp only; omega
      have bd2 : -4398046511104 ≤ (rangeN m j).2 ∧ (rangeN m j).2 ≤ 4398046511104 := by unfold rangeN; simp only; omega
      have e4 : IntKind.i64.wrap ((rangeN m j).1 + d) = (rangeN m j).1 + d := i64_in _ (by omega)
      have e5 : IntKind.i64.wrap ((rangeN m j).2 + d) = (rangeN m j).2 + d := i64_in _ (by omega)
      have p6 : ∀ (kx : zqg6 β) (ky : zqg7 β), zqho kx ky d (nE r : Int) all is (j : Int) r.1 r.2.1 r.2.2.1 r.2.2.2 r.1 r.2.2.1 r.2.2.2 r.1 r.2.1 (whensN (nE r) m) b (whensN (nE r) mt) (r.2.1.map (shiftA d)) r.2.2.1.reverse (r.2.2.2.map (turnL (nE r))) =
          ky d (nE r : Int) all is (j : Int) r.1 r.2.1 r.2.2.1 r.2.2.2 r.1 r.2.2.1 r.2.2.2 r.1 r.2.1 (whensN (nE r) m) b (whensN (nE r) mt) (r.2.1.map (shiftA d)) r.2.2.1.reverse (r.2.2.2.map (turnL (nE r))) := by
        intro kx ky
        unfold zqho zqgw zqgv
        exact moves_p5' hm hn ht hh (fun h => by obtain ⟨m', h1, h2, _⟩ := hd h; exact ⟨m', h1, h2⟩) _ _ is hj _ _ _
      rw [zqhr]
      unfold zqgy
      simp only [e0, e1, e3, ed, Int.toNat_natCast, whensN_getD hj, whensN_getD (show nE r - 1 - j < nE r by omega), e4, e5]
      refine (c_pos (by omega)).trans ?_
      refine (c_inb (by omega)).trans ?_
      refine (c_inb (by omega)).trans ?_
      refine (c_pair (range_turn hh hj).symm).trans ?_
      cases hall : all with
      | false =>
        subst hall
        refine c_f.trans ?_
        refine (p6 _ _).trans ?_
        simp only [e1]
      | true =>
        obtain ⟨m', h1, h2, h3, h4, h5⟩ := hd hall
        subst hall
        subst h4
        subst h5
        have w3 := hw m'
        refine c_t.trans ?_
        refine c_nt.trans ?_
        refine (c_npos (by omega)).trans ?_
        refine (c_inb (by omega)).trans ?_
        refine (c_inb (by omega)).trans ?_
        refine (c_inb (by omega)).trans ?_
        rw [whensN_getD hj]
        refine (c_pair (a := rangeN m' j) (b := ((rangeN m j).1 + d, (rangeN m j).2 + d)) (h3 j hj)).trans ?_
        refine (p6 _ _).trans ?_
        simp only [e1])
    (fun f => by
      rw [zqhr]
      unfold zqgy
      exact c_neg (by omega))
  unfold zqhs
  exact key

theorem orderMoves {t : List Int} {d : Int} (hd : 0 ≤ d ∧ d ≤ 65535) (k : Bool → Option β) : zqhu t d k = k true := by
  unfold zqhu zqh1
  refine (light_eq _ _).trans ?_
  by_cases hl : (t.length : Int) ≤ 500
  · refine (c_npos hl).trans ?_
    refine (roll_eq _ _).trans ?_
    obtain ⟨r, dd, times, ahead, hr, hdd, f1⟩ := record_ok 6 (by omega) (roll_ok hl)
    refine (f1 _).trans ?_
    obtain ⟨m, hm⟩ := hr.closed (by omega)
    have hn : nE r ≤ 6 := by have := hr.nE_le; omega
    have hb := valid_bd hm.valid
    have hnE : r.2.2.1.length = nE r := rfl
    have hlen : times.length = nE r := hr.lenE
    refine (c_make (n := r.1.length) (by omega) (by omega)).trans ?_
    rw [Int.toNat_natCast]
    obtain ⟨hv, ⟨v1, v2⟩, f2⟩ := moves_p1' hr (by omega) hd _ _ _ _ _
    refine f2.trans ?_
    obtain ⟨all, a1, f3⟩ := moves_p2' hr (by omega) _ _ _ v1 _ _ _ _
    refine f3.trans ?_
    have e1 : IntKind.i64.wrap ((times.length : Int) - 1) = (r.2.2.1.length : Int) - 1 := (i64_in _ (by omega)).trans (by omega)
    simp only [e1]
    refine (moves_p3' (by omega) _ _ _ _ _ _ _ _ _ _ _).trans ?_
    rw [hlen]
    refine (moves_p4' hm.valid _ _ _ _ _ _ _ _ _ _).trans ?_
    obtain ⟨mt, ht, hh⟩ := hm.turn (by omega)
    have hN : nE (turnR r) = nE r := nE_turn r
    have hall : all = true → ∀ i, i < nE r → ∃ s ∈ r.2.1, s.1 = (evAt r i).1 := by
      intro h i hi
      obtain ⟨s, s1, s2⟩ := v2 _ (a1 h i hi)
      have h1 := (valid_parts hm.valid).2.1 s s1
      have h2 := valid_ev hm.valid hi
      exact ⟨s, s1, by omega⟩
    refine (When_some hm.eq (hm.matB (by omega)) _).trans ?_
    obtain ⟨is, b, hw, hd'⟩ : ∃ is b, (∀ (k : Bool → List (Int × Int) → Option β), zqea (movedR d r) k = k is b) ∧
        (all = true → ∃ m', ClosedR (movedR d r) m' ∧ (∀ i j, i < nE r → j < nE r → at2 m' (i + 1) (j + 1) = at2 m (i + 1) (j + 1)) ∧ (∀ i, i < nE r → rangeN m' i = ((rangeN m i).1 + d, (rangeN m i).2 + d)) ∧ is = true ∧ b = whensN (nE r) m') := by
      cases ha : all with
      | false =>
        obtain ⟨o, l, h⟩ := When_any (β := β) (movedR d r) (show nE r ≤ 7 by omega)
        exact ⟨o, l, h, fun h => by cases h⟩
      | true =>
        obtain ⟨m', h1, h2, h3⟩ := hr.moved_closed (by omega) hd (hall ha) hm
        exact ⟨true, whensN (nE r) m', fun k => When_some h1.eq (h1.matB (show nE r ≤ 7 by omega)) k, fun _ => ⟨m', h1, h2, h3, rfl, rfl⟩⟩
    refine (hw _).trans ?_
    refine (When_some (r := turnR r) ht.eq (ht.matB (by omega)) _).trans ?_
    rw [hN]
    have wl : ∀ m, (whensN (nE r) m).length = nE r := fun m => by unfold whensN; simp
    have w1 := wl m
    have w2 := wl mt
    refine c_nt.trans ?_
    refine c_nt.trans ?_
    refine (c_npos (by omega)).trans ?_
    refine (c_npos (by omega)).trans ?_
    refine (moves_p7' hm (by omega) ht hh hd hd' _ _).trans ?_
    exact sane40_eq _
  · refine (c_nneg hl).trans ?_
    exact sane40_eq _
end
end
end Go.Lift

