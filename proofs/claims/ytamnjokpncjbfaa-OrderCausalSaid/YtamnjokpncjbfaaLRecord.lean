/- Records made by the dice, in plain Lean. -/
import Derived.Test.YtamnjokpncjbfaaFn2
import Derived.Test.YtamnjokpncjbfaaLBase
import Derived.Test.YtamnjokpncjbfaaLDice
import Derived.Test.YtamnjokpncjbfaaLClock
namespace Go.Lift
open Go.RowKit Go.IntWalk
noncomputable section
set_option linter.unusedVariables false
set_option linter.unusedSimpArgs false

structure HostsOk (hosts : List Host) (ahead : List Int) : Prop where
  len : ahead.length = hosts.length
  most : hosts.length ≤ 3
  drift : ∀ h ∈ hosts, h.2 = 0 ∨ h.2 = 100 ∨ h.2 = 50000 ∨ h.2 = 500000
  off : ∀ a ∈ ahead, a = 0 ∨ a = 7 ∨ a = 100
/-- A comparison at a true time. -/
def SyncOk (nh : Nat) (ahead : List Int) (s : Sync) : Prop :=
  0 ≤ s.1 ∧ s.1 < nh ∧ ∃ t, 864000 ≤ t ∧ t < 864400 ∧ s.2.1 = t + ahead.getD s.1.toNat 0 ∧ t - 20 ≤ s.2.2.1 ∧ s.2.2.1 ≤ t ∧ t ≤ s.2.2.2 ∧ s.2.2.2 ≤ t + 15
def EventOk (nh : Nat) (ahead : List Int) (e : Event) (t : Int) : Prop :=
  0 ≤ e.1 ∧ e.1 < nh ∧ 864000 ≤ t ∧ t < 864300 ∧ e.2.1 = t + ahead.getD e.1.toNat 0
def LinkOk (times : List Int) (l : Link) : Prop :=
  0 ≤ l.1 ∧ l.1 < times.length ∧ 0 ≤ l.2.1 ∧ l.2.1 < times.length ∧ l.1 ≠ l.2.1 ∧ 0 ≤ l.2.2 ∧ times.getD l.1.toNat 0 + l.2.2 ≤ times.getD l.2.1.toNat 0
/-- What a record of the dice is. -/
structure RecOk (n : Int) (r : Rec) (ahead times : List Int) : Prop where
  hosts : HostsOk r.1 ahead
  some_ : 1 ≤ r.1.length
  fewS : r.2.1.length ≤ 8
  syncs : ∀ s ∈ r.2.1, SyncOk r.1.length ahead s
  lenE : times.length = r.2.2.1.length
  fewE : (r.2.2.1.length : Int) ≤ n
  events : ∀ i, i < r.2.2.1.length → EventOk r.1.length ahead (r.2.2.1.getD i (0, 0, [])) (times.getD i 0)
  fewL : r.2.2.2.length ≤ 8
  links : ∀ l ∈ r.2.2.2, LinkOk times l

theorem getD_mem {α : Type} {l : List α} {i : Nat} {d : α} (h : i < l.length) : l.getD i d ∈ l := by simp [List.getD, h]
theorem getD_append {α : Type} {l l' : List α} {i : Nat} {d : α} (h : i < l.length) : (l ++ l').getD i d = l.getD i d := by simp [List.getD, List.getElem?_append_left h]
theorem getD_last {α : Type} {l : List α} {x d : α} : (l ++ [x]).getD l.length d = x := by simp [List.getD]

theorem record_p1 (n N : Int) (hN : 1 ≤ N ∧ N ≤ 3) {d : Dice} (hd : DiceOk d) :
    ∃ q : Dice × List Int × List Host, (DiceOk q.1 ∧ HostsOk q.2.2 q.2.1 ∧ (q.2.2.length : Int) = N) ∧
      ∀ {β : Type} (k : made_Dice_Record_p1_K1 β), made_Dice_Record_p1 k n N d.1 d.2 [] [] [] [] [] [] [] [] [] = k n q.1.1 q.1.2 q.2.1 [] [] [] [] q.2.2 [] [] [] := by
  refine while_loop (σ := Int × Dice × List Int × List Host) (ρ := Dice × List Int × List Host) (Kt := made_Dice_Record_p1_K1)
    (fun k m s => made_Dice_Record_p1_n m k n s.1 s.2.1.1 s.2.1.2 s.2.2.1 [] [] [] [] s.2.2.2 [] [] []) (fun k q => k n q.1.1 q.1.2 q.2.1 [] [] [] [] q.2.2 [] [] [])
    (fun s => 0 ≤ s.1 ∧ s.1 + s.2.2.2.length = N ∧ DiceOk s.2.1 ∧ HostsOk s.2.2.2 s.2.2.1) (fun s => s.1.toNat) _ ?_ fuel (N, d, [], []) ⟨by omega, by simp, hd, ⟨rfl, by simp, by simp, by simp⟩⟩ (lt_fuel (by show N.toNat < _; omega))
  rintro ⟨i, d, ahead, hosts⟩ ⟨h0, h1, h2, h3⟩
  simp only at h0 h1 h2 h3
  have hl := h3.len
  by_cases hi : 0 < i
  · left
    obtain ⟨x, d1, hx, hd1, f1⟩ := one_ok (l := [0, 0, 100, 50000, 500000]) (by simp) (by simp) h2
    obtain ⟨y, d2, hy, hd2, f2⟩ := one_ok (l := [0, 7, 100]) (by simp) (by simp) hd1
    refine ⟨(i - 1, d2, ahead ++ [y], hosts ++ [(List.getD [[100, 98], [119, 101, 98], [108, 98]] hosts.length [], x)]), ⟨by simp only; omega, by simp; omega, hd2, ?_⟩, by simp only; omega, fun k m => ?_⟩
    · refine ⟨by simp [hl], by simp; omega, fun h hh => ?_, fun a ha => ?_⟩
      · simp only [List.mem_append, List.mem_singleton] at hh
        rcases hh with hh | rfl
        · exact h3.drift h hh
        · simpa using hx
      · simp only [List.mem_append, List.mem_singleton] at ha
        rcases ha with ha | rfl
        · exact h3.off a ha
        · simpa using hy
    · simp (disch := omega) only [made_Dice_Record_p1_step, made_Dice_Record_p1_s, pair_eta, c_pos, c_inb, c_room, f1, f2, i64_in, List.length_cons, List.length_nil, Int.toNat_natCast]
  · right
    exact ⟨(d, ahead, hosts), ⟨h2, h3, by simp only; omega⟩, fun k m => by simp (disch := omega) only [made_Dice_Record_p1_step, made_Dice_Record_p1_s, c_neg]⟩

theorem ahead_bd {hosts : List Host} {ahead : List Int} (h : HostsOk hosts ahead) (i : Nat) : 0 ≤ ahead.getD i 0 ∧ ahead.getD i 0 ≤ 100 := by
  by_cases hi : i < ahead.length
  · have := h.off _ (getD_mem (d := 0) hi)
    omega
  · simp [List.getD, hi]

theorem record_p2 (n N : Int) (hN : 0 ≤ N ∧ N ≤ 4) {d : Dice} (hd : DiceOk d) {hosts : List Host} {ahead : List Int} (hh : HostsOk hosts ahead) (h1 : 1 ≤ hosts.length) :
    ∃ q : Dice × List Sync, (DiceOk q.1 ∧ (q.2.length : Int) = N ∧ ∀ s ∈ q.2, SyncOk hosts.length ahead s) ∧
      ∀ {β : Type} (k : made_Dice_Record_p2_K1 β), made_Dice_Record_p2 k n N d.1 d.2 ahead [] [] [] [] hosts [] [] [] = k n q.1.1 q.1.2 ahead [] [] [] [] hosts q.2 [] [] := by
  have hl := hh.len
  have hm := hh.most
  refine while_loop (σ := Int × Dice × List Sync) (ρ := Dice × List Sync) (Kt := made_Dice_Record_p2_K1)
    (fun k m s => made_Dice_Record_p2_n m k n s.1 s.2.1.1 s.2.1.2 ahead [] [] [] [] hosts s.2.2 [] []) (fun k q => k n q.1.1 q.1.2 ahead [] [] [] [] hosts q.2 [] [])
    (fun s => 0 ≤ s.1 ∧ s.1 + s.2.2.length = N ∧ DiceOk s.2.1 ∧ ∀ x ∈ s.2.2, SyncOk hosts.length ahead x) (fun s => s.1.toNat) _ ?_ fuel (N, d, []) ⟨by omega, by simp, hd, by simp⟩ (lt_fuel (by show N.toNat < _; omega))
  rintro ⟨i, d, syncs⟩ ⟨h0, h1', h2, h3⟩
  simp only at h0 h1' h2 h3
  by_cases hi : 0 < i
  · left
    obtain ⟨x, d1, hx0, hx1, hd1, f1⟩ := next_ok (n := (hosts.length : Int)) h2 (by omega)
    obtain ⟨y, d2, hy0, hy1, hd2, f2⟩ := next_ok (n := 400) hd1 (by omega)
    obtain ⟨z, d3, hz, hd3, f3⟩ := one_ok (l := [0, 3, 20]) (by simp) (by simp) hd2
    obtain ⟨u, d4, hu, hd4, f4⟩ := one_ok (l := [0, 2, 15]) (by simp) (by simp) hd3
    simp only [List.mem_cons, List.not_mem_nil, or_false] at hz hu
    have ha := ahead_bd hh x.toNat
    refine ⟨(i - 1, d4, syncs ++ [(x, 864000 + y + ahead.getD x.toNat 0, 864000 + y - z, 864000 + y + u)]), ⟨by simp only; omega, by simp; omega, hd4, ?_⟩, by simp only; omega, fun k m => ?_⟩
    · intro s hs
      simp only [List.mem_append, List.mem_singleton] at hs
      rcases hs with hs | rfl
      · exact h3 s hs
      · exact ⟨hx0, hx1, 864000 + y, by omega, by omega, rfl, by simp only; omega, by simp only; omega, by simp only; omega, by simp only; omega⟩
    · simp (disch := omega) only [made_Dice_Record_p2_step, made_Dice_Record_p2_s, pair_eta, c_pos, c_inb, c_room, f1, f2, f3, f4, i64_in, List.length_cons, List.length_nil, Int.toNat_natCast]
  · right
    exact ⟨(d, syncs), ⟨h2, by simp only; omega, h3⟩, fun k m => by simp (disch := omega) only [made_Dice_Record_p2_step, made_Dice_Record_p2_s, c_neg]⟩

theorem record_p3 (N : Int) (hN : 0 ≤ N ∧ N ≤ 1000) {d : Dice} (hd : DiceOk d) {hosts : List Host} {ahead : List Int} (hh : HostsOk hosts ahead) (h1 : 1 ≤ hosts.length) (syncs : List Sync) :
    ∃ q : Dice × List Int × List Event, (DiceOk q.1 ∧ (q.2.2.length : Int) = N ∧ q.2.1.length = q.2.2.length ∧ ∀ i, i < q.2.2.length → EventOk hosts.length ahead (q.2.2.getD i (0, 0, [])) (q.2.1.getD i 0)) ∧
      ∀ {β : Type} (k : made_Dice_Record_p3_K1 β), made_Dice_Record_p3 k N d.1 d.2 ahead [] [] [] [] [] hosts syncs [] [] = k q.1.1 q.1.2 q.2.1 [] [] [] [] hosts syncs q.2.2 [] := by
  have hl := hh.len
  have hm := hh.most
  refine while_loop (σ := Int × Dice × List Int × List Event) (ρ := Dice × List Int × List Event) (Kt := made_Dice_Record_p3_K1)
    (fun k m s => made_Dice_Record_p3_n m k s.1 s.2.1.1 s.2.1.2 ahead s.2.2.1 [] [] [] [] hosts syncs s.2.2.2 []) (fun k q => k q.1.1 q.1.2 q.2.1 [] [] [] [] hosts syncs q.2.2 [])
    (fun s => 0 ≤ s.1 ∧ s.1 + s.2.2.2.length = N ∧ s.2.2.1.length = s.2.2.2.length ∧ DiceOk s.2.1 ∧ ∀ i, i < s.2.2.2.length → EventOk hosts.length ahead (s.2.2.2.getD i (0, 0, [])) (s.2.2.1.getD i 0)) (fun s => s.1.toNat) _ ?_ fuel (N, d, [], []) ⟨by omega, by simp, rfl, hd, by simp⟩ (lt_fuel (by show N.toNat < _; omega))
  rintro ⟨i, d, times, evs⟩ ⟨h0, h1', hlen, h2, h3⟩
  simp only at h0 h1' hlen h2 h3
  by_cases hi : 0 < i
  · left
    obtain ⟨x, d1, hx0, hx1, hd1, f1⟩ := next_ok (n := (hosts.length : Int)) h2 (by omega)
    obtain ⟨y, d2, hy0, hy1, hd2, f2⟩ := next_ok (n := 300) hd1 (by omega)
    obtain ⟨z, d3, hz0, hz1, hd3, f3⟩ := next_ok (n := 3) hd2 (by omega)
    have ha := ahead_bd hh x.toNat
    refine ⟨(i - 1, d3, times ++ [864000 + y], evs ++ [(x, 864000 + y + ahead.getD x.toNat 0, List.getD [[117, 112], [100, 111, 119, 110], [115, 108, 111, 119]] z.toNat [])]), ⟨by simp only; omega, by simp; omega, by simp [hlen], hd3, ?_⟩, by simp only; omega, fun k m => ?_⟩
    · intro j hj
      simp only [List.length_append, List.length_singleton] at hj
      by_cases hj' : j < evs.length
      · rw [getD_append hj', getD_append (by omega)]
        exact h3 j hj'
      · obtain rfl : j = evs.length := by omega
        simp only
        rw [getD_last]
        rw [← hlen, getD_last]
        exact ⟨hx0, hx1, by omega, by omega, rfl⟩
    · simp (disch := omega) only [made_Dice_Record_p3_step, made_Dice_Record_p3_s, pair_eta, c_pos, c_inb, c_room, f1, f2, f3, i64_in, List.length_cons, List.length_nil, Int.toNat_natCast]
  · right
    exact ⟨(d, times, evs), ⟨h2, by simp only; omega, hlen, h3⟩, fun k m => by simp (disch := omega) only [made_Dice_Record_p3_step, made_Dice_Record_p3_s, c_neg]⟩

theorem record_p5 (N : Int) (hN : 0 ≤ N ∧ N ≤ 3) {d : Dice} (hd : DiceOk d) (hosts : List Host) (syncs : List Sync) (evs : List Event) {times : List Int} (ht : times.length ≤ 1000) (hb : ∀ i, i < times.length → 864000 ≤ times.getD i 0 ∧ times.getD i 0 < 864300) :
    ∃ q : Dice × List Link, (DiceOk q.1 ∧ q.2.length ≤ 3 ∧ ∀ l ∈ q.2, LinkOk times l) ∧
      ∀ {β : Type} (k : made_Dice_Record_p5_K1 β), made_Dice_Record_p5 k N d.1 d.2 times [] [] [] [] hosts syncs evs [] = k q.1.1 q.1.2 times [] [] [] [] hosts syncs evs q.2 := by
  refine while_loop (σ := Int × Dice × List Link) (ρ := Dice × List Link) (Kt := made_Dice_Record_p5_K1)
    (fun k m s => made_Dice_Record_p5_n m k s.1 s.2.1.1 s.2.1.2 times [] [] [] [] hosts syncs evs s.2.2) (fun k q => k q.1.1 q.1.2 times [] [] [] [] hosts syncs evs q.2)
    (fun s => 0 ≤ s.1 ∧ s.1 + s.2.2.length ≤ N ∧ DiceOk s.2.1 ∧ ∀ x ∈ s.2.2, LinkOk times x) (fun s => s.1.toNat) _ ?_ fuel (N, d, []) ⟨by omega, by simp, hd, by simp⟩ (lt_fuel (by show N.toNat < _; omega))
  rintro ⟨i, d, links⟩ ⟨h0, h1', h2, h3⟩
  simp only at h0 h1' h2 h3
  by_cases hi : 0 < i
  · by_cases ht1 : (1 : Int) < times.length
    · left
      obtain ⟨x, d1, hx0, hx1, hd1, f1⟩ := next_ok (n := (times.length : Int)) h2 (by omega)
      obtain ⟨y, d2, hy0, hy1, hd2, f2⟩ := next_ok (n := (times.length : Int)) hd1 (by omega)
      by_cases hxy : x = y
      · refine ⟨(i - 1, d2, links), ⟨by simp only; omega, by simp only; omega, hd2, h3⟩, by simp only; omega, fun k m => ?_⟩
        simp (disch := omega) only [made_Dice_Record_p5_step, made_Dice_Record_p5_s, made_Dice_Record_p4, made_Dice_Record_p4_u, made_Dice_Record_p4_s, pair_eta, c_pos, c_npos, c_f, f1, f2, i64_in]
      · have bx := hb x.toNat (by omega)
        have by_ := hb y.toNat (by omega)
        by_cases hle : times.getD x.toNat 0 ≤ times.getD y.toNat 0
        · obtain ⟨z, d3, hz0, hz1, hd3, f3⟩ := next_ok (n := times.getD y.toNat 0 - times.getD x.toNat 0 + 1) hd2 (by omega)
          refine ⟨(i - 1, d3, links ++ [(x, y, z)]), ⟨by simp only; omega, by simp; omega, hd3, ?_⟩, by simp only; omega, fun k m => ?_⟩
          · intro l hl
            simp only [List.mem_append, List.mem_singleton] at hl
            rcases hl with hl | rfl
            · exact h3 l hl
            · exact ⟨hx0, hx1, hy0, hy1, hxy, hz0, by simp only; omega⟩
          · simp (disch := omega) only [made_Dice_Record_p5_step, made_Dice_Record_p5_s, made_Dice_Record_p4, made_Dice_Record_p4_u, made_Dice_Record_p4_s, pair_eta, c_pos, c_nneg, c_inb, c_room, f1, f2, f3, i64_in, List.length_cons, List.length_nil]
        · refine ⟨(i - 1, d2, links), ⟨by simp only; omega, by simp only; omega, hd2, h3⟩, by simp only; omega, fun k m => ?_⟩
          simp (disch := omega) only [made_Dice_Record_p5_step, made_Dice_Record_p5_s, made_Dice_Record_p4, made_Dice_Record_p4_u, made_Dice_Record_p4_s, pair_eta, c_pos, c_nneg, c_inb, c_neg, f1, f2, i64_in]
    · right
      exact ⟨(d, links), ⟨h2, by simp only; omega, h3⟩, fun k m => by simp (disch := omega) only [made_Dice_Record_p5_step, made_Dice_Record_p5_s, c_pos, c_neg]⟩
  · right
    exact ⟨(d, links), ⟨h2, by simp only; omega, h3⟩, fun k m => by simp (disch := omega) only [made_Dice_Record_p5_step, made_Dice_Record_p5_s, c_neg]⟩

theorem record_ok4 (n : Int) (hn : 0 ≤ n ∧ n ≤ 900) {d : Dice} (hd : DiceOk d) :
    ∃ r d' times ahead, RecOk n r ahead times ∧ DiceOk d' ∧ (r.2.1.length ≤ 4 ∧ r.2.2.2.length ≤ 3) ∧ ∀ {β : Type} (k : api_Record → Dice → List Int → Option β), made_Dice_Record n d k = k r d' times := by
  obtain ⟨x, d1, hx0, hx1, hd1, f1⟩ := next_ok (n := 3) hd (by omega)
  obtain ⟨⟨d2, ahead, hosts⟩, ⟨hd2, hh, hN⟩, f2⟩ := record_p1 n (1 + x) (by omega) hd1
  simp only at hd2 hh hN f2
  obtain ⟨y, d3, hy0, hy1, hd3, f3⟩ := next_ok (n := 5) hd2 (by omega)
  obtain ⟨⟨d4, syncs⟩, ⟨hd4, hs, hsy⟩, f4⟩ := record_p2 n y (by omega) hd3 hh (by omega)
  simp only at hd4 hs hsy f4
  obtain ⟨z, d5, hz0, hz1, hd5, f5⟩ := next_ok (n := n + 1) hd4 (by omega)
  obtain ⟨⟨d6, times, evs⟩, ⟨hd6, he, hte, hev⟩, f6⟩ := record_p3 z (by omega) hd5 hh (by omega) syncs
  simp only at hd6 he hte hev f6
  obtain ⟨u, d7, hu0, hu1, hd7, f7⟩ := next_ok (n := 4) hd6 (by omega)
  obtain ⟨⟨d8, links⟩, ⟨hd8, hl, hli⟩, f8⟩ := record_p5 u (by omega) hd7 hosts syncs evs (times := times) (by omega) (fun i hi => ⟨(hev i (by omega)).2.2.1, (hev i (by omega)).2.2.2.1⟩)
  simp only at hd8 hl hli f8
  refine ⟨(hosts, syncs, evs, links), d8, times, ahead, ⟨hh, by simp only; omega, by simp only; omega, hsy, hte, by simp only; omega, hev, by simp only; omega, hli⟩, hd8, ⟨by simp only; omega, hl⟩, fun k => ?_⟩
  simp (disch := omega) only [made_Dice_Record, made_Dice_Record_s, f1, f2, f3, f4, f5, f6, f7, f8, i64_in, pair_eta]

theorem record_ok (n : Int) (hn : 0 ≤ n ∧ n ≤ 900) {d : Dice} (hd : DiceOk d) :
    ∃ r d' times ahead, RecOk n r ahead times ∧ DiceOk d' ∧ ∀ {β : Type} (k : api_Record → Dice → List Int → Option β), made_Dice_Record n d k = k r d' times := by
  obtain ⟨r, d', times, ahead, h1, h2, _, h3⟩ := record_ok4 n hn hd
  exact ⟨r, d', times, ahead, h1, h2, h3⟩

/-- A record of the dice is valid. -/
theorem RecOk.valid {n : Int} {r : Rec} {ahead times : List Int} (h : RecOk n r ahead times) (hn : n ≤ 40) : valid r = true := by
  obtain ⟨hosts, syncs, evs, links⟩ := r
  have hE := h.fewE
  have hS := h.fewS
  have hL := h.fewL
  have hm := h.hosts.most
  have hle := h.lenE
  simp only at hE hS hL hm hle
  have key : ∀ (l : List Int) (i : Nat), (∀ a ∈ l, a = 0 ∨ a = 7 ∨ a = 100) → 0 ≤ l.getD i 0 ∧ l.getD i 0 ≤ 100 := by
    intro l i hl
    by_cases hi : i < l.length
    · have := hl _ (getD_mem (d := 0) hi); omega
    · simp [List.getD, hi]
  have hev : ∀ e ∈ evs, vEvent hosts.length e = true := by
    intro e he
    obtain ⟨i, hi, rfl⟩ := List.getElem_of_mem he
    have := h.events i hi
    simp only at this
    rw [show evs.getD i (0, 0, []) = evs[i] by simp [List.getD, hi]] at this
    obtain ⟨a1, a2, a3, a4, a5⟩ := this
    have := key ahead evs[i].1.toNat h.hosts.off
    simp only [vEvent, Bool.and_eq_true, inN_iff]
    omega
  have hsy : ∀ s ∈ syncs, vSync hosts.length s = true := by
    intro s hs
    obtain ⟨a1, a2, t, a3, a4, a5, a6, a7, a8, a9⟩ := h.syncs s hs
    have := key ahead s.1.toNat h.hosts.off
    simp only [vSync, okSync, Bool.and_eq_true, inN_iff, decide_eq_true_eq]
    simp only at a2
    omega
  have hli : ∀ l ∈ links, vLink evs.length l = true := by
    intro l hl
    obtain ⟨a1, a2, a3, a4, a5, a6, a7⟩ := h.links l hl
    have b1 := h.events l.1.toNat (by simp only; omega)
    have b2 := h.events l.2.1.toNat (by simp only; omega)
    obtain ⟨-, -, c1, c2, -⟩ := b1
    obtain ⟨-, -, c3, c4, -⟩ := b2
    simp only [vLink, Bool.and_eq_true, inN_iff, Bool.not_eq_true', decide_eq_false_iff_not]
    omega
  have hho : ∀ x ∈ hosts, vHost x = true := by
    intro x hx
    have := h.hosts.drift x hx
    simp only [vHost, inN_iff]
    omega
  simp only [Go.Lift.valid, small, Bool.and_eq_true, List.all_eq_true, Bool.not_eq_true', decide_eq_false_iff_not]
  exact ⟨⟨by omega, by omega, by omega, by omega⟩, hho, hsy, hev, hli⟩

theorem oddrecord_ok {r : Rec} {d : Dice} (hd : DiceOk d) (h0 : 1 ≤ r.1.length) (h1 : r.1.length ≤ 1000) (h2 : r.2.1.length ≤ 1000) (h3 : r.2.2.1.length ≤ 1000) (h4 : r.2.2.2.length ≤ 1000) :
    ∃ r' d', DiceOk d' ∧ ∀ {β : Type} (k : api_Record → Dice → Option β), made_Dice_OddRecord r d k = k r' d' := by
  obtain ⟨x, d1, hx0, hx1, hd1, f1⟩ := next_ok (n := 7) hd (by omega)
  by_cases c0 : x = 0
  · obtain ⟨y, d2, hy, hd2, f2⟩ := one_ok (l := [-1, 500001]) (by simp) (by simp) hd1
    refine ⟨(List.set r.1 0 ((r.1.getD 0 ([], 0)).1, y), r.2), d2, hd2, fun k => ?_⟩
    simp (disch := omega) only [made_Dice_OddRecord, made_Dice_OddRecord_s, c_room, f1, c_pos, f2, c_inb, Int.toNat_zero]
  by_cases c1 : x = 1
  · obtain ⟨y, d2, hy0, hy1, hd2, f2⟩ := next_ok (n := 4) hd1 (by omega)
    obtain ⟨z, d3, hz0, hz1, hd3, f3⟩ := next_ok (n := 300) hd2 (by omega)
    obtain ⟨u, d4, hu0, hu1, hd4, f4⟩ := next_ok (n := 300) hd3 (by omega)
    obtain ⟨v, d5, hv0, hv1, hd5, f5⟩ := next_ok (n := 300) hd4 (by omega)
    refine ⟨(r.1, r.2.1 ++ [(IntKind.i64.wrap (y - 1), IntKind.i64.wrap (864000 + z), IntKind.i64.wrap (864000 + u), IntKind.i64.wrap (864000 + v))], r.2.2), d5, hd5, fun k => ?_⟩
    simp (disch := omega) only [made_Dice_OddRecord, made_Dice_OddRecord_s, c_room, f1, c_pos, c_neg, f2, f3, f4, f5, List.length_cons, List.length_nil]
  by_cases c2 : x = 2
  · obtain ⟨y, d2, hy0, hy1, hd2, f2⟩ := next_ok (n := 4) hd1 (by omega)
    obtain ⟨z, d3, hz, hd3, f3⟩ := one_ok (l := [-1, 0, 864000, 8589934592, 8589934593]) (by simp) (by simp) hd2
    refine ⟨(r.1, r.2.1, r.2.2.1 ++ [(IntKind.i64.wrap (y - 1), z, [])], r.2.2.2), d3, hd3, fun k => ?_⟩
    simp (disch := omega) only [made_Dice_OddRecord, made_Dice_OddRecord_s, c_room, f1, c_pos, c_neg, f2, f3, List.length_cons, List.length_nil]
  by_cases c3 : x = 3 ∨ x = 4
  · obtain ⟨y, d2, hy0, hy1, hd2, f2⟩ := next_ok (n := 5) hd1 (by omega)
    obtain ⟨z, d3, hz0, hz1, hd3, f3⟩ := next_ok (n := 5) hd2 (by omega)
    obtain ⟨u, d4, hu, hd4, f4⟩ := one_ok (l := [-1, 0, 1, 100, 400]) (by simp) (by simp) hd3
    refine ⟨(r.1, r.2.1, r.2.2.1, r.2.2.2 ++ [(IntKind.i64.wrap (y - 1), z, u)]), d4, hd4, fun k => ?_⟩
    rcases c3 with c3 | c3
    · simp (disch := omega) only [made_Dice_OddRecord, made_Dice_OddRecord_s, made_Dice_OddRecord_p1, made_Dice_OddRecord_p1_u, made_Dice_OddRecord_p1_s, c_room, f1, c_pos, c_neg, f2, f3, f4, pair_eta, List.length_cons, List.length_nil]
    · simp (disch := omega) only [made_Dice_OddRecord, made_Dice_OddRecord_s, made_Dice_OddRecord_p1, made_Dice_OddRecord_p1_u, made_Dice_OddRecord_p1_s, c_room, f1, c_pos, c_neg, f2, f3, f4, pair_eta, List.length_cons, List.length_nil]
  · refine ⟨r, d1, hd1, fun k => ?_⟩
    simp (disch := omega) only [made_Dice_OddRecord, made_Dice_OddRecord_s, made_Dice_OddRecord_p1, made_Dice_OddRecord_p1_u, made_Dice_OddRecord_p1_s, c_room, f1, c_neg, pair_eta]
end
end Go.Lift
