/- Contracts of osmosishand's entries and tables. -/
import Derived.Test.YtmonbigaldamfaaQ
namespace Go.Proofs.Ytmonbigaldamfaa
open Go.RowKit Go.Osm

set_option maxRecDepth 100000 in
set_option maxHeartbeats 1000000 in
theorem entry_any (x : Entry) (w : World) :
    Calls Try.prog 37 #[x.val] w fun e w' => e = .returned (entryOf x).val ∧ Below w.heap.size w w' := by
  unfold Entry.val
  go_enter Try.func37, Try.ntmps37
  go_wp2
  go_cut [3] (fun s3 wx => s3 = .pointer (some ⟨w.heap.size + 1 + 1, 0, none⟩) ∧ (((w.alloc (.cells #[.int .i64 x.inc, .int .i64 x.status, .int .i64 x.stamp, .int .i64 x.load, .bool x.drain] 74)).alloc (.cells #[.int .i64 0, .int .i64 0, .int .i64 0, .int .i64 0, .bool false] 39)).alloc
      (.cells #[.int .i64 (pick x.inc 4), .int .i64 (pick x.status 3), .int .i64 (pick x.stamp 5), .int .i64 (pick x.load 12), .bool x.drain] 39)).drew = wx)
  case first =>
    go_region_held3 (fun w' => w'.cell? ⟨w.heap.size, 0, none⟩ = some (.int .i64 x.inc) ∧ w'.cell? ⟨w.heap.size, 1, none⟩ = some (.int .i64 x.status) ∧ w'.cell? ⟨w.heap.size, 2, none⟩ = some (.int .i64 x.stamp) ∧ w'.cell? ⟨w.heap.size, 3, none⟩ = some (.int .i64 x.load) ∧ w'.cell? ⟨w.heap.size, 4, none⟩ = some (.bool x.drain)) (go_keep) ((go_at_call 14; refine (pick_any _ _ _ (by omega) (by omega)).mono ?_; rintro e w' ⟨rfl, rfl⟩))
    all_goals go_wp2
    all_goals go_meet
    all_goals (case rel => exact ⟨rfl, rfl⟩)
  obtain ⟨rfl, rfl⟩ := hcut
  go_wp2_with (first | (go_at_call 14; refine (pick_any _ _ _ (by omega) (by omega)).mono ?_; rintro e w' ⟨rfl, rfl⟩) | (go_at_call 54; refine (may_any _ _).mono ?_; rintro e w' ⟨rfl, rfl⟩))
  · have h : entryOf x = ⟨pick x.inc 4, pick x.status 3, may x.stamp, pick x.load 12, x.drain⟩ := by
      have h1 : pick x.inc 19 = 18 := by simpa using (show (pick x.inc 19 == 18) = true by assumption)
      simp [entryOf, h1]
    rw [h]
    exact bodyPost_ret (v := (⟨pick x.inc 4, pick x.status 3, may x.stamp, pick x.load 12, x.drain⟩ : Entry).val) (by simp [results, Try.results37, go_sem, Entry.val]) rfl ⟨rfl, by (repeat (first | with_reducible exact Below.refl _ _ | with_reducible refine Below.drew ?_ | with_reducible refine Below.alloc ?_ (by simp <;> omega) _ | with_reducible refine Below.setCell ?_ (by simp <;> omega) _))⟩
  · have h : entryOf x = ⟨pick x.inc 4, pick x.status 3, pick x.stamp 5, pick x.load 12, x.drain⟩ := by
      have h1 : ¬ pick x.inc 19 = 18 := by simpa using (show (pick x.inc 19 == 18) = false by assumption)
      simp [entryOf, h1]
    rw [h]
    exact bodyPost_ret (v := (⟨pick x.inc 4, pick x.status 3, pick x.stamp 5, pick x.load 12, x.drain⟩ : Entry).val) (by simp [results, Try.results37, go_sem, Entry.val]) rfl ⟨rfl, by (repeat (first | with_reducible exact Below.refl _ _ | with_reducible refine Below.drew ?_ | with_reducible refine Below.alloc ?_ (by simp <;> omega) _ | with_reducible refine Below.setCell ?_ (by simp <;> omega) _))⟩

theorem table_succ (xs : List Entry) (k : Nat) (h : k < xs.length) : tableOf xs (k + 1) = tableOf xs k ++ [entryOf xs[k]] := by
  unfold tableOf
  rw [List.take_succ_eq_append_getElem h, List.map_append]
  rfl
def TableMade (w : World) (l : List Entry) (e : Ending) (w' : World) : Prop :=
  ∃ A c, e = .returned (.slice A l.length c) ∧ l.length ≤ c ∧ c ≤ maxLen ∧ (A = none → c = 0) ∧ Fresh w.heap.size w' 39 A (l.flatMap Entry.cells) ∧ Below w.heap.size w w'
set_option maxRecDepth 100000 in
set_option maxHeartbeats 2000000 in
theorem table_any (I : Nat → Prop) (A : Option Addr) (c : Nat) (xs : List Entry) (n : Nat) (w : World) (hC : kE.C I w A xs) (hn : n ≤ 10) :
    Calls Try.prog 17 #[.slice A xs.length c, .int .i64 n] w (TableMade w (tableOf xs n)) := by
  have HC := Lib.hid hC
  clear hC
  go_enter Try.func17, Try.ntmps17
  go_wp2
  go_loopw [5, 6] (fun v i wr => ∃ k : Nat, k ≤ n ∧ k ≤ xs.length ∧ i = .int .i64 k ∧ kE.Own 39 (fun _ => True) wr w.heap.size v (tableOf xs k) ∧ Below w.heap.size w wr) (fun _ i _ => xs.length - (intOf i).toNat)
  case atStart => exact ⟨0, Nat.zero_le _, Nat.zero_le _, rfl, Kd.Own_nil, Below.refl _ _⟩
  case round =>
    obtain ⟨k, hk, hkx, rfl, hown, hb⟩ := hrel
    have hlen : (tableOf xs k).length = k := by simp [tableOf, hkx]
    have HL := Lib.hid hlen
    have HSZ := Lib.hid hb.size
    have HO := Lib.hid hown
    have HBB := Lib.hid hb
    clear hlen hown hb
    by_cases hlt : k < xs.length
    · obtain ⟨b, f, rfl, hI, hbl, x0, x1, x2, x3, x4⟩ := ent_at (Kd.C_below HC.out HBB.out) k hlt
      have HS := Lib.hid (table_succ xs k hlt)
      obtain ⟨x, hx1⟩ : ∃ x, x = xs[k] := ⟨_, rfl⟩
      rw [← hx1] at x0 x1 x2 x3 x4
      have HX := Lib.hid hx1
      clear hx1 hI
      by_cases hkn : k < n
      · go_wp2_with (first
          | (go_at_call 37; refine (entry_any x _).mono ?_; rintro e w1 ⟨rfl, hb1⟩; unfold Entry.val; have HO1 := Lib.hid (Kd.Own_below HO.out hb1); have HB1 := Lib.hid (HBB.out.trans (hb1.mono HSZ.out)))
          | (at_builtin; refine wpList_app1 (w0 := w) rfl _ _ 34 rfl kE rfl (fun _ => True) w.heap.size 39 Entry.zero.val 40 Try.underlying34 (by kernel_rfl) rfl (by decide) _ (tableOf xs k) rfl HO1.out trivial (entryOf x) _ rfl _ rfl (by simp) (by have := HL.out; rw [this]; unfold room; omega) HB1.out.size HB1.out ?_; intro v' w2 hown' hb' _))
        go_roundw
        case rel => exact ⟨k + 1, by omega, by omega, by go_num, by rw [HS.out, ← HX.out]; exact hown', hb'⟩
        case measure => simp [intOf]; omega
      · have hkn' : k = n := by omega
        subst hkn'
        obtain ⟨A', c', rfl, h1, h2, h3, h4⟩ := Own_fresh HO.out
        go_wp2
        go_ret
        exact ⟨A', c', rfl, h1, h2, h3, h4, HBB.out⟩
    · have hkn' : k = xs.length := by omega
      have e : tableOf xs n = tableOf xs k := by unfold tableOf; rw [List.take_of_length_le (by omega), List.take_of_length_le (by omega)]
      have E := Lib.hid e
      clear e
      obtain ⟨A', c', rfl, h1, h2, h3, h4⟩ := Own_fresh HO.out
      go_wp2
      go_ret
      rw [E.out]
      exact ⟨A', c', rfl, h1, h2, h3, h4, HBB.out⟩

theorem pw_drewN {B : Nat} {w W : World} (h : Below B w W) (n : Nat) : Below B w (W.drewN n) := ⟨h.os, h.tape, h.output, h.size, h.block⟩
/-- Two lists of entries that are alike. -/
theorem same13_any (I J : Nat → Prop) (A B : Option Addr) (c c' : Nat) (xs ys : List Entry) (w : World) (hC : kE.C I w A xs) (hD : kE.C J w B ys) (hx : xs.length ≤ maxLen) (hy : ys.length ≤ maxLen) :
    Calls Try.prog 19 #[.slice A xs.length c, .slice B ys.length c'] w fun e w' => e = .returned (.bool (decide (xs = ys))) ∧ Below w.heap.size w w' := by
  unfold maxLen at hx hy
  have HC := Lib.hid hC
  have HD := Lib.hid hD
  clear hC hD
  go_enter Try.func19, Try.ntmps19
  go_wp2
  · have hne : xs ≠ ys := by rintro rfl; simp_all
    go_ret
    exact ⟨ret_bool (by simp [hne]), Below.refl _ _⟩
  · have hl : xs.length = ys.length := by have h9 := (show ((xs.length : Int) != (ys.length : Int)) = false by assumption); simp at h9; omega
    have HL := Lib.hid hl
    clear hl
    go_loopw [13] (fun i wr => ∃ k : Nat, k ≤ xs.length ∧ i = .int .i64 k ∧ Hid (xs.take k = ys.take k) ∧ Below w.heap.size w wr) (fun i _ => xs.length - (intOf i).toNat)
    case atStart => exact ⟨0, Nat.zero_le _, rfl, Lib.hid (by simp), Below.refl _ _⟩
    case round =>
      obtain ⟨k, hk, rfl, HT, hb⟩ := hrel
      by_cases hlt : k < xs.length
      · have hlt2 : k < ys.length := by rw [← HL.out]; exact hlt
        obtain ⟨b, f, rfl, hI, hbl, x0, x1, x2, x3, x4⟩ := ent_at (Kd.C_below HC.out hb) k hlt
        obtain ⟨b', f', rfl, hI', hbl', y0, y1, y2, y3, y4⟩ := ent_at (Kd.C_below HD.out hb) k hlt2
        have HS1 := Lib.hid (List.take_succ_eq_append_getElem hlt)
        have HS2 := Lib.hid (List.take_succ_eq_append_getElem hlt2)
        obtain ⟨x, hx1⟩ : ∃ x, x = xs[k] := ⟨_, rfl⟩
        obtain ⟨y, hy1⟩ : ∃ y, y = ys[k] := ⟨_, rfl⟩
        rw [← hx1] at x0 x1 x2 x3 x4
        rw [← hy1] at y0 y1 y2 y3 y4
        have HX := Lib.hid hx1
        have HY := Lib.hid hy1
        clear hx1 hy1
        go_wp2
        have hneq := fun W => neq_entry x y W
        simp only [Entry.val] at hneq
        go_quiet (fail)
        go_wp2
        · have h9 : ¬ x = y := by simpa using (show (!decide (x = y)) = true by assumption)
          have hne : xs ≠ ys := by rintro rfl; exact h9 (HX.out.trans HY.out.symm)
          go_ret
          exact ⟨ret_bool (by simp [hne]), pw_drewN hb _⟩
        · have h9 : x = y := by simpa using (show (!decide (x = y)) = false by assumption)
          go_roundw
          case rel => exact ⟨k + 1, by omega, by go_num, Lib.hid (by rw [HS1.out, HS2.out, HT.out, ← HX.out, ← HY.out, h9]), pw_drewN hb _⟩
          case measure => simp [intOf]; omega
      · go_wp2
        go_ret
        have hk' : k = xs.length := by omega
        subst hk'
        have e : xs = ys := by have := HT.out; rw [List.take_length, HL.out, List.take_length] at this; exact this
        exact ⟨ret_bool (by simp [e]), hb⟩
end Go.Proofs.Ytmonbigaldamfaa
