/- Contracts of the small functions: numbers, entries. -/
import Derived.Test.YtmonbigaldamfaaM
namespace Go.Proofs.Ytmonbigaldamfaa
open Go.RowKit Go.Osm

theorem pick_any (n m : Int) (w : World) (h : 0 < m) (h2 : m ≤ 1000000) :
    Calls Try.prog 14 #[.int .i64 n, .int .i64 m] w fun e w' => e = .returned (.int .i64 (pick n m)) ∧ w' = w := by
  have h3 : n.tmod m < m := Int.tmod_lt_of_pos n h
  have h4 : -m < n.tmod m := by
    have h5 := Int.tmod_lt_of_pos (-n) h
    rw [Int.neg_tmod] at h5
    omega
  go_enter Try.func14, Try.ntmps14
  go_wp2
  all_goals (go_ret; refine ⟨?_, rfl⟩; simp [pick, *])
  omega

theorem num_any (n : Int) (w : World) :
    Calls Try.prog 64 #[.int .i64 n] w fun e w' => e = .returned (.int .i64 (num n)) ∧ w' = w := by
  go_enter Try.func64, Try.ntmps64
  go_wp2_with (go_at_call 14; refine (pick_any _ _ _ (by omega) (by omega)).mono ?_; rintro e w' ⟨rfl, rfl⟩)
  all_goals go_ret
  all_goals (refine ⟨?_, rfl⟩; simp_all [num])

theorem may_any (n : Int) (w : World) :
    Calls Try.prog 54 #[.int .i64 n] w fun e w' => e = .returned (.int .i64 (may n)) ∧ w' = w := by
  go_enter Try.func54, Try.ntmps54
  go_wp2_with (go_at_call 64; refine (num_any _ _).mono ?_; rintro e w' ⟨rfl, rfl⟩)
  all_goals go_ret
  all_goals exact ⟨ret_int (by unfold may; omega), rfl⟩

theorem isNaN_any (n : Int) (w : World) :
    Calls Try.prog 61 #[.int .i64 n] w fun e w' => e = .returned (.bool false) ∧ w' = w := by
  go_enter Try.func61, Try.ntmps61
  go_wp2
  go_ret
  exact ⟨rfl, rfl⟩

theorem compare_any (x y : Int) (w : World) :
    Calls Try.prog 49 #[.int .i64 x, .int .i64 y] w fun e w' => e = .returned (.int .i64 (cmpI x y)) ∧ w' = w := by
  go_enter Try.func49, Try.ntmps49
  go_wp2_with (go_at_call 61; refine (isNaN_any _ _).mono ?_; rintro e w' ⟨rfl, rfl⟩)
  all_goals go_ret
  all_goals (refine ⟨?_, rfl⟩; simp [cmpI, *])
  all_goals omega

theorem bit_any (b : Bool) (w : World) :
    Calls Try.prog 63 #[.bool b] w fun e w' => e = .returned (.int .i64 (bitI b)) ∧ w' = w := by
  go_enter Try.func63, Try.ntmps63
  cases b <;> go_wp2 <;> go_ret <;> exact ⟨rfl, rfl⟩

theorem or_any (I : Nat → Prop) (A : Option Addr) (c : Nat) (xs : List Int) (w : World) (h : kI.C I w A xs) (hl : xs.length ≤ 1000) :
    Calls Try.prog 62 #[.slice A xs.length c] w fun e w' => e = .returned (.int .i64 (orI xs)) ∧ w' = w := by
  go_enter Try.func62, Try.ntmps62
  go_wp2
  go_loop [8] (fun i => ∃ k : Nat, k ≤ xs.length ∧ i = .int .i64 k ∧ orI (xs.drop k) = orI xs) (fun i => xs.length - (intOf i).toNat)
  case atStart => exact ⟨0, Nat.zero_le _, rfl, rfl⟩
  case round =>
    obtain ⟨k, hk, rfl, ho⟩ := hrel
    by_cases hlt : k < xs.length
    · obtain ⟨b, f, rfl, hc⟩ := int_at h k hlt
      have hd := Lib.hid (orI_drop xs k hlt)
      have HO := Lib.hid ho
      clear ho
      go_wp2
      · go_ret
        exact ⟨ret_int (by rw [← HO.out, hd.out]; simp_all), rfl⟩
      · go_round
        case rel => exact ⟨k + 1, by omega, by go_num, by rw [← HO.out, hd.out]; simp_all⟩
        case measure => simp [intOf]; omega
    · go_wp2
      go_ret
      exact ⟨ret_int (by rw [← ho, List.drop_eq_nil_of_le (by omega)]; rfl), rfl⟩

theorem or5_any {W : World} {b : Nat} {x1 x2 x3 x4 x5 : Int} {t : TypeId} {fr : Nat × Nat} (hb : W.heap[b]? = some (.cells #[.int .i64 x1, .int .i64 x2, .int .i64 x3, .int .i64 x4, .int .i64 x5] t fr)) :
    Calls Try.prog 62 #[.slice (some ⟨b, 0, none⟩) 5 5] W fun e w' => e = .returned (.int .i64 (orI [x1, x2, x3, x4, x5])) ∧ w' = W :=
  or_any (fun _ => True) _ _ [x1, x2, x3, x4, x5] W (int_row hb trivial rfl) (by simp)
set_option maxRecDepth 100000 in
set_option maxHeartbeats 2000000 in
theorem compareE_any (a b : Entry) (w : World) :
    Calls Try.prog 53 #[a.val, b.val] w fun e w' => e = .returned (.int .i64 (compareE a b)) ∧ Below w.heap.size w w' := by
  unfold Entry.val
  go_enter Try.func53, Try.ntmps53
  go_wp2
  go_region_held3 (fun w' => w'.cell? ⟨w.heap.size, 0, none⟩ = some (.int .i64 a.inc) ∧ w'.cell? ⟨w.heap.size, 1, none⟩ = some (.int .i64 a.status) ∧ w'.cell? ⟨w.heap.size, 2, none⟩ = some (.int .i64 a.stamp) ∧ w'.cell? ⟨w.heap.size, 3, none⟩ = some (.int .i64 a.load) ∧ w'.cell? ⟨w.heap.size, 4, none⟩ = some (.bool a.drain)
     ∧ w'.cell? ⟨w.heap.size + 1, 0, none⟩ = some (.int .i64 b.inc) ∧ w'.cell? ⟨w.heap.size + 1, 1, none⟩ = some (.int .i64 b.status) ∧ w'.cell? ⟨w.heap.size + 1, 2, none⟩ = some (.int .i64 b.stamp) ∧ w'.cell? ⟨w.heap.size + 1, 3, none⟩ = some (.int .i64 b.load) ∧ w'.cell? ⟨w.heap.size + 1, 4, none⟩ = some (.bool b.drain)) (go_keep)
    (first | (go_at_call 49; refine (compare_any _ _ _).mono ?_; rintro e w' ⟨rfl, rfl⟩) | (go_at_call 63; refine (bit_any _ _).mono ?_; rintro e w' ⟨rfl, rfl⟩) | (go_at_call 62; refine (or5_any (blk_drew (new_at (by simp)))).mono ?_; rintro e w' ⟨rfl, rfl⟩))
  go_wp2
  go_ret
  refine ⟨?_, ?_⟩
  · rfl
  · repeat (first | exact Below.refl _ _ | refine Below.drew ?_ | refine Below.alloc ?_ (by simp <;> omega) _ | refine Below.setCell ?_ (by simp <;> omega) _)

theorem less_any (a b : Entry) (w : World) :
    Calls Try.prog 35 #[a.val, b.val] w fun e w' => e = .returned (.bool (lessE a b)) ∧ Below w.heap.size w w' := by
  unfold Entry.val
  go_enter Try.func35, Try.ntmps35
  go_wp2_with (go_at_call 53; refine (compareE_any a b _).mono ?_; rintro e w1 ⟨rfl, hb⟩)
  go_ret
  refine ⟨rfl, Below.trans ?_ (hb.mono (by simp <;> omega))⟩
  (repeat (first | with_reducible exact Below.refl _ _ | with_reducible refine Below.drew ?_ | with_reducible refine Below.alloc ?_ (by simp <;> omega) _ | with_reducible refine Below.setCell ?_ (by simp <;> omega) _))

end Go.Proofs.Ytmonbigaldamfaa
