/- Contracts of the library's functions on slices. -/
import Derived.Test.YtmonbigaldamfaaA
namespace Go.Proofs.Ytmonbigaldamfaa
open Go.RowKit Go.Osm

theorem clone_E (I : Nat → Prop) (v : Value) (xs : List Entry) (w : World) (h : kE.S I w v xs) (hb : xs.length * 40 ≤ room) :
    Calls Try.prog 39 #[v] w fun e w' => ∃ v', e = .returned v' ∧ kE.Own 39 I w' w.heap.size v' xs ∧ Below w.heap.size w w' := by
  obtain ⟨A, c, rfl, hl, hm, h0, hC⟩ := h
  cases A with
  | none =>
    obtain rfl : c = 0 := h0 rfl
    obtain rfl : xs = [] := List.eq_nil_of_length_eq_zero (by omega)
    clear hb hm hl hC
    have hnil : ∀ W : World, (binOp .eql 34 (.slice none 0 0) (.slice none 0 0)).run Try.prog W = .ok (.bool true) W := fun W => Lib.run_eql_slice_nil W _ _ none 0 0 0 0 Try.underlying34
    go_enter Try.func39, Try.ntmps39
    go_wp2
    go_ret
    exact ⟨_, rfl, Kd.Own_nil, Below.refl _ _⟩
  | some ad =>
    have hC' : kE.C (fun i => I i ∧ some i ≠ (Value.slice (some ⟨w.heap.size, 0, none⟩) 0 0).ownBlock) (w.alloc (.cells #[] 39)) (some ad) xs :=
      Kd.C_move hC fun i hi hl => ⟨Below.heap_alloc _ _ _ hl, hi, by intro he; injection he with he; simp at he; omega⟩
    have hO : kE.Own 39 I (w.alloc (.cells #[] 39)) w.heap.size (.slice (some ⟨w.heap.size, 0, none⟩) 0 0) [] := ⟨[], World.ownsRow_made w #[] 0 (Nat.le_refl _) (Nat.zero_le _) (by simp), Reps.nil _ _⟩
    have HO := Lib.hid hO
    have HC := Lib.hid hC'
    have HB := Lib.hid hb
    have H0 := Lib.hid h0
    clear hO hC' hC hb hm hl h0
    have hnil : ∀ W : World, (binOp .eql 34 (.slice (some ad) xs.length c) (.slice none 0 0)).run Try.prog W = .ok (.bool false) W := fun W => Lib.run_eql_slice_nil W _ _ (some ad) _ _ 0 0 Try.underlying34
    go_enter Try.func39, Try.ntmps39
    go_wp2_with (at_builtin; refine wpList_app rfl _ _ 34 rfl kE I w.heap.size 39 (Entry.zero.val) 40 Try.underlying34 (by kernel_rfl) rfl (by decide) _ [] rfl HO.out _ _ xs rfl H0.out HC.out (by simpa using HB.out) (by simp) ?_; intro v' w1 hown hg _)
    go_ret
    exact ⟨_, rfl, hown, ((Below.refl _ _).alloc (Nat.le_refl _) _).grown hg (by simp) (by rintro k ⟨⟩; exact Nat.le_refl _)⟩

theorem clip_E (I : Nat → Prop) (v : Value) (xs : List Entry) (w : World) (h : kE.S I w v xs) :
    Calls Try.prog 38 #[v] w fun e w' => ∃ A c, v = .slice A xs.length c ∧ e = .returned (.slice A xs.length xs.length) ∧ w' = w := by
  obtain ⟨A, c, rfl, hl, hm, h0, hC⟩ := h
  unfold maxLen at hm
  go_enter Try.func38, Try.ntmps38
  go_wp2
  go_ret
  exact ⟨_, _, rfl, rfl, rfl⟩

theorem clone_I (I : Nat → Prop) (v : Value) (xs : List Int) (w : World) (h : kI.S I w v xs) (hb : xs.length * 8 ≤ room) :
    Calls Try.prog 42 #[v] w fun e w' => ∃ v', e = .returned v' ∧ kI.Own 3 I w' w.heap.size v' xs ∧ Below w.heap.size w w' := by
  obtain ⟨A, c, rfl, hl, hm, h0, hC⟩ := h
  cases A with
  | none =>
    obtain rfl : c = 0 := h0 rfl
    obtain rfl : xs = [] := List.eq_nil_of_length_eq_zero (by omega)
    clear hb hm hl hC
    have hnil : ∀ W : World, (binOp .eql 41 (.slice none 0 0) (.slice none 0 0)).run Try.prog W = .ok (.bool true) W := fun W => Lib.run_eql_slice_nil W _ _ none 0 0 0 0 Try.underlying41
    go_enter Try.func42, Try.ntmps42
    go_wp2
    go_ret
    exact ⟨_, rfl, Kd.Own_nil, Below.refl _ _⟩
  | some ad =>
    have hC' : kI.C (fun i => I i ∧ some i ≠ (Value.slice (some ⟨w.heap.size, 0, none⟩) 0 0).ownBlock) (w.alloc (.cells #[] 3)) (some ad) xs :=
      Kd.C_move hC fun i hi hl => ⟨Below.heap_alloc _ _ _ hl, hi, by intro he; injection he with he; simp at he; omega⟩
    have hO : kI.Own 3 I (w.alloc (.cells #[] 3)) w.heap.size (.slice (some ⟨w.heap.size, 0, none⟩) 0 0) [] := ⟨[], World.ownsRow_made w #[] 0 (Nat.le_refl _) (Nat.zero_le _) (by simp), Reps.nil _ _⟩
    have HO := Lib.hid hO
    have HC := Lib.hid hC'
    have HB := Lib.hid hb
    have H0 := Lib.hid h0
    clear hO hC' hC hb hm hl h0
    have hnil : ∀ W : World, (binOp .eql 41 (.slice (some ad) xs.length c) (.slice none 0 0)).run Try.prog W = .ok (.bool false) W := fun W => Lib.run_eql_slice_nil W _ _ (some ad) _ _ 0 0 Try.underlying41
    go_enter Try.func42, Try.ntmps42
    go_wp2_with (at_builtin; refine wpList_app rfl _ _ 41 rfl kI I w.heap.size 3 (.int .i64 0) 8 Try.underlying41 (by kernel_rfl) rfl (by decide) _ [] rfl HO.out _ _ xs rfl H0.out HC.out (by simpa using HB.out) (by simp) ?_; intro v' w1 hown hg _)
    go_ret
    exact ⟨_, rfl, hown, ((Below.refl _ _).alloc (Nat.le_refl _) _).grown hg (by simp) (by rintro k ⟨⟩; exact Nat.le_refl _)⟩

theorem clip_I (I : Nat → Prop) (v : Value) (xs : List Int) (w : World) (h : kI.S I w v xs) :
    Calls Try.prog 40 #[v] w fun e w' => ∃ A c, v = .slice A xs.length c ∧ e = .returned (.slice A xs.length xs.length) ∧ w' = w := by
  obtain ⟨A, c, rfl, hl, hm, h0, hC⟩ := h
  unfold maxLen at hm
  go_enter Try.func40, Try.ntmps40
  go_wp2
  go_ret
  exact ⟨_, _, rfl, rfl, rfl⟩

end Go.Proofs.Ytmonbigaldamfaa
