/- The view: contracts of Table, Here, Entry, New. -/
import Derived.Test.YtmonbigaldamfaaV2
namespace Go.Proofs.Ytmonbigaldamfaa
open Go.RowKit Go.Osm

theorem flat_one {α : Type} (f : α → Value) (xs : List α) : xs.flatMap (fun x => [f x]) = xs.map f := by
  induction xs with
  | nil => rfl
  | cons x xs ih => simp [ih]
theorem made_flat {α : Type} (cells : α → List Value) (sz : Nat) (len : ∀ x, (cells x).length = sz) (hs : 0 < sz) (x0 : α) (n : Nat) : madeCells (cells x0).toArray (n * sz) = ((List.replicate n x0).flatMap cells).toArray := by
  apply Array.ext
  · rw [size_madeCells, List.size_toArray, flat_len cells sz len]; simp
  · intro i h1 h2
    rw [size_madeCells] at h1
    have hm : i % sz < sz := Nat.mod_lt _ hs
    have hk : i / sz < n := Nat.div_lt_of_lt_mul (by rw [Nat.mul_comm]; exact h1)
    have hg := flat_get cells sz len (List.replicate n x0) (i / sz) (by rw [List.length_replicate]; exact hk) (i % sz) hm
    rw [show i / sz * sz + i % sz = i by have := Nat.div_add_mod i sz; rw [Nat.mul_comm] at this; omega] at hg
    simp only [List.getElem_replicate] at hg
    have hl : i % sz < (cells x0).length := by rw [len]; exact hm
    rw [List.getElem?_eq_getElem hl] at hg
    have h3 : ((List.replicate n x0).flatMap cells).toArray[i] = (cells x0)[i % sz] := by
      have := (List.getElem?_eq_some_iff.1 hg).2
      simpa using this
    rw [h3]
    simp only [madeCells, Array.getElem_map, Array.getElem_range, List.size_toArray, len]
    simp [hl]
theorem run_mk {P : Program} {α : Type} (cells : α → List Value) (sz : Nat) (len : ∀ x, (cells x).length = sz) (hs : 0 < sz) (x0 : α) (t e : TypeId) (z : Value) (bytes : Nat) (ht : P.underlying t = some (.slice e)) (hi : (P.info? e).map (fun i => (i.zero, i.size, i.bytes)) = some (some z, sz, bytes)) (hz : z.cells = (cells x0).toArray) (n : Nat) (hn : n * bytes ≤ 281474976710656) (hb : 0 < bytes) (W : World) :
    (Instr.makeSlice t (.int .i64 n) (.int .i64 n)).run P W = .ok (.slice (some ⟨W.heap.size, 0, none⟩) n n) (W.alloc (.cells ((List.replicate n x0).flatMap cells).toArray e)) := by
  obtain ⟨i0, hi0, hzz⟩ := Option.map_eq_some_iff.1 hi
  simp only [Prod.mk.injEq] at hzz
  obtain ⟨hz0, hz1, hz2⟩ := hzz
  have hn' : n ≤ 281474976710656 := Nat.le_trans (Nat.le_mul_of_pos_right _ hb) hn
  have h9 : (i0.bytes : Int) * n ≤ 281474976710656 := by
    have h8 : ((n * bytes : Nat) : Int) ≤ 281474976710656 := by omega
    rw [Int.natCast_mul] at h8
    rw [hz2, Int.mul_comm]
    exact h8
  have := run_make (P := P) W t e i0 z ht hi0 hz0 .i64 .i64 n n (by omega) (Int.le_refl _) h9 (by omega)
  rw [this, hz, hz1]
  simp only [Int.toNat_natCast]
  rw [made_flat cells sz len hs]
/-- The table lies as a slice of entries. -/
theorem tab_S {w : World} {g gs gt : Nat} {V : View} (h : VA w g gs gt V) : kE.S (fun _ => True) w (.slice (some ⟨gt, 0, none⟩) V.tab.length V.tab.length) V.tab :=
  ⟨_, _, rfl, Nat.le_refl _, by have := h.small; unfold maxLen; omega, (by intro h; cases h),
    Fresh.C (base := 0) (.inr ⟨gt, _, rfl, Nat.zero_le _, h.bt, by rw [ents]; exact List.take_length⟩) (fun _ _ _ => trivial)⟩

theorem view_table (V : View) (g gs gt : Nat) (w : World) (hV : VA w g gs gt V) :
    Calls Try.prog 18 #[.pointer (some ⟨g, 0, none⟩)] w fun e w' => ∃ A, e = .returned (.slice A V.tab.length V.tab.length) ∧ Fresh w.heap.size w' 39 A (V.tab.flatMap Entry.cells) ∧ Below w.heap.size w w' := by
  obtain ⟨c0, c1, c2, c3, c4, c5⟩ := hV.c; have f0 := hV.f; have f1 := hV.fs; have f2 := hV.ft; have hs := hV.small; have lg := blk_lt hV.blk; have ls := blk_lt hV.bs; have lt := blk_lt hV.bt; have n1 : g ≠ gs := blk_ne hV.blk hV.bs (by decide); have n2 : g ≠ gt := blk_ne hV.blk hV.bt (by decide); have n3 : gs ≠ gt := blk_ne hV.bs hV.bt (by decide)
  have hS := Lib.hid (tab_S hV)
  have hr : V.tab.length * 40 ≤ room := by unfold room; omega
  have HR := Lib.hid hr
  clear hr
  go_enter Try.func18, Try.ntmps18
  go_wp2_with (first
    | (go_at_call 39; refine (clone_E (fun _ => True) _ V.tab _ hS.out HR.out).mono ?_; rintro e w1 ⟨v1, rfl, hown, hb⟩; obtain ⟨A, c, rfl, hc1, hc2, hc3, hF⟩ := Own_fresh hown)
    | (go_at_call 38; refine (clip_E (fun _ => True) _ V.tab _ (Kd.Own_S hown (fun _ _ _ => trivial))).mono ?_; rintro e w2 ⟨A', c', hv', rfl, rfl⟩; injection hv' with hA hn hc; subst hA))
  go_ret
  exact ⟨_, rfl, hF, hb⟩

set_option maxHeartbeats 1000000 in
theorem view_here (V : View) (g gs gt : Nat) (w : World) (hV : VA w g gs gt V) :
    Calls Try.prog 20 #[.pointer (some ⟨g, 0, none⟩)] w fun e w' => ∃ A, e = .returned (.slice A V.here.length V.here.length) ∧ Fresh w.heap.size w' 3 A (V.here.map (Value.int .i64)) ∧ Below w.heap.size w w' := by
  obtain ⟨c0, c1, c2, c3, c4, c5⟩ := hV.c; have f0 := hV.f; have f1 := hV.fs; have f2 := hV.ft; have hs := hV.small; have lg := blk_lt hV.blk; have ls := blk_lt hV.bs; have lt := blk_lt hV.bt; have n1 : g ≠ gs := blk_ne hV.blk hV.bs (by decide); have n2 : g ≠ gt := blk_ne hV.blk hV.bt (by decide); have n3 : gs ≠ gt := blk_ne hV.bs hV.bt (by decide)
  have HV := Lib.hid hV
  go_enter Try.func20, Try.ntmps20
  go_wp2
  clear hV c0 c1 c2 c3 c4 c5 f0 f1 f2 lg ls lt
  go_loopw [3, 11] (fun v i wr => ∃ k : Nat, k ≤ V.tab.length ∧ i = .int .i64 k ∧ kI.Own 3 (fun _ => True) wr w.heap.size v (V.hereTo k) ∧ Below w.heap.size w wr) (fun _ i _ => V.tab.length - (intOf i).toNat)
  case atStart => exact ⟨0, Nat.zero_le _, rfl, Kd.Own_nil, Below.refl _ _⟩
  case round =>
    obtain ⟨k, hk, rfl, hown, hb⟩ := hrel
    have hV := HV.out.below hb
    by_cases hlt : k < V.tab.length
    · obtain ⟨e0, e1, e2, e3, e4⟩ := hV.ct k hlt
      have lt := blk_lt hV.bt
      have HS := Lib.hid (View.hereTo_succ V k)
      have hl := View.hereTo_len V k
      have HL : Hid ((V.hereTo k).length + 1 ≤ 6) := Lib.hid (by omega)
      have HSZ := Lib.hid hb.size
      have HO := Lib.hid hown
      have HBB := Lib.hid hb
      have hV' := Lib.hid hV
      clear hl hown hb hV
      go_wp2_with (at_builtin; refine wpList_app1 (w0 := w) rfl _ _ 41 rfl kI rfl (fun _ => True) w.heap.size 3 (.int .i64 0) 8 Try.underlying41 (by kernel_rfl) rfl (by decide) _ (V.hereTo k) rfl (Kd.Own_alloc HO.out _) trivial (k : Int) _ rfl _ rfl (by simp) (by have := HL.out; unfold room; omega) (by have := HSZ.out; simp; omega) (HBB.out.alloc HSZ.out _) ?_; intro v' w1 hown' hb' _)
      · go_roundw
        case rel => exact ⟨k + 1, by omega, by go_num, by rw [HS.out, if_pos (by assumption)]; exact hown', hb'⟩
        case measure => simp [intOf]; omega
      · go_roundw
        case rel => exact ⟨k + 1, by omega, by go_num, by rw [HS.out, if_neg (by simp_all)]; exact Kd.Own_alloc HO.out _, HBB.out.alloc HSZ.out _⟩
        case measure => simp [intOf]; omega
    · have hkn : k = V.tab.length := by omega
      subst hkn
      obtain ⟨A, c, rfl, hc1, hc2, hc3, hF⟩ := Own_fresh hown
      go_wp2_with (go_at_call 40; refine (clip_I (fun _ => True) _ V.here _ (Kd.Own_S hown (fun _ _ _ => trivial))).mono ?_; rintro e w2 ⟨A', c', hv', rfl, rfl⟩; injection hv' with hA hn hc; subst hA)
      go_ret
      exact ⟨_, rfl, by rw [← flat_one]; exact hF, hb⟩
theorem view_entry (V : View) (g gs gt : Nat) (w : World) (hV : VA w g gs gt V) (k : Int) :
    Calls Try.prog 21 #[.pointer (some ⟨g, 0, none⟩), .int .i64 k] w fun e w' => e = .returned (if 0 ≤ k ∧ k < V.tab.length then V.at k.toNat else Entry.zero).val ∧ Below w.heap.size w w' := by
  obtain ⟨c0, c1, c2, c3, c4, c5⟩ := hV.c; have f0 := hV.f; have f1 := hV.fs; have f2 := hV.ft; have hs := hV.small; have lg := blk_lt hV.blk; have ls := blk_lt hV.bs; have lt := blk_lt hV.bt; have n1 : g ≠ gs := blk_ne hV.blk hV.bs (by decide); have n2 : g ≠ gt := blk_ne hV.blk hV.bt (by decide); have n3 : gs ≠ gt := blk_ne hV.bs hV.bt (by decide)
  by_cases hk : 0 ≤ k ∧ k < V.tab.length
  · obtain ⟨kn, rfl⟩ : ∃ kn : Nat, k = kn := ⟨k.toNat, by omega⟩
    have hkl : kn < V.tab.length := by omega
    obtain ⟨e0, e1, e2, e3, e4⟩ := hV.ct kn hkl
    rw [if_pos hk]
    clear hk
    go_enter Try.func21, Try.ntmps21
    go_wp2
    exact bodyPost_ret (v := (V.at kn).val) (by simp [results, Try.results21, go_sem, Entry.val]) rfl ⟨rfl, by (repeat (first | with_reducible exact Below.refl _ _ | with_reducible refine Below.drew ?_ | with_reducible refine Below.alloc ?_ (by simp <;> omega) _ | with_reducible refine Below.setCell ?_ (by simp <;> omega) _))⟩
  · rw [if_neg hk]
    go_enter Try.func21, Try.ntmps21
    go_wp2
    all_goals exact bodyPost_ret (v := Entry.zero.val) (by simp [results, Try.results21, go_sem, Entry.val, Entry.zero]) rfl ⟨rfl, by (repeat (first | with_reducible exact Below.refl _ _ | with_reducible refine Below.drew ?_ | with_reducible refine Below.alloc ?_ (by simp <;> omega) _ | with_reducible refine Below.setCell ?_ (by simp <;> omega) _))⟩

def ViewMade (w : World) (V : View) (e : Ending) (w' : World) : Prop :=
  ∃ g gs gt, e = .returned (.pointer (some ⟨g, 0, none⟩)) ∧ VA w' g gs gt V ∧ w.heap.size ≤ g ∧ w.heap.size ≤ gs ∧ w.heap.size ≤ gt ∧ Below w.heap.size w w'
set_option maxHeartbeats 1000000 in
theorem view_new (me hosts inc : Int) (w : World) :
    Calls Try.prog 12 #[.int .i64 me, .int .i64 hosts, .int .i64 inc] w (ViewMade w (View.new me hosts inc)) := by
  obtain ⟨n, hn⟩ : ∃ n : Nat, (n : Int) = max 1 (min hosts 5) := ⟨(max 1 (min hosts 5)).toNat, by omega⟩
  obtain ⟨m, hm⟩ : ∃ m : Nat, (m : Int) = max 0 (min me (n - 1)) := ⟨(max 0 (min me (n - 1))).toNat, by omega⟩
  go_enter Try.func12, Try.ntmps12
  go_upto_region 1 with fail
  go_cut [1] (fun s1 wx => s1 = .int .i64 n ∧ w = wx)
  case first =>
    go_wp2
    all_goals go_meet
    all_goals (case rel => exact ⟨by congr 1; omega, rfl⟩)
  obtain ⟨rfl, rfl⟩ := hcut
  have hn0 : (1 : Int) ≤ n := by omega
  have hn5 : (n : Int) ≤ 5 := by omega
  have HN := Lib.hid hn
  clear hn
  go_upto_region 2 with fail
  go_cut [0] (fun s0 wx => s0 = .int .i64 m ∧ w = wx)
  case first =>
    go_wp2
    all_goals go_meet
    all_goals (case rel => exact ⟨by congr 1; omega, rfl⟩)
  obtain ⟨rfl, rfl⟩ := hcut
  have hmn : (m : Int) < n := by omega
  have HM := Lib.hid hm
  clear hm
  have mk1 : ∀ W : World, (Instr.makeSlice 41 (.int .i64 (n : Int)) (.int .i64 (n : Int))).run Try.prog W = .ok (.slice (some ⟨W.heap.size, 0, none⟩) n n) (W.alloc (.cells ((List.replicate n (0 : Int)).flatMap fun x => [Value.int .i64 x]).toArray 3)) :=
    run_mk (fun x => [Value.int .i64 x]) 1 (fun _ => rfl) (by decide) 0 41 3 (.int .i64 0) 8 Try.underlying41 (by kernel_rfl) rfl n (by omega) (by decide)
  have mk2 : ∀ W : World, (Instr.makeSlice 34 (.int .i64 (n : Int)) (.int .i64 (n : Int))).run Try.prog W = .ok (.slice (some ⟨W.heap.size, 0, none⟩) n n) (W.alloc (.cells (ents (List.replicate n Entry.zero)) 39)) :=
    run_mk Entry.cells 5 Entry.cells_len (by decide) Entry.zero 34 39 Entry.zero.val 40 Try.underlying34 (by kernel_rfl) rfl n (by omega) (by decide)
  go_upto_region 3 with fail
  go_cut [7] (fun s7 wx => ∃ g gs gt, s7 = .pointer (some ⟨g, 0, none⟩) ∧ VA wx g gs gt { me := m, last := m, probed := -1, since := 0, susp := List.replicate n 0, tab := List.replicate n Entry.zero } ∧ w.heap.size ≤ g ∧ w.heap.size ≤ gs ∧ w.heap.size ≤ gt ∧ Below w.heap.size w wx)
  case first =>
    go_region
    all_goals go_wp2
    all_goals go_meet
    · case rel => exact ⟨w.heap.size + 1 + 1, w.heap.size, w.heap.size + 1, rfl, ⟨(by simp only [List.length_replicate]; exact blk_drew (new_at (by simp))), blk_drew (blk_alloc (blk_alloc (by rw [flat_one]; exact new_at rfl) _) _), blk_drew (blk_alloc (new_at (by simp)) _), by simp, by simpa using (by omega : n ≤ 5)⟩, by omega, by omega, by omega, by (repeat (first | with_reducible exact Below.refl _ _ | with_reducible refine Below.drew ?_ | with_reducible refine Below.alloc ?_ (by simp <;> omega) _ | with_reducible refine Below.setCell ?_ (by simp <;> omega) _))⟩
    · case rel => exact ⟨w.heap.size + 1 + 1, w.heap.size + 1, w.heap.size, rfl, ⟨(by simp only [List.length_replicate]; exact blk_drew (new_at (by simp))), blk_drew (blk_alloc (by rw [flat_one]; exact new_at (by simp)) _), blk_drew (blk_alloc (blk_alloc (new_at rfl) _) _), by simp, by simpa using (by omega : n ≤ 5)⟩, by omega, by omega, by omega, by (repeat (first | with_reducible exact Below.refl _ _ | with_reducible refine Below.drew ?_ | with_reducible refine Below.alloc ?_ (by simp <;> omega) _ | with_reducible refine Below.setCell ?_ (by simp <;> omega) _))⟩
  obtain ⟨g, gs, gt, rfl, hV, hg, hgs, hgt, hb⟩ := hcut
  have hml : m < (List.replicate n Entry.zero).length := by rw [List.length_replicate]; omega
  obtain ⟨c0, c1, c2, c3, c4, c5⟩ := hV.c
  simp only [List.length_replicate] at c4 c5
  have f2 := hV.ft
  have lg := blk_lt hV.blk
  have lt := blk_lt hV.bt
  have n2 : g ≠ gt := blk_ne hV.blk hV.bt (by decide)
  have n3 : gs ≠ gt := blk_ne hV.bs hV.bt (by decide)
  obtain ⟨e0, e1, e2, e3, e4⟩ := hV.ct m hml
  have h1 := Lib.hid (hV.tab_cell n2 n3 m hml 0 (by omega) (.int .i64 inc) { Entry.zero with inc := inc } (by simp [Entry.cells, Entry.zero]))
  go_wp2
  go_ret
  refine ⟨g, gs, gt, rfl, ?_, hg, hgs, hgt, hb.setCell hgt _⟩
  have e : View.new me hosts inc = { me := m, last := m, probed := -1, since := 0, susp := List.replicate n 0, tab := (List.replicate n Entry.zero).set m { Entry.zero with inc := inc } } := by
    have a := HN.out
    have b := HM.out
    unfold View.new
    simp only [← a, ← b, Int.toNat_natCast]
  rw [e]
  exact h1.out
end Go.Proofs.Ytmonbigaldamfaa
