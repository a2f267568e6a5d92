/- Operations: what is built, conversions. -/
import Derived.Test.YtihcpmebabkagaaGreatAb10
set_option linter.unusedSimpArgs false
set_option linter.unusedVariables false
namespace Go.Ab
section
variable {P : Program} {ρ : Ren} {V : Nat → Prop} {H H' : Hp} {w w' : World}

theorem sizes_run (w : World) : ∀ (l : List Field) (r : List (Nat × Nat)), sizes P l = some r → (l.mapM fun f => (do pure (f.offset, ← sizeOf f.type) : Sem (Nat × Nat))).run P w = .ok r w
  | [], r, h => by simp only [sizes, Option.some.injEq] at h; subst h; simp
  | f :: l, r, h => by
    simp only [sizes] at h
    split at h
    · rename_i i r' hi hr
      injection h with h
      subst h
      have ih := sizes_run w l r' hr
      simp only [List.mapM_cons, Sem.run_bind, sizeOf_run hi, Result.andThen_ok, Sem.run_pure, ih]
    · cases h
theorem all_ps {ps : List (Nat × Value)} (h : ps.all (fun p => p.2.cells.all one) = true) : ∀ p ∈ ps, p.2.cells.all one = true := by simpa [List.all_eq_true] using h
theorem build_sound {t : TypeId} {ps : List (Nat × Value)} {v : Value} (h : build' P t ps = some v) (hb : ∀ p ∈ ps, Bd V p.2) (w : World) :
    (Instr.build t (ps.map fun p => (p.1, ren ρ p.2)).toArray).run P w = .ok (ren ρ v) w ∧ Bd V v := by
  unfold build' at h
  split at h
  · rename_i z hz
    obtain ⟨i, hi, hz⟩ := Option.bind_eq_some_iff.1 hz
    split at h
    · rename_i hc
      simp only [Bool.and_eq_true] at hc
      obtain ⟨h1, h2⟩ := hc
      obtain ⟨f1, f2⟩ := flat_cells (ρ := ρ) (V := V) h1
      unfold Instr.build
      split at h
      · rename_i fields hu
        split at h
        · rename_i places hp
          simp only [Option.map_eq_some_iff] at h
          obtain ⟨cs, hcs, rfl⟩ := h
          obtain ⟨g1, g2⟩ := fill_sound (ρ := ρ) ps z.cells cs (all_ps h2) hb f2 hcs
          rw [f1] at g1
          have hm : (fields.mapM fun f => (do pure (f.offset, ← sizeOf f.type) : Sem (Nat × Nat))).run P w = .ok places.toArray w := by
            rw [Array.mapM_eq_mapM_toList]
            simp only [Sem.run_map, sizes_run w _ _ hp, Result.andThen_ok]
          refine ⟨?_, fun x hx => (g2 x hx).bd⟩
          have ea : ren ρ (.agg cs) = .agg (cs.map (ren1 ρ)) := rfl
          rw [ea]
          simp only [Sem.run_bind, zeroValue_run hi hz, underlying_run hu, Result.andThen_ok]
          rw [hm]
          simp only [Result.andThen_ok, g1, Sem.run_pure]
        · cases h
      · rename_i n elem hu
        split at h
        · rename_i s hs
          simp only [Option.map_eq_some_iff] at h
          obtain ⟨cs, hcs, rfl⟩ := h
          obtain ⟨g1, g2⟩ := fill_sound (ρ := ρ) ps z.cells cs (all_ps h2) hb f2 hcs
          rw [f1] at g1
          refine ⟨?_, fun x hx => (g2 x hx).bd⟩
          have ea : ren ρ (.agg cs) = .agg (cs.map (ren1 ρ)) := rfl
          rw [ea]
          simp only [Sem.run_bind, zeroValue_run hi hz, underlying_run hu, Result.andThen_ok, sizeOf_run hs, g1, Sem.run_pure]
        · cases h
      · cases h
    · cases h
  · cases h
theorem ren_row (ρ' : Ren) {n b m c : Nat} (h1 : ρ'.β n = b) (h2 : ρ'.δ n = 0) (hc : c < big) : ren ρ' (.slice (some ⟨n, 0, none⟩) m c) = .slice (some ⟨b, 0, none⟩) m c := by
  show Value.slice (some (ρ'.addr ⟨n, 0, none⟩)) _ (ρ'.cap _ _) = _
  rw [addr_mk, h1, h2, cap_closed ρ' _ hc]
theorem buildSlice_sound (hS : Sim ρ V H w) {t : TypeId} {len : Nat} {ps : List (Nat × Value)} {v : Value} (h : buildSlice' P H t len ps = some (v, H')) (hb : ∀ p ∈ ps, Bd V p.2) :
    Grew H H' ∧ ∃ ρ' w', (Instr.buildSlice t len (ps.map fun p => (p.1, ren ρ p.2)).toArray).run P w = .ok (ren ρ' v) w' ∧ Bd (grow V H.size H'.size) v ∧ Post ρ V H w ρ' H' w' := by
  unfold buildSlice' at h
  split at h
  · rename_i elem hu
    split at h
    · rename_i i hi
      split at h
      · rename_i z hz
        split at h
        · rename_i hc
          simp only [Bool.and_eq_true, decide_eq_true_eq] at hc
          obtain ⟨⟨⟨h1, h2⟩, h3⟩, h4⟩ := hc
          split at h
          · rename_i cs hcs
            injection h with h
            injection h with hv hH
            subst hv hH
            have hflat : ∀ u ∈ (Array.range (len * i.size)).map (z.cells[· % z.cells.size]!), flat0 u = true := by
              intro u hu
              obtain ⟨j, hj, rfl⟩ := Array.mem_map.1 hu
              by_cases hz0 : 0 < z.cells.size
              · have hlt : j % z.cells.size < z.cells.size := Nat.mod_lt _ hz0
                simp only [Array.all_eq_true] at h1
                rw [getElem!_pos z.cells (j % z.cells.size) hlt]
                exact h1 _ hlt
              · have : z.cells = #[] := Array.eq_empty_of_size_eq_zero (by omega)
                rw [this]
                rfl
            obtain ⟨g1, g2⟩ := fill_sound (ρ := ρ) (V := V) ps _ cs (all_ps h2) hb (fun u hu => Cl_flat (hflat u hu)) hcs
            rw [amap_id fun u hu => ren1_flat (hflat u hu)] at g1
            obtain ⟨hg, ρ', w', r1, r2, r3, r4⟩ := newRow_sound (P := P) hS g2 elem
            refine ⟨hg, ρ', w', ?_, .inr ⟨Nat.le_refl _, Nat.lt_succ_self _⟩, r4⟩
            rw [ren_row ρ' r2 r3 h4]
            unfold Instr.buildSlice
            simp only [Sem.run_bind, underlying_run hu, Result.andThen_ok, sizeOf_run hi]
            rw [if_neg (by omega)]
            by_cases h9 : len * i.size = 0
            · rw [if_pos h9]
              simp only [Sem.run_bind, Sem.run_pure, Result.andThen_ok]
              have e0 : ∀ f : Nat → Value, (Array.range 0).map f = #[] := fun f => by simp
              rw [h9, e0] at g1 ⊢
              simp only [g1, Sem.run_bind, r1, Result.andThen_ok, Sem.run_pure]
            · rw [if_neg h9]
              simp only [Sem.run_bind, Sem.run_pure, Result.andThen_ok, zeroValue_run hi hz, g1, r1]
          · cases h
        · cases h
      · cases h
    · cases h
  · cases h
theorem alloc_sound (hS : Sim ρ V H w) {elem : TypeId} {z : Value} (hz : (P.info? elem).bind (·.zero) = some z) (hf : z.cells.all flat0 = true) :
    ∃ ρ' w', (Instr.alloc elem true (.tuple #[])).run P w = .ok (ren ρ' (.pointer (some ⟨H.size, 0, none⟩))) w' ∧ Post ρ V H w ρ' (H.new (some (.cells z.cells 0))) w' := by
  obtain ⟨i, hi, hz⟩ := Option.bind_eq_some_iff.1 hz
  obtain ⟨f1, f2⟩ := flat_cells (ρ := ρ) (V := V) hf
  obtain ⟨hg, ρ', w', r1, r2, r3, r4⟩ := newRow_sound (P := P) hS f2 elem
  rw [f1] at r1
  refine ⟨ρ', w', ?_, r4⟩
  unfold Instr.alloc newVar
  rw [ren_ptr, r2, r3]
  simp only [Sem.run_bind, zeroValue_run hi hz, Result.andThen_ok, r1, Sem.run_pure]
theorem box_sound (hS : Sim ρ V H w) {elem : TypeId} {x : Value} (hf : x.cells.all one = true) (hb : Bd V x) :
    ∃ ρ' w', (Instr.box elem (ren ρ x)).run P w = .ok (ren ρ' (.pointer (some ⟨H.size, 0, none⟩))) w' ∧ Post ρ V H w ρ' (H.new (some (.cells x.cells 0))) w' := by
  obtain ⟨hg, ρ', w', r1, r2, r3, r4⟩ := newRow_sound (P := P) hS (cs := x.cells) (fun u hu => ⟨cells_bd hf hb u hu, all_mem hf u (Array.mem_def.1 hu)⟩) elem
  refine ⟨ρ', w', ?_, r4⟩
  unfold Instr.box newVar
  rw [ren_ptr, r2, r3, cells_one hf]
  simp only [Sem.run_bind, Result.andThen_ok, r1, Sem.run_pure]
theorem makeMap_sound (hS : Sim ρ V H w) {t : TypeId} {r : Option Value} {kd ed : TypeId} (hu : P.underlying t = some (.map kd ed)) (hr : ∀ x, r = some x → ∃ k n, x = .int k n) :
    ∃ ρ' w', (Instr.makeMap t (r.map (ren ρ))).run P w = .ok (ren ρ' (.map (some H.size))) w' ∧ Post ρ V H w ρ' (H.new (some (.map #[] 0))) w' := by
  refine ⟨ρ.set H.size w.heap.size 0 0, { w with heap := w.heap.push (.map #[] 0) }, ?_, ?_⟩
  · have e : ren (ρ.set H.size w.heap.size 0 0) (.map (some H.size)) = .map (some w.heap.size) := by simp [ren, ren2, ren1, ren0, Ren.set]
    rw [e]
    unfold Instr.makeMap
    cases r with
    | none => simp
    | some x =>
      obtain ⟨k, n, rfl⟩ := hr x rfl
      have e1 : ren ρ (.int k n) = .int k n := rfl
      simp [e1, underlying_run hu, asInt, asIntOf]
  · exact hS.new (w' := { w with heap := w.heap.push (.map #[] 0) }) _ rfl (.map #[] 0) 0 (fun c z he => by cases he) (fun es ck he => by injection he with e1 e2; subst e1 e2; exact ⟨by simp, fun e he => by simp at he⟩) rfl rfl rfl
theorem push_modify {α : Type} (xs : Array α) (a : α) (f : α → α) : (xs.push a).modify xs.size f = xs.push (f a) := by
  apply Array.ext_getElem?
  intro i
  rw [Array.getElem?_modify, Array.getElem?_push, Array.getElem?_push]
  by_cases h : xs.size = i
  · subst h; simp
  · rw [if_neg h, if_neg (fun h' => h h'.symm), if_neg (fun h' => h h'.symm)]
theorem u8s_get : ∀ (l : List Value) (xs : List Int), u8s l = some xs → l = xs.map (Value.int .u8)
  | [], xs, h => by simp only [u8s, Option.some.injEq] at h; subst h; rfl
  | v :: l, xs, h => by
    unfold u8s at h
    split at h
    · rename_i he; cases he
    · rename_i n l' he
      injection he with e1 e2
      subst e1 e2
      simp only [Option.map_eq_some_iff] at h
      obtain ⟨ys, hy, rfl⟩ := h
      rw [List.map_cons, ← u8s_get l ys hy]
    · cases h
theorem conv_sound (hS : Sim ρ V H w) {src dst : TypeId} {x v : Value} (h : conv' P H src dst x = some (some (v, H'))) :
    Grew H H' ∧ ∃ ρ' w', (convert src dst (ren ρ x)).run P w = .ok (ren ρ' v) w' ∧ Bd (grow V H.size H'.size) v ∧ Post ρ V H w ρ' H' w' := by
  unfold conv' at h
  split at h
  · rename_i e s hs hd
    split at h
    · rename_i he
      injection h with h
      injection h with h
      injection h with hv hH
      subst hv hH
      obtain ⟨nc, hnc⟩ : ∃ nc, nc = (Question.appendCap s.size 0 e).cut (w.tape w.drawn (.appendCap s.size 0 e)) := ⟨_, rfl⟩
      have hncle : s.size ≤ nc := by rw [hnc]; simp [Question.cut]
      have hf : ∀ u ∈ s.data.map fun b => Value.int .u8 b.toNat, flat0 u = true := by
        intro u hu
        obtain ⟨b, _, rfl⟩ := Array.mem_map.1 hu
        rfl
      have hsz : (s.data.map fun b => Value.int .u8 b.toNat).size = s.size := by rw [Array.size_map]; rfl
      have hp := newOpen_sound (w := w) hS (cs := s.data.map fun b => Value.int .u8 b.toNat) (fun u hu => Cl_flat (hf u hu)) e (Array.replicate (nc - s.size) (.int .u8 0)) (nc - s.size) 1 (by simp) (nc, nc + 1) (.inl (by rw [hsz]; omega)) (w.drawn + 1)
      rw [amap_id fun u hu => ren1_flat (hf u hu)] at hp
      refine ⟨Grew.new _ _, _, _, ?_, .inr ⟨Nat.le_refl _, Nat.lt_succ_self _⟩, hp⟩
      rw [ren_new_open, Nat.add_sub_cancel' hncle]
      have e1 : ren ρ (.string s) = .string s := rfl
      rw [e1]
      unfold convert
      simp only [Sem.run_bind, underlying_run hs, underlying_run hd, underlying_run he, Result.andThen_ok]
      unfold Conv.stringToBytes
      simp only [Sem.run_bind, run_choose, Question.forced, Bool.false_eq_true, if_false, Result.andThen_ok, newRow, run_newObj, Sem.run_pure, ← hnc]
      unfold markStringish
      have hshape : World.shape? { w with heap := w.heap.push (.cells ((s.data.map fun b => Value.int .u8 b.toNat) ++ Array.replicate (nc - s.size) (.int .u8 0)) e), drawn := w.drawn + 1 } w.heap.size = some (e, nc) := by
        simp only [World.shape?, Array.getElem?_push_size]
        congr 2
        rw [Array.size_append, hsz, Array.size_replicate]; omega
      simp only [Sem.run_bind, run_shape, Result.andThen_ok]
      rw [hshape]
      simp only [run_freeze, Result.andThen_ok, Sem.run_pure]
      unfold World.freeze
      rw [if_neg (by decide)]
      simp only
      rw [push_modify]
      simp
    · cases h
  · rename_i e b o n c hs hd
    split at h
    · rename_i he
      split at h
      · rename_i cs hcs
        split at h
        · rename_i xs hxs
          injection h with h
          injection h with h
          injection h with hv hH
          subst hv hH
          obtain ⟨r1, r2, r3⟩ := rowOf_sound (P := P) hS hcs
          have hl := u8s_get _ _ hxs
          have hlen : xs.length = n := by have := congrArg List.length hl; rw [Array.length_toList, r2, List.length_map] at this; omega
          refine ⟨Grew.refl _, ρ, w, ?_, trivial, Post.refl hS⟩
          have e1 : ren ρ (.slice (some ⟨b, o, none⟩) n c) = .slice (some ⟨ρ.β b, ρ.δ b + o, none⟩) n (ρ.cap (some ⟨b, o, none⟩) c) := rfl
          rw [e1]
          refine run_convert_bytes_arg w src e hs he _ _ n _ xs hlen (fun j hj => ?_) dst hd
          unfold rowOf at hcs
          simp only at hcs
          rw [if_neg (by omega)] at hcs
          split at hcs
          · rename_i cs0 z hg
            split at hcs
            · rename_i hle
              injection hcs with hcs
              subst hcs
              obtain ⟨hv, hC, hB⟩ := hS.get hg
              have hj2 : (cs0.extract o (o + n * 1)).toList[j]? = some (.int .u8 (xs.getD j 0)) := by
                rw [hl, List.getElem?_map, List.getD_eq_getElem?_getD, List.getElem?_eq_getElem (by omega)]; rfl
              rw [Array.getElem?_toList, Array.getElem?_extract] at hj2
              split at hj2
              · have := hC.cell (o + j) _ hj2
                rw [← Nat.add_assoc] at this
                exact this
              · cases hj2
            · cases hcs
          · cases hcs
        · cases h
      · cases h
    · cases h
  · cases h
  · injection h with h; cases h
end
end Go.Ab
