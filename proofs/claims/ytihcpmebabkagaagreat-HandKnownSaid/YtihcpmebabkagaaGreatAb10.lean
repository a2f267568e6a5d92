/- Operations: copy, clear, make, what is built. -/
import Derived.Test.YtihcpmebabkagaaGreatAb9
set_option linter.unusedSimpArgs false
set_option linter.unusedVariables false
namespace Go.Ab
section
variable {P : Program} {ρ : Ren} {V : Nat → Prop} {H H' : Hp} {w w' : World}

theorem copy_sound (hS : Sim ρ V H w) {at' : Array TypeId} {t ty : TypeId} {d x v : Value} (ht : at'[0]? = some t) (h : copy' P H t d x = some (v, H')) :
    Grew H H' ∧ ∃ w', (Builtin.copy_ at' ty #[ren ρ d, ren ρ x]).run P w = .ok (ren ρ v) w' ∧ Bd (grow V H.size H'.size) v ∧ Post ρ V H w ρ H' w' := by
  unfold copy' at h
  split at h
  · rename_i elem base n cap hu
    split at h
    · rename_i i m hi hm
      split at h
      · rename_i news hnews
        obtain ⟨n1, n2, n3⟩ := rowOf_sound (P := P) hS hnews
        have e : ren ρ (.slice base n cap) = .slice (base.map ρ.addr) n (ρ.cap base cap) := rfl
        have hl := len_sound (P := P) (ρ := ρ) hm w
        have e0 : (#[ren ρ (.slice base n cap), ren ρ x] : Array Value)[0]? = some (ren ρ (.slice base n cap)) := rfl
        have e1 : (#[ren ρ (.slice base n cap), ren ρ x] : Array Value)[1]? = some (ren ρ x) := rfl
        have hgo : ∀ k, ren ρ (goInt k) = goInt k := fun _ => rfl
        have hmin : Nat.min m n = min m n := rfl
        unfold Builtin.copy_
        rw [ht, e0, e1]
        simp only [Sem.run_bind, underlying_run hu, Result.andThen_ok, e, hl, sizeOf_run hi, hmin, n1]
        split at h
        · rename_i h0
          injection h with h
          injection h with hv hH
          subst hv hH
          have hnil : news = #[] := Array.eq_empty_of_size_eq_zero (by rw [n2, h0])
          subst hnil
          refine ⟨Grew.refl _, w, ?_, trivial, Post.refl hS⟩
          cases base <;> simp [storeCells, hgo]
        · split at h
          · rename_i b o
            split at h
            · rename_i cs z hg
              split at h
              · rename_i hle
                injection h with h
                injection h with hv hH
                subst hv hH
                obtain ⟨r1, r2⟩ := store_cells (P := P) hS (vs := news.toList) (o := o) hg (by rw [Array.length_toList, n2]; exact hle) (fun u hu => n3 u (Array.mem_def.2 hu))
                refine ⟨Grew.put hg _, _, ?_, trivial, r2⟩
                simp only [Option.map_some, addr_mk, Array.toList_map, Sem.run_bind, r1, Result.andThen_ok, Sem.run_pure, hgo]
              · cases h
            · cases h
          · cases h
      · cases h
    · cases h
  · cases h
theorem zeroCells_flat {z : Array Value} (h : z.all flat0 = true) (n : Nat) : (∀ u ∈ Builtin.zeroCells z n, flat0 u = true) := by
  intro u hu
  unfold Builtin.zeroCells at hu
  obtain ⟨i, hi, rfl⟩ := Array.mem_map.1 hu
  have hi' : i < n * z.size := by simpa using hi
  have hz : 0 < z.size := by
    rcases Nat.eq_zero_or_pos z.size with h0 | h0
    · rw [h0] at hi'; omega
    · exact h0
  have hlt : i % z.size < z.size := Nat.mod_lt _ hz
  simp only [Array.all_eq_true] at h
  rw [getElem!_pos z (i % z.size) hlt]
  exact h _ hlt
theorem clear_sound (hS : Sim ρ V H w) {at' : Array TypeId} {t ty : TypeId} {x v : Value} {as : Array Value} (ht : at'[0]? = some t) (hx : as[0]? = some (ren ρ x)) (h : clear' P H t x = some (v, H')) :
    Grew H H' ∧ ∃ w', (Builtin.clear_ at' ty as).run P w = .ok (ren ρ v) w' ∧ Bd (grow V H.size H'.size) v ∧ Post ρ V H w ρ H' w' := by
  unfold clear' at h
  split at h
  · rename_i elem b o n c hu
    split at h
    · rename_i i hi
      split at h
      · rename_i z hz
        split at h
        · rename_i cs k hg
          split at h
          · rename_i hc
            obtain ⟨h1, h2, h3⟩ := hc
            injection h with h
            injection h with hv hH
            subst hv hH
            have hf := zeroCells_flat h3 (n + 1)
            obtain ⟨r1, r2⟩ := store_cells (P := P) hS (vs := (Builtin.zeroCells z.cells (n + 1)).toList) (o := o) hg (by rw [Array.length_toList, zeroCells_size, h2]; exact h1) (fun u hu => Cl_flat (hf u (Array.mem_def.2 hu)))
            refine ⟨Grew.put hg _, _, ?_, fun x hx => by simp at hx, r2⟩
            have e : ren ρ (.slice (some ⟨b, o, none⟩) (n + 1) c) = .slice (some ⟨ρ.β b, ρ.δ b + o, none⟩) (n + 1) (ρ.cap (some ⟨b, o, none⟩) c) := rfl
            have em : (Builtin.zeroCells z.cells (n + 1)).toList.map (ren1 ρ) = (Builtin.zeroCells z.cells (n + 1)).toList := by
              conv => rhs; rw [← List.map_id (Builtin.zeroCells z.cells (n + 1)).toList]
              exact List.map_congr_left fun u hu => ren1_flat (hf u (Array.mem_def.2 hu))
            rw [em] at r1
            unfold Builtin.clear_
            rw [ht, hx, e]
            simp only [Sem.run_bind, underlying_run hu, Result.andThen_ok, zeroValue_run hi hz, r1, Sem.run_pure]
            rw [em]
            simp [ren]
          · cases h
        · cases h
      · cases h
    · cases h
  · rename_i elem a c hu
    injection h with h
    injection h with hv hH
    subst hv hH
    refine ⟨Grew.refl _, w, ?_, fun x hx => by simp at hx, Post.refl hS⟩
    have e : ren ρ (.slice a 0 c) = .slice (a.map ρ.addr) 0 (ρ.cap a c) := rfl
    unfold Builtin.clear_
    rw [ht, hx, e]
    cases a <;> simp [underlying_run hu, ren, ren2]
  · cases h
theorem range_flat {z : Array Value} (h : z.all flat0 = true) (k n : Nat) (hk : n = k * z.size) : ∀ u ∈ (Array.range n).map (z[· % z.size]!), flat0 u = true := by
  intro u hu
  exact zeroCells_flat h k u (by rw [hk] at hu; exact hu)
theorem makeSlice_sound (hS : Sim ρ V H w) {t : TypeId} {l c v : Value} (h : makeSlice' P H t l c = some (v, H')) :
    Grew H H' ∧ ∃ ρ' w', (Instr.makeSlice t (ren ρ l) (ren ρ c)).run P w = .ok (ren ρ' v) w' ∧ Bd (grow V H.size H'.size) v ∧ Post ρ V H w ρ' H' w' := by
  unfold makeSlice' at h
  split at h
  · rename_i elem k1 l k2 c hu
    split at h
    · rename_i i hi
      split at h
      · rename_i z hz
        split at h
        · rename_i hc
          obtain ⟨h0, h1, h2, h3, h4⟩ := hc
          injection h with h
          injection h with hv hH
          subst hv hH
          have hflat : ∀ u ∈ (Array.range (c.toNat * i.size)).map (z.cells[· % z.cells.size]!), flat0 u = true := by
            intro u hu
            obtain ⟨j, hj, rfl⟩ := Array.mem_map.1 hu
            by_cases hz0 : 0 < z.cells.size
            · have hlt : j % z.cells.size < z.cells.size := Nat.mod_lt _ hz0
              simp only [Array.all_eq_true] at h4
              rw [getElem!_pos z.cells (j % z.cells.size) hlt]
              exact h4 _ hlt
            · have : z.cells = #[] := Array.eq_empty_of_size_eq_zero (by omega)
              rw [this]
              rfl
          obtain ⟨hg, ρ', w', r1, r2, r3, r4⟩ := newRow_sound (P := P) hS (fun u hu => Cl_flat (hflat u hu)) elem
          rw [amap_id fun u hu => ren1_flat (hflat u hu)] at r1
          refine ⟨hg, ρ', w', ?_, .inr ⟨Nat.le_refl _, Nat.lt_succ_self _⟩, r4⟩
          have e1 : ∀ k n, ren ρ (.int k n) = .int k n := fun _ _ => rfl
          have hw1 : IntKind.i64.wrap l = l := Go.wrap_small _ (by omega) (by omega)
          have hw2 : IntKind.i64.wrap c = c := Go.wrap_small _ (by omega) (by omega)
          unfold Instr.makeSlice
          rw [e1, e1]
          simp only [Sem.run_bind, underlying_run hu, Result.andThen_ok, asInt, asIntOf, Sem.run_pure, typeInfo_run hi, hw1, hw2]
          rw [if_neg (by simp; omega)]
          simp only [Sem.run_bind, run_askRoom, Result.andThen_ok, sizeOf_run hi]
          have hr : ∀ zs : Array Value, (c.toNat * i.size = 0 ∨ zs = z.cells) → (newRow elem ((Array.range (c.toNat * i.size)).map (zs[· % zs.size]!))).run P w = .ok ⟨w.heap.size, 0, none⟩ w' := by
            rintro zs (h9 | rfl)
            · have e0 : ∀ f : Nat → Value, (Array.range 0).map f = #[] := fun f => by simp
              rw [h9, e0] at r1 ⊢; exact r1
            · exact r1
          have hgoal : ∀ r, r = Result.ok (Value.slice (some ⟨w.heap.size, 0, none⟩) l.toNat c.toNat) w' → r = Result.ok (ren ρ' (.slice (some ⟨H.size, 0, none⟩) l.toNat c.toNat)) w' := by
            rintro r rfl
            congr 1
            show _ = Value.slice (some (ρ'.addr ⟨H.size, 0, none⟩)) _ (ρ'.cap _ _)
            rw [addr_mk, r2, r3, cap_closed ρ' _ (by unfold big; omega)]
          refine hgoal _ ?_
          by_cases h9 : c.toNat * i.size = 0
          · rw [if_pos h9]
            simp only [Sem.run_bind, Sem.run_pure, Result.andThen_ok, hr #[] (.inl h9)]
          · rw [if_neg h9]
            simp only [Sem.run_bind, Sem.run_pure, Result.andThen_ok, zeroValue_run hi hz, hr z.cells (.inr rfl)]
        · cases h
      · cases h
    · cases h
  · cases h
end
end Go.Ab
