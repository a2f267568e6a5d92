/- Operations: parts, loads, stores, new blocks. -/
import Derived.Test.YtihcpmebabkagaaGreatAb5
set_option linter.unusedSimpArgs false
set_option linter.unusedVariables false
namespace Go.Ab
section
variable {P : Program} {ρ : Ren} {V : Nat → Prop} {H H' : Hp} {w : World}

theorem isAgg_run {t : TypeId} {b : Bool} (h : isAgg' P t = some b) (w : World) : (isAgg t).run P w = .ok b w := by
  unfold isAgg' at h
  unfold isAgg
  cases hu : P.underlying t with
  | none => rw [hu] at h; cases h
  | some d =>
    rw [hu] at h
    simp only [Sem.run_bind, run_underlying hu, Result.andThen_ok]
    cases d <;> simp at h <;> subst h <;> rfl
theorem sizeOf_run {t : TypeId} {i : TypeInfo} (h : P.info? t = some i) (w : World) : (sizeOf t).run P w = .ok i.size w := by
  unfold sizeOf typeInfo
  simp [h]
theorem typeInfo_run {t : TypeId} {i : TypeInfo} (h : P.info? t = some i) (w : World) : (typeInfo t).run P w = .ok i w := by
  unfold typeInfo
  simp [h]
theorem zeroValue_run {t : TypeId} {i : TypeInfo} {z : Value} (h : P.info? t = some i) (hz : i.zero = some z) (w : World) : (zeroValue t).run P w = .ok z w := by
  unfold zeroValue
  simp [typeInfo_run h, hz]
theorem mem_extract {α : Type} {cs : Array α} {a b : Nat} {x : α} (h : x ∈ cs.extract a b) : x ∈ cs := by
  rw [Array.mem_def, Array.toList_extract, List.extract_eq_take_drop] at h
  exact Array.mem_def.2 (List.mem_of_mem_drop (List.mem_of_mem_take h))
theorem map_extract {α β : Type} (f : α → β) (cs : Array α) (a b : Nat) : (cs.extract a b).map f = (cs.map f).extract a b := by
  apply Array.ext'
  simp [List.extract_eq_take_drop]
theorem part_sound {t : TypeId} {cs : Array Value} {off : Nat} {v : Value} (h : part' P t cs off = some v) (hb : ∀ x ∈ cs, Bd1 V x) (w : World) :
    (part t (cs.map (ren1 ρ)) off).run P w = .ok (ren ρ v) w ∧ Bd V v := by
  unfold part' at h
  unfold part
  have hagg : ∀ i : TypeInfo, P.info? t = some i → isAgg' P t = some true → v = .agg (cs.extract off (off + i.size)) →
      (do if (← isAgg t) then pure (.agg ((cs.map (ren1 ρ)).extract off (off + (← sizeOf t)))) else match (cs.map (ren1 ρ))[off]? with | some v => pure v | none => stuck "part: no such cell" : Sem Value).run P w = .ok (ren ρ v) w ∧ Bd V v := by
    intro i hi ha hv
    subst hv
    refine ⟨?_, fun x hx => hb x (mem_extract hx)⟩
    simp only [Sem.run_bind, isAgg_run ha, Result.andThen_ok, if_true, sizeOf_run hi, Sem.run_pure, ren, ren2, map_extract]
  have hone : isAgg' P t = some false → (match cs[off]? with | some v => if one v then some v else none | none => none) = some v →
      (do if (← isAgg t) then pure (.agg ((cs.map (ren1 ρ)).extract off (off + (← sizeOf t)))) else match (cs.map (ren1 ρ))[off]? with | some v => pure v | none => stuck "part: no such cell" : Sem Value).run P w = .ok (ren ρ v) w ∧ Bd V v := by
    intro ha hv
    cases hc : cs[off]? with
    | none => rw [hc] at hv; cases hv
    | some u =>
      rw [hc] at hv
      simp only at hv
      split at hv
      · rename_i h1
        injection hv with hv
        subst hv
        have hB := hb u (Array.mem_of_getElem? hc)
        refine ⟨?_, ?_⟩
        · simp only [Sem.run_bind, isAgg_run ha, Result.andThen_ok, Bool.false_eq_true, if_false, Array.getElem?_map, hc, Option.map_some, Sem.run_pure, ren_one h1]
        · cases u
          case agg cs => simp [one] at h1
          case tuple cs => simp [one] at h1
          all_goals exact hB
      · cases hv
  cases hu : P.underlying t with
  | none => rw [hu] at h; cases h
  | some d =>
    rw [hu] at h
    cases d
    case struct fs =>
      simp only [Option.map_eq_some_iff] at h
      obtain ⟨i, hi, h⟩ := h
      exact hagg i hi (by unfold isAgg'; rw [hu]) h.symm
    case array n e =>
      simp only [Option.map_eq_some_iff] at h
      obtain ⟨i, hi, h⟩ := h
      exact hagg i hi (by unfold isAgg'; rw [hu]) h.symm
    all_goals exact hone (by unfold isAgg'; rw [hu]) h
theorem ren_ptr (ρ : Ren) (b o : Nat) : ren ρ (.pointer (some ⟨b, o, none⟩)) = .pointer (some ⟨ρ.β b, ρ.δ b + o, none⟩) := rfl
theorem load_sound (hS : Sim ρ V H w) {t : TypeId} {a v : Value} (h : loadAt' P H t a = some v) :
    (Instr.loadAt t (ren ρ a)).run P w = .ok (ren ρ v) w ∧ Bd V v := by
  unfold loadAt' at h
  split at h
  · rename_i b o
    split at h
    · rename_i cs z hg
      obtain ⟨hv, hC, hB⟩ := hS.get hg
      unfold Instr.loadAt Instr.sureAddr loadVar
      rw [ren_ptr]
      simp only
      split at h
      · rename_i ha
        simp only [Option.bind_eq_bind, Option.bind_eq_some_iff] at h
        obtain ⟨i, hi, h⟩ := h
        split at h
        · rename_i hle
          injection h with h
          subst h
          refine ⟨?_, fun x hx => (hB x (mem_extract hx)).bd⟩
          have hl : ((cs.extract o (o + i.size)).toList.map (ren1 ρ)).length = i.size := by simp; omega
          have hr := run_loadCells_list (P := P) w ⟨ρ.β b, ρ.δ b + o, none⟩ ((cs.extract o (o + i.size)).toList.map (ren1 ρ)) (fun j u hu => by
            rw [List.getElem?_map, Option.map_eq_some_iff] at hu
            obtain ⟨x, hx, rfl⟩ := hu
            rw [add_mk, Nat.add_assoc]
            refine hC.cell (o + j) x ?_
            rw [Array.getElem?_toList, Array.getElem?_extract] at hx
            split at hx
            · exact hx
            · cases hx)
          rw [hl] at hr
          simp only [Sem.run_bind, Sem.run_pure, Result.andThen_ok, isAgg_run ha, if_true, sizeOf_run hi, hr, ren, ren2]
          congr 2
          apply Array.ext'
          simp
        · cases h
      · rename_i ha
        cases hc : cs[o]? with
        | none => rw [hc] at h; cases h
        | some u =>
          rw [hc] at h
          simp only at h
          split at h
          · rename_i h1
            injection h with h
            subst h
            have hcell := hC.cell o u hc
            refine ⟨?_, ?_⟩
            · simp only [Sem.run_bind, Sem.run_pure, Result.andThen_ok, isAgg_run ha, Bool.false_eq_true, if_false, run_load, hcell, ren_one h1]
            · have hB' := (hB u (Array.mem_of_getElem? hc)).bd
              cases u
              case agg cs => simp [one] at h1
              case tuple cs => simp [one] at h1
              all_goals exact hB'
          · cases h
      · cases h
    · cases h
  · cases h
theorem ren_cells_size {v : Value} (h : v.cells.all one = true) : (ren ρ v).cells.size = v.cells.size := by rw [cells_one h]; simp
theorem all_mem {p : Value → Bool} {cs : Array Value} (h : cs.all p = true) : ∀ v ∈ cs.toList, p v = true := by
  intro v hv
  simp only [Array.all_eq_true] at h
  obtain ⟨i, hi, rfl⟩ := Array.mem_iff_getElem.1 (Array.mem_def.2 hv)
  exact h i hi
theorem store_sound (hS : Sim ρ V H w) {t : TypeId} {a v : Value} (h : storeAt' P H t v a = some H') (hb : Bd V v) :
    Grew H H' ∧ ∃ w', (Instr.storeAt t (ren ρ a) (ren ρ v)).run P w = .ok () w' ∧ Post ρ V H w ρ H' w' := by
  unfold storeAt' at h
  split at h
  · rename_i b o
    split at h
    · rename_i cs z hg
      simp only [Option.bind_eq_bind, Option.bind_eq_some_iff] at h
      obtain ⟨i, hi, h⟩ := h
      split at h
      · rename_i hc
        obtain ⟨h1, h2, h3⟩ := hc
        injection h with h
        subst h
        obtain ⟨hr, hp⟩ := store_cells (P := P) hS (vs := v.cells.toList) (o := o) hg (by simp; omega) (fun u hu => ⟨cells_bd h3 hb u (Array.mem_def.2 hu), all_mem h3 u hu⟩)
        refine ⟨Grew.put hg _, _, ?_, hp⟩
        unfold Instr.storeAt Instr.sureAddr storeVar
        rw [ren_ptr]
        simp only [Sem.run_bind, Sem.run_pure, Result.andThen_ok, sizeOf_run hi, ren_cells_size h3, h1, ne_eq, not_true_eq_false, if_false]
        rw [cells_one h3, Array.toList_map]
        exact hr
      · cases h
    · cases h
  · cases h
/-- A new row, closed. -/
theorem newRow_sound (hS : Sim ρ V H w) {cs : Array Value} (hb : ∀ u ∈ cs, Cl V u) (ty : TypeId) :
    Grew H (H.new (some (.cells cs 0))) ∧ ∃ ρ' w', (newRow ty (cs.map (ren1 ρ))).run P w = .ok ⟨w.heap.size, 0, none⟩ w' ∧ ρ'.β H.size = w.heap.size ∧ ρ'.δ H.size = 0 ∧ Post ρ V H w ρ' (H.new (some (.cells cs 0))) w' := by
  refine ⟨Grew.new _ _, ρ.set H.size w.heap.size 0 0, { w with heap := w.heap.push (.cells (cs.map (ren1 ρ)) ty) }, ?_, by simp [Ren.set], by simp [Ren.set], ?_⟩
  · unfold newRow
    simp
  · refine hS.new (w' := { w with heap := w.heap.push (.cells (cs.map (ren1 ρ)) ty) }) _ rfl (.cells cs 0) 0 (fun c z he => ?_) (fun es ck he => by cases he) rfl rfl rfl
    injection he with e1 e2
    subst e1 e2
    refine ⟨hb, _, ty, (0, 0), rfl, fun j u hu => by rw [Array.getElem?_map, hu]; rfl, by simp, fun j _ h => by omega⟩
end
end Go.Ab
