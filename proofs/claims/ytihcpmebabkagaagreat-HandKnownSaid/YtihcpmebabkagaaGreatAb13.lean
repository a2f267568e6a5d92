/- Operations: writing maps, comparing with nil. -/
import Derived.Test.YtihcpmebabkagaaGreatAb12
set_option linter.unusedSimpArgs false
set_option linter.unusedVariables false
namespace Go.Ab
section
variable {P : Program} {ρ : Ren} {V : Nat → Prop} {H H' : Hp} {w w' : World}

theorem eraseIdx_map' {α β : Type} (f : α → β) : ∀ (l : List α) (i : Nat), (l.map f).eraseIdx i = (l.eraseIdx i).map f
  | [], i => rfl
  | x :: l, 0 => rfl
  | x :: l, i + 1 => by simp [List.eraseIdx_cons_succ, eraseIdx_map' f l i]
theorem putMap_sound (hS : Sim ρ V H w) {r : Nat} {es es' : Array MapEntry} {ck ck' : Nat} (hg : H.get r = some (.map es ck)) (hb : ∀ e ∈ es', Bd2 V e.val ∧ flat e.key = true) :
    (setObj (ρ.β r) (.map (es'.map (renE ρ)) ck')).run P w = .ok () { w with heap := w.heap.setIfInBounds (ρ.β r) (.map (es'.map (renE ρ)) ck') } ∧
      Post ρ V H w ρ (H.put r (some (.map es' ck'))) { w with heap := w.heap.setIfInBounds (ρ.β r) (.map (es'.map (renE ρ)) ck') } := by
  obtain ⟨hv, h1, h2⟩ := hS.getM hg
  have hlt := (Array.getElem?_eq_some_iff.1 h1).1
  refine ⟨setObj_run h1 _, hS.put hg (fun c hc => ?_) (by simp) (fun cs z he => by cases he) (fun es2 ck2 he => ?_) rfl rfl rfl⟩
  · simp only [Array.getElem?_setIfInBounds_ne (fun h => hc h.symm)]
  · injection he with e1 e2
    subst e1 e2
    exact ⟨by simp [hlt], hb⟩
theorem ren_one2 {v : Value} (h : one2 v = true) : ren ρ v = ren2 ρ v := by
  cases v
  case tuple vs => simp [one2, one] at h
  all_goals rfl
theorem bd_one2 {v : Value} (h : one2 v = true) (hb : Bd V v) : Bd2 V v := by
  cases v
  case tuple vs => simp [one2, one] at h
  all_goals exact hb
theorem mapUpdate_sound (hS : Sim ρ V H w) {t : TypeId} {m k v : Value} (h : mapUpdate' P H t m k v = some H') (hb : Bd V v) :
    Grew H H' ∧ ∃ w', (Instr.mapUpdate t (ren ρ m) (ren ρ k) (ren ρ v)).run P w = .ok () w' ∧ Post ρ V H w ρ H' w' := by
  unfold mapUpdate' at h
  split at h
  · rename_i key elem r hu
    split at h
    · rename_i es ck hg
      split at h
      · rename_i hc
        simp only [Bool.and_eq_true] at hc
        obtain ⟨h1, hck⟩ := hc
        obtain ⟨u0, hck⟩ := Option.isSome_iff_exists.1 hck
        have hck9 : (Instr.checkKey false 10000 key k).run P w = .ok () w := pureSem_run P _ _ w hck
        obtain ⟨hv, g1, g2⟩ := hS.getM hg
        have em : ren ρ (.map (some r)) = .map (some (ρ.β r)) := rfl
        unfold Instr.mapUpdate
        rw [em]
        simp only [Sem.run_bind, underlying_run hu, Result.andThen_ok, getObj_run g1]
        split at h
        · rename_i i hf
          split at h
          · rename_i hsb
            injection h with h
            subst h
            obtain ⟨hfl, q1, q2⟩ := findK_sound hf ρ w
            rcases q2 with ⟨h0, _⟩ | ⟨j, e, h0, he, hfk⟩
            · cases h0
            · injection h0 with h0
              subst h0
              have hkey : ((es.map (renE ρ))[i]?.map (·.key)).getD (ren ρ k) = ((es[i]?).map (·.key)).getD k := by
                rw [Array.getElem?_map, he]; rfl
              have hkt : (Instr.keyThatStays (((es[i]?).map (·.key)).getD k) k).run P w = .ok k w := by
                unfold Instr.keyThatStays
                rw [if_pos hsb]; rfl
              have hmod : (es.map (renE ρ)).modify i (fun e => { e with key := k, val := ren ρ v }) = (es.modify i fun e => { e with key := k, val := v }).map (renE ρ) := by
                apply Array.ext_getElem?
                intro j
                rw [Array.getElem?_modify, Array.getElem?_map, Array.getElem?_map, Array.getElem?_modify]
                split
                · cases es[j]? with
                  | none => rfl
                  | some e' => simp only [Option.map_some, renE, ren_one2 h1]
                · rfl
              obtain ⟨r1, r2⟩ := putMap_sound (P := P) hS (es' := es.modify i fun e => { e with key := k, val := v }) (ck' := ck) hg (fun e' he' => by
                obtain ⟨j, hj⟩ := Array.mem_iff_getElem?.1 he'
                rw [Array.getElem?_modify] at hj
                split at hj
                · simp only [Option.map_eq_some_iff] at hj
                  obtain ⟨e2, h2, rfl⟩ := hj
                  exact ⟨bd_one2 h1 hb, hfl⟩
                · exact g2 e' (Array.mem_of_getElem? hj))
              refine ⟨Grew.put hg _, _, ?_, r2⟩
              rw [ren_flat hfl] at hkey ⊢
              rw [hck9]
              simp only [Sem.run_bind, Result.andThen_ok, hfk, hkey, hkt, hmod, r1]
          · cases h
        · rename_i hf
          injection h with h
          subst h
          obtain ⟨hfl, q1, q2⟩ := findK_sound hf ρ w
          rcases q2 with ⟨_, hfk⟩ | ⟨j, e, h0, _⟩
          · have hpush : (es.map (renE ρ)).push { key := k, val := ren ρ v, born := ck } = (es.push { key := k, val := v, born := ck }).map (renE ρ) := by
              rw [Array.map_push]; simp only [renE, ren_one2 h1]
            obtain ⟨r1, r2⟩ := putMap_sound (P := P) hS (es' := es.push { key := k, val := v, born := ck }) (ck' := ck + 1) hg (fun e' he' => by
              rcases Array.mem_push.1 he' with h9 | h9
              · exact g2 e' h9
              · subst h9; exact ⟨bd_one2 h1 hb, hfl⟩)
            refine ⟨Grew.put hg _, _, ?_, r2⟩
            rw [ren_flat hfl, hck9]
            simp only [Sem.run_bind, Result.andThen_ok, hfk, hpush, r1]
          · cases h0
        · cases h
      · cases h
    · cases h
  · cases h
theorem delete_sound (hS : Sim ρ V H w) {at' : Array TypeId} {t ty : TypeId} {m k : Value} (ht : at'[0]? = some t) (h : delete' P H t m k = some H') :
    Grew H H' ∧ ∃ w', (Builtin.delete_ at' ty #[ren ρ m, ren ρ k]).run P w = .ok (.tuple #[]) w' ∧ Post ρ V H w ρ H' w' := by
  unfold delete' at h
  split at h
  · rename_i key elem r hu
    split at h
    · rename_i es ck hg
      obtain ⟨hv, g1, g2⟩ := hS.getM hg
      have em : ren ρ (.map (some r)) = .map (some (ρ.β r)) := rfl
      have e0 : (#[ren ρ (.map (some r)), ren ρ k] : Array Value)[0]? = some (ren ρ (.map (some r))) := rfl
      have e1 : (#[ren ρ (.map (some r)), ren ρ k] : Array Value)[1]? = some (ren ρ k) := rfl
      unfold Builtin.delete_
      rw [ht, e0, e1, em]
      simp only [Sem.run_bind, underlying_run hu, Result.andThen_ok, getObj_run g1]
      split at h
      · rename_i i hf
        injection h with h
        subst h
        obtain ⟨hfl, q1, q2⟩ := findK_sound hf ρ w
        rw [ren_flat hfl]
        rcases q2 with ⟨h0, _⟩ | ⟨j, e, h0, he, hfk⟩
        · cases h0
        · injection h0 with h0
          subst h0
          have hmod : (es.map (renE ρ)).eraseIdxIfInBounds i = (es.eraseIdxIfInBounds i).map (renE ρ) := by
            have hi : i < es.size := (Array.getElem?_eq_some_iff.1 he).1
            unfold Array.eraseIdxIfInBounds
            rw [dif_pos (by simpa using hi), dif_pos hi]
            apply Array.ext'
            simp [eraseIdx_map']
          obtain ⟨r1, r2⟩ := putMap_sound (P := P) hS (es' := es.eraseIdxIfInBounds i) (ck' := ck) hg (fun e' he' => by
            refine g2 e' ?_
            unfold Array.eraseIdxIfInBounds at he'
            split at he'
            · exact Array.mem_of_mem_eraseIdx he'
            · exact he')
          refine ⟨Grew.put hg _, _, ?_, r2⟩
          simp only [q1, Result.andThen_ok, hfk, Sem.run_bind, hmod, r1, Sem.run_pure]
      · rename_i hf
        injection h with h
        subst h
        obtain ⟨hfl, q1, q2⟩ := findK_sound hf ρ w
        rw [ren_flat hfl]
        rcases q2 with ⟨_, hfk⟩ | ⟨j, e, h0, _⟩
        · obtain ⟨r1, r2⟩ := putMap_sound (P := P) hS (es' := es) (ck' := ck) hg g2
          refine ⟨Grew.put hg _, _, ?_, r2⟩
          simp only [q1, Result.andThen_ok, hfk, Sem.run_bind, r1, Sem.run_pure]
        · cases h0
      · cases h
    · cases h
  · cases h
theorem nilEq_sound {t : TypeId} {x y : Value} {b : Bool} (h : nilEq P t x y = some b) (w : World) : (Op.equal t (ren ρ x) (ren ρ y)).run P w = .ok b w := by
  unfold nilEq at h
  unfold Op.equal Op.maxDepth
  split at h
  · rename_i e b' hu
    injection h with h
    subst h
    unfold Op.equalIn
    simp only [Sem.run_bind, underlying_run hu, Result.andThen_ok]
    cases b' <;> rfl
  · rename_i e a' hn hu
    injection h with h
    subst h
    unfold Op.equalIn
    simp only [Sem.run_bind, underlying_run hu, Result.andThen_ok]
    cases a' with
    | none => exact (hn rfl).elim
    | some a' => rfl
  · rename_i e n1 c1 b' n2 c2 hu
    injection h with h
    subst h
    unfold Op.equalIn
    simp only [Sem.run_bind, underlying_run hu, Result.andThen_ok]
    cases b' <;> rfl
  · rename_i e a' n1 c1 n2 c2 hn hu
    injection h with h
    subst h
    unfold Op.equalIn
    simp only [Sem.run_bind, underlying_run hu, Result.andThen_ok]
    cases a' with
    | none => exact (hn rfl).elim
    | some a' => rfl
  · rename_i e k b' hu
    injection h with h
    subst h
    unfold Op.equalIn
    simp only [Sem.run_bind, underlying_run hu, Result.andThen_ok]
    cases b' <;> rfl
  · rename_i e k a' hn hu
    injection h with h
    subst h
    unfold Op.equalIn
    simp only [Sem.run_bind, underlying_run hu, Result.andThen_ok]
    cases a' with
    | none => exact (hn rfl).elim
    | some a' => rfl
  · rename_i p r vr fn f c hu
    injection h with h
    subst h
    unfold Op.equalIn
    simp only [Sem.run_bind, underlying_run hu, Result.andThen_ok]
    rfl
  · rename_i p r vr fn f c hu
    injection h with h
    subst h
    unfold Op.equalIn
    simp only [Sem.run_bind, underlying_run hu, Result.andThen_ok]
    rfl
  · cases h
end
end Go.Ab
