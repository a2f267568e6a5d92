/- Operations: maps. -/
import Derived.Test.YtihcpmebabkagaaGreatAb11
set_option linter.unusedSimpArgs false
set_option linter.unusedVariables false
namespace Go.Ab
section
variable {P : Program} {ρ : Ren} {V : Nat → Prop} {H H' : Hp} {w w' : World}

theorem pureSem_bind {α β : Type} (s : Sem α) (f : α → Sem β) : pureSem P (s >>= f) = (pureSem P s).bind fun a => pureSem P (f a) := by
  show pureSem P (s.bind f) = _
  induction s with
  | pure a => rfl
  | program k ih => simp only [Sem.bind, pureSem]; exact ih P
  | mark m k ih => simp only [Sem.bind, pureSem]; exact ih
  | _ => simp [Sem.bind, pureSem]
/-- Two lists of entries of the same keys. -/
theorem findNow_map {f g : MapEntry → MapEntry} (hf : ∀ e, (f e).key = e.key) (hg : ∀ e, (g e).key = e.key) (kind : TypeDesc) (k : Value) : ∀ (l : List MapEntry) (i : Nat),
    (Instr.findNow kind k (l.map f) i = none ∧ Instr.findNow kind k (l.map g) i = none) ∨ (Instr.findNow kind k (l.map f) i = some none ∧ Instr.findNow kind k (l.map g) i = some none) ∨
      ∃ j e, i ≤ j ∧ l[j - i]? = some e ∧ Instr.findNow kind k (l.map f) i = some (some (j, (f e).val)) ∧ Instr.findNow kind k (l.map g) i = some (some (j, (g e).val))
  | [], i => .inr (.inl ⟨rfl, rfl⟩)
  | e :: l, i => by
    simp only [List.map_cons, Instr.findNow, hf, hg]
    cases hs : Instr.sameNow kind k e.key with
    | none => exact .inl ⟨rfl, rfl⟩
    | some b =>
      cases b with
      | true => exact .inr (.inr ⟨i, e, Nat.le_refl _, by simp, rfl, rfl⟩)
      | false =>
        rcases findNow_map hf hg kind k l (i + 1) with h | h | ⟨j, e', h1, h2, h3, h4⟩
        · exact .inl h
        · exact .inr (.inl h)
        · exact .inr (.inr ⟨j, e', by omega, by rw [show j - i = (j - (i + 1)) + 1 by omega]; simpa using h2, h3, h4⟩)
theorem findAsking_map {f g : MapEntry → MapEntry} (hf : ∀ e, (f e).key = e.key) (hg : ∀ e, (g e).key = e.key) (kt : TypeId) (k : Value) : ∀ (l : List MapEntry) (i : Nat) (r : Option (Nat × Value)), pureSem P (Instr.findAsking kt k (l.map f) i) = some r →
    (r = none ∧ pureSem P (Instr.findAsking kt k (l.map g) i) = some none) ∨ ∃ j e, i ≤ j ∧ l[j - i]? = some e ∧ r = some (j, (f e).val) ∧ pureSem P (Instr.findAsking kt k (l.map g) i) = some (some (j, (g e).val))
  | [], i, r, h => by
    simp only [List.map_nil, Instr.findAsking] at h ⊢
    have : r = none := by injection h with h; exact h.symm
    exact .inl ⟨this, rfl⟩
  | e :: l, i, r, h => by
    simp only [List.map_cons, Instr.findAsking, hf, hg, pureSem_bind] at h ⊢
    cases hb : pureSem P (Op.equal kt k e.key) with
    | none => rw [hb] at h; cases h
    | some b =>
      rw [hb] at h
      simp only [Option.bind_some] at h ⊢
      cases b with
      | true =>
        simp only [if_true] at h ⊢
        have : r = some (i, (f e).val) := by injection h with h; exact h.symm
        exact .inr ⟨i, e, Nat.le_refl _, by simp, this, rfl⟩
      | false =>
        simp only [Bool.false_eq_true, if_false] at h ⊢
        rcases findAsking_map hf hg kt k l (i + 1) r h with h | ⟨j, e', h1, h2, h3, h4⟩
        · exact .inl h
        · exact .inr ⟨j, e', by omega, by rw [show j - i = (j - (i + 1)) + 1 by omega]; simpa using h2, h3, h4⟩
theorem findK_sound {kt : TypeId} {k : Value} {es : Array MapEntry} {r : Option Nat} (h : findK P kt k es = some r) (ρ : Ren) (w : World) :
    flat k = true ∧ (Instr.checkKey (es.map (renE ρ)).isEmpty 10000 kt k).run P w = .ok () w ∧
      ((r = none ∧ (Instr.findKey kt k (es.map (renE ρ)).toList).run P w = .ok none w) ∨ ∃ i e, r = some i ∧ es[i]? = some e ∧ (Instr.findKey kt k (es.map (renE ρ)).toList).run P w = .ok (some (i, ren2 ρ e.val)) w) := by
  unfold findK at h
  split at h
  · rename_i hflat
    simp only [Option.map_eq_some_iff, pureSem_bind, Option.bind_eq_some_iff] at h
    obtain ⟨r', ⟨u, h1, h2⟩, rfl⟩ := h
    have he : (es.map (renE ρ)).isEmpty = es.isEmpty := by simp [Array.isEmpty]
    refine ⟨hflat, by rw [he]; exact pureSem_run P _ _ w h1, ?_⟩
    rw [Array.toList_map]
    unfold Instr.findKey at h2 ⊢
    rw [pureSem_bind] at h2
    simp only [Option.bind_eq_some_iff] at h2
    obtain ⟨d, hd, h2⟩ := h2
    simp only [Sem.run_bind, pureSem_run P _ _ w hd, Result.andThen_ok]
    rcases findNow_map (f := unval) (g := renE ρ) (fun _ => rfl) (fun _ => rfl) d k es.toList 0 with ⟨q1, q2⟩ | ⟨q1, q2⟩ | ⟨j, e, q0, q1, q2, q3⟩
    · rw [q1] at h2
      rw [q2]
      simp only at h2 ⊢
      rcases findAsking_map (P := P) (f := unval) (g := renE ρ) (fun _ => rfl) (fun _ => rfl) kt k es.toList 0 r' h2 with ⟨rfl, q⟩ | ⟨j, e, q0, q1, rfl, q3⟩
      · exact .inl ⟨rfl, pureSem_run P _ _ w q⟩
      · exact .inr ⟨j, e, rfl, by simpa using q1, pureSem_run P _ _ w q3⟩
    · rw [q1] at h2
      rw [q2]
      have : r' = none := by injection h2 with h2; exact h2.symm
      subst this
      exact .inl ⟨rfl, rfl⟩
    · rw [q2] at h2
      rw [q3]
      have : r' = some (j, (unval e).val) := by injection h2 with h2; exact h2.symm
      subst this
      exact .inr ⟨j, e, rfl, by simpa using q1, rfl⟩
  · cases h
theorem getObj_run {r : Nat} {es : Array MapEntry} {ck : Nat} (h : w.heap[r]? = some (.map es ck)) : (getObj r).run P w = .ok (.map es ck) w := by
  simp [getObj, Sem.run, h]
theorem setObj_run {r : Nat} {es : Array MapEntry} {ck : Nat} (h : w.heap[r]? = some (.map es ck)) (o : Obj) : (setObj r o).run P w = .ok () { w with heap := w.heap.setIfInBounds r o } := by
  simp [setObj, Sem.run, h]
def lookRest (key elem : TypeId) (index : Value) (commaOk : Bool) (es : Array MapEntry) : Sem Value := do
  Instr.checkKey es.isEmpty 10000 key index
  let (v, ok) ← match ← Instr.findKey key index es.toList with
    | some (_, v) => pure (v, true)
    | none => pure (← zeroValue elem, false)
  pure (if commaOk then .tuple #[v, .bool ok] else v)
theorem lookup_rest (hS : Sim ρ V H w) {t key elem : TypeId} {x k : Value} {ok : Bool} {es : Array MapEntry} (hu : P.underlying t = some (.map key elem)) (h : mapOf H x = some es) :
    (Instr.lookup t (ren ρ x) k ok).run P w = (lookRest key elem k ok (es.map (renE ρ))).run P w ∧ ∀ e ∈ es, Bd2 V e.val ∧ flat e.key = true := by
  unfold mapOf at h
  split at h
  · injection h with h
    subst h
    refine ⟨?_, fun e he => by simp at he⟩
    have e : ren ρ (.map none) = .map none := rfl
    rw [e]
    unfold Instr.lookup lookRest
    simp only [Sem.run_bind, underlying_run hu, Result.andThen_ok, Sem.run_pure, List.map_toArray, List.map_nil]
    refine congrArg (Result.andThen _) (funext fun a => funext fun w1 => congrArg (Result.andThen _) (funext fun a => funext fun w2 => ?_))
    cases a <;> simp
  · rename_i r
    split at h
    · rename_i es' ck hg
      injection h with h
      subst h
      obtain ⟨hv, h1, h2⟩ := hS.getM hg
      refine ⟨?_, h2⟩
      have e : ren ρ (.map (some r)) = .map (some (ρ.β r)) := rfl
      rw [e]
      unfold Instr.lookup lookRest
      simp only [Sem.run_bind, underlying_run hu, Result.andThen_ok, Sem.run_pure, getObj_run h1]
      refine congrArg (Result.andThen _) (funext fun a => funext fun w1 => congrArg (Result.andThen _) (funext fun a => funext fun w2 => ?_))
      cases a <;> simp
    · cases h
  · cases h
theorem lookup_sound (hS : Sim ρ V H w) {t : TypeId} {x k v : Value} {ok : Bool} (h : lookup' P H t x k ok = some v) :
    (Instr.lookup t (ren ρ x) (ren ρ k) ok).run P w = .ok (ren ρ v) w ∧ Bd V v := by
  unfold lookup' at h
  split at h
  · rename_i key elem es hu hm
    obtain ⟨m1, m2⟩ := lookup_rest (P := P) (k := ren ρ k) (ok := ok) hS hu hm
    rw [m1]
    unfold lookRest
    split at h
    · rename_i i hf
      obtain ⟨hfl, hck, hk⟩ := findK_sound hf ρ w
      rw [ren_flat hfl]
      rcases hk with ⟨h0, _⟩ | ⟨j, e, h0, he, hfk⟩
      · cases h0
      · injection h0 with h0
        subst h0
        rw [he] at h
        simp only at h
        split at h
        · cases h
        · rename_i v' hnt
          injection h with h
          subst h
          have hren : ren ρ e.val = ren2 ρ e.val := by
            cases hev : e.val with
            | tuple vs => exact absurd hev (hnt vs)
            | _ => rfl
          have hbd := (m2 e (Array.mem_of_getElem? he)).1
          have hbd' : Bd V e.val := by
            cases hev : e.val with
            | tuple vs => exact absurd hev (hnt vs)
            | _ => rw [hev] at hbd; exact hbd
          refine ⟨?_, ?_⟩
          · simp only [Sem.run_bind, Result.andThen_ok, hck, hfk, Sem.run_pure]
            cases ok
            · simp [hren]
            · simp [ren]; rfl
          · cases ok
            · exact hbd'
            · intro y hy
              simp at hy
              rcases hy with rfl | rfl
              · exact hbd
              · trivial
    · rename_i hf
      obtain ⟨hfl, hck, hk⟩ := findK_sound hf ρ w
      rw [ren_flat hfl]
      rcases hk with ⟨_, hfk⟩ | ⟨j, e, h0, _⟩
      · split at h
        · rename_i z hz
          obtain ⟨i, hi, hz⟩ := Option.bind_eq_some_iff.1 hz
          split at h
          · rename_i hz2
            injection h with h
            subst h
            refine ⟨?_, ?_⟩
            · simp only [Sem.run_bind, Result.andThen_ok, hck, hfk, Sem.run_pure, zeroValue_run hi hz]
              have hzt : ren2 ρ z = z := ren2_flat hz2
              cases ok
              · have : ren ρ z = z := by
                  cases z
                  case tuple vs => simp [flat2, flat0] at hz2
                  all_goals exact hzt
                simp [this]
              · simp [ren, hzt]; rfl
            · cases ok
              · cases z
                case tuple vs => simp [flat2, flat0] at hz2
                all_goals exact Bd2_flat (V := V) hz2
              · intro y hy
                simp at hy
                rcases hy with rfl | rfl
                · exact Bd2_flat hz2
                · trivial
          · cases h
        · cases h
      · cases h0
    · cases h
  · cases h
end
end Go.Ab
