/- Calls. -/
import Derived.Test.YtihcpmebabkagaaGreatAb15
set_option linter.unusedSimpArgs false
set_option linter.unusedVariables false
namespace Go.Ab
section
variable {P : Program} {ρ : Ren} {V : Nat → Prop} {H H' : Hp} {w w' : World}

theorem getD_sound {tm : Array Value} (hb : ∀ x ∈ tm, Bd V x) (t : Nat) : (tm.map (ren ρ)).getD t undef = ren ρ (tm.getD t undef) ∧ Bd V (tm.getD t undef) := by
  rw [Array.getD_eq_getD_getElem?, Array.getD_eq_getD_getElem?, Array.getElem?_map]
  cases ht : tm[t]? with
  | none => exact ⟨(ren_undef ρ).symm, fun x hx => by simp [undef] at hx⟩
  | some v => exact ⟨rfl, hb v (Array.mem_of_getElem? ht)⟩
theorem resL_sound (hS : Sim ρ V H w) {tm : Array Value} (hb : ∀ x ∈ tm, Bd V x) (f : ResultVar → Sem Value) (hf1 : ∀ t, f (.tmp t) = pure ((tm.map (ren ρ)).getD t undef))
    (hf2 : ∀ a t, f (.cell a t) = (do loadVar t (← asAddr ((tm.map (ren ρ)).getD a undef)))) : ∀ (l : List ResultVar) (vs : List Value), aResL P tm H l = some vs →
    (l.mapM f).run P w = .ok (vs.map (ren ρ)) w ∧ ∀ v ∈ vs, Bd V v ∧ noTuple v = true
  | [], vs, h => by simp only [aResL, Option.some.injEq] at h; subst h; simp
  | r :: l, vs, h => by
    simp only [aResL] at h
    split at h
    · rename_i v vs' hv hvs
      injection h with h
      subst h
      obtain ⟨ih1, ih2⟩ := resL_sound hS hb f hf1 hf2 l vs' hvs
      have hone : (f r).run P w = .ok (ren ρ v) w ∧ Bd V v ∧ noTuple v = true := by
        cases r with
        | tmp t =>
          simp only [aResult] at hv
          split at hv
          · rename_i hnt
            injection hv with hv
            subst hv
            exact ⟨by rw [hf1, (getD_sound (ρ := ρ) hb t).1]; rfl, (getD_sound (ρ := ρ) hb t).2, hnt⟩
          · cases hv
        | cell a t =>
          simp only [aResult] at hv
          split at hv
          · rename_i u hu
            split at hv
            · rename_i hnt
              injection hv with hv
              subst hv
              obtain ⟨r1, r2⟩ := load_sound (P := P) hS hu
              refine ⟨?_, r2, hnt⟩
              rw [← r1, hf2, (getD_sound (ρ := ρ) hb a).1]
              unfold loadAt' at hu
              split at hu
              · rename_i b o he
                rw [he, ren_ptr]
                unfold Instr.loadAt Instr.sureAddr asAddr
                rfl
              · cases hu
            · cases hv
          · cases hv
      refine ⟨?_, ?_⟩
      · simp only [List.mapM_cons, Sem.run_bind, hone.1, ih1, Result.andThen_ok, Sem.run_pure, List.map_cons]
      · intro x hx
        rcases List.mem_cons.1 hx with rfl | hx
        · exact hone.2
        · exact ih2 x hx
    · cases h
theorem ren_noTuple {v : Value} (h : noTuple v = true) : ren ρ v = ren2 ρ v := by
  cases v
  case tuple vs => cases h
  all_goals rfl
theorem bd_noTuple {v : Value} (h : noTuple v = true) (hb : Bd V v) : Bd2 V v := by
  cases v
  case tuple vs => cases h
  all_goals exact hb
theorem results_sound (hS : Sim ρ V H w) {tm : Array Value} (hb : ∀ x ∈ tm, Bd V x) {fn : Func} {v : Value} (h : aResults P fn tm H = some v) :
    (results fn (tm.map (ren ρ))).run P w = .ok (ren ρ v) w ∧ Bd V v := by
  unfold aResults at h
  have hrun : ∀ vs, aResL P tm H fn.results.toList = some vs → (results fn (tm.map (ren ρ))).run P w = .ok (if h : vs.length = 1 then ren ρ (vs[0]) else .tuple (vs.map (ren ρ)).toArray) w := by
    intro vs hvs
    have hgen := fun f h1 h2 => (resL_sound (P := P) hS hb f h1 h2 _ vs hvs).1
    unfold results
    rw [Array.mapM_eq_mapM_toList]
    simp only [Sem.run_bind, Sem.run_map]
    rw [hgen]
    rotate_left
    · intro t; rfl
    · intro a t; rfl
    simp only [Result.andThen_ok, Sem.run_pure]
    congr 1
    by_cases h1 : vs.length = 1
    · rw [dif_pos (by simpa using h1), dif_pos h1]; simp
    · rw [dif_neg (by simpa using h1), dif_neg h1]
  split at h
  · rename_i u hu
    injection h with h
    subst h
    refine ⟨by rw [hrun _ hu]; rfl, ((resL_sound (P := P) hS hb (fun r => match r with | .tmp t => pure ((tm.map (ren ρ)).getD t undef) | .cell a t => do loadVar t (← asAddr ((tm.map (ren ρ)).getD a undef))) (fun _ => rfl) (fun _ _ => rfl) _ _ hu).2 u (by simp)).1⟩
  · rename_i l hne hl
    injection h with h
    subst h
    have h2 := (resL_sound (P := P) hS hb (fun r => match r with | .tmp t => pure ((tm.map (ren ρ)).getD t undef) | .cell a t => do loadVar t (← asAddr ((tm.map (ren ρ)).getD a undef))) (fun _ => rfl) (fun _ _ => rfl) _ _ hl).2
    refine ⟨?_, fun x hx => bd_noTuple (h2 x (by simpa using hx)).2 (h2 x (by simpa using hx)).1⟩
    rw [hrun _ hl]
    have h1 : ¬ l.length = 1 := by
      intro h1
      match l, h1 with
      | [u], _ => exact hne u rfl
    rw [dif_neg h1]
    congr 1
    show Value.tuple _ = Value.tuple _
    congr 1
    rw [← List.map_toArray]
    refine amap_congr fun x hx => ren_noTuple (h2 x (by simpa using hx)).2
  · cases h
theorem body_sound {call : CallT} (hcall : SoundCall P call) (hdraw : SoundDraw P call) (N : Nat) : SoundCall P (aBody P call N) := by
  intro f args H v H' h ρ V w hS hb
  unfold aBody at h
  split at h
  · cases h
  · rename_i fn hfn
    split at h
    · cases h
    · rename_i c hc
      have hC : CSim ρ V (args ++ Array.replicate (fn.ntmps - args.size) undef) H { tmps := args.map (ren ρ) ++ Array.replicate (fn.ntmps - (args.map (ren ρ)).size) undef, defers := [] } w := by
        refine ⟨by simp [ren_undef], rfl, fun x hx => ?_, hS⟩
        rcases Array.mem_append.1 hx with hx | hx
        · exact hb x hx
        · simp at hx
          obtain ⟨_, rfl⟩ := hx
          intro y hy; simp [undef] at hy
      have hend : ∀ (ex : Ex) (tm' : Array Value) (H1 : Hp), (ex = .normal ∨ ex = .ret) → (aResults P fn tm' H1).map (fun v => (v, H1)) = some (v, H') → aCode P call N c (args ++ Array.replicate (fn.ntmps - args.size) undef) H = some (ex, tm', H1) →
          Calls P f (args.map (ren ρ)) w fun e w' => ∃ ρ', e = .returned (ren ρ' v) ∧ Bd (grow V H.size H'.size) v ∧ PostG ρ V H w ρ' H' w' := by
        intro ex tm' H1 hex hr hcode
        simp only [Option.map_eq_some_iff, Prod.mk.injEq] at hr
        obtain ⟨v', hv', rfl, rfl⟩ := hr
        refine calls_of_wp hfn hc ?_
        refine code_sound hcall hdraw N c ρ V H H1 _ tm' _ w ex _ hcode hC fun ρ' a' w' hp hc' => ?_
        obtain ⟨r1, r2⟩ := results_sound (P := P) hc'.sim hc'.bd hv'
        rw [← hc'.tmps] at r1
        rcases hex with rfl | rfl
        · exact ⟨hc'.defers, _, r1, ρ', rfl, r2, hp⟩
        · exact ⟨hc'.defers, _, r1, ρ', rfl, r2, hp⟩
      split at h
      · rename_i tm' H1 hcode
        exact hend .normal tm' H1 (.inl rfl) h hcode
      · rename_i tm' H1 hcode
        exact hend .ret tm' H1 (.inr rfl) h hcode
      · cases h
theorem callN_sound (hdraw : ∀ call, SoundCall P call → SoundDraw P call) {ext : CallT} (hext : SoundCall P ext) (N : Nat) : ∀ d, SoundCall P (callN P ext N d)
  | 0 => fun f args H v H' h => by cases h
  | d + 1 => by
    intro f args H v H' h ρ V w hS hb
    have ih := callN_sound hdraw hext N d
    simp only [callN] at h
    split at h
    · rename_i r hr
      injection h with h
      subst h
      exact hext f args H v H' hr ρ V w hS hb
    · exact body_sound ih (hdraw _ ih) N f args H v H' h ρ V w hS hb
end
end Go.Ab
