/- Operations: slice expressions, append, copy, clear, make. -/
import Derived.Test.YtihcpmebabkagaaGreatAb7
set_option linter.unusedSimpArgs false
set_option linter.unusedVariables false
namespace Go.Ab
section
variable {P : Program} {ρ : Ren} {V : Nat → Prop} {H H' : Hp} {w : World}

theorem bnd_run {v : Value} {d y y' r : Nat} (h : bnd (some v) d y = some r) (hy : y ≤ y') (code : BoundsCode) (w : World) : (Instr.sliceBound (ren ρ v) y' code).run P w = .ok r w ∧ r ≤ y := by
  unfold bnd at h
  cases v <;> simp only [reduceCtorEq] at h
  rename_i k i
  split at h
  · rename_i hc
    injection h with h
    subst h
    refine ⟨?_, by omega⟩
    unfold Instr.sliceBound
    simp only [ren, ren2, ren1, ren0, asIntOf, Sem.run_bind, Sem.run_pure, Result.andThen_ok]
    rw [if_pos ⟨hc.1, by omega⟩]
    rfl
  · cases h
theorem bnd_none {d y r : Nat} (h : bnd none d y = some r) : r = d := by simpa [bnd] using h.symm
/-- The bounds, as the model reckons them: what was known is as it is. -/
theorem bounds_run {isS : Bool} {len K K' d : Nat} {lo hi mx : Option Value} {m h l : Nat} (hK : K ≤ K') (hn : ¬ (mx.isSome && hi.isNone) = true)
    (hm : mx.isSome = true → bnd mx d K = some m) (hh : bnd hi len (if mx.isSome then m else K) = some h) (hl : bnd lo 0 h = some l) (w : World) :
    (Instr.sliceBounds isS len K' (lo.map (ren ρ)) (hi.map (ren ρ)) (mx.map (ren ρ))).run P w = .ok (l, h, if mx.isSome then m else K') w ∧ (mx.isSome = true → m ≤ K) ∧ (hi.isSome = true → h ≤ if mx.isSome then m else K) ∧ (hi.isSome = false → h = len) ∧ (lo.isSome = true → l ≤ h) ∧ (lo.isSome = false → l = 0) := by
  unfold Instr.sliceBounds
  cases lo with
  | none =>
    have e := bnd_none hl
    subst e
    cases mx with
    | none =>
      cases hi with
      | none =>
        have e := bnd_none hh
        subst e
        simp
      | some x =>
        obtain ⟨h1, h2⟩ := bnd_run (P := P) (ρ := ρ) hh (y' := K') (by simpa using hK) (if isS then BoundsCode.sliceAcap else .sliceAlen) w
        simp [h1]; simpa using h2
    | some y =>
      obtain ⟨h1, h2⟩ := bnd_run (P := P) (ρ := ρ) (hm rfl) hK (if isS then BoundsCode.slice3Acap else .slice3Alen) w
      cases hi with
      | none => simp at hn
      | some x =>
        obtain ⟨h3, h4⟩ := bnd_run (P := P) (ρ := ρ) hh (y' := m) (by simp) BoundsCode.slice3B w
        simp [h1, h3, h2]; simpa using h4
  | some z =>
    cases mx with
    | none =>
      cases hi with
      | none =>
        have e := bnd_none hh
        subst e
        obtain ⟨h5, h6⟩ := bnd_run (P := P) (ρ := ρ) hl (Nat.le_refl _) BoundsCode.sliceB w
        simp [h5, h6]
      | some x =>
        obtain ⟨h1, h2⟩ := bnd_run (P := P) (ρ := ρ) hh (y' := K') (by simpa using hK) (if isS then BoundsCode.sliceAcap else .sliceAlen) w
        obtain ⟨h5, h6⟩ := bnd_run (P := P) (ρ := ρ) hl (Nat.le_refl _) BoundsCode.sliceB w
        simp [h1, h5, h6]; simpa using h2
    | some y =>
      obtain ⟨h1, h2⟩ := bnd_run (P := P) (ρ := ρ) (hm rfl) hK (if isS then BoundsCode.slice3Acap else .slice3Alen) w
      cases hi with
      | none => simp at hn
      | some x =>
        obtain ⟨h3, h4⟩ := bnd_run (P := P) (ρ := ρ) hh (y' := m) (by simp) BoundsCode.slice3B w
        obtain ⟨h5, h6⟩ := bnd_run (P := P) (ρ := ρ) hl (Nat.le_refl _) BoundsCode.slice3C w
        simp [h1, h3, h2, h5, h6]; simpa using h4
theorem cap_none (ρ : Ren) (c : Nat) : ρ.cap none c = c := rfl
theorem cap_closed (ρ : Ren) (a : Option Addr) {c : Nat} (h : c < big) : ρ.cap a c = c := by
  cases a with
  | none => rfl
  | some a => simp [Ren.cap, Nat.not_le.2 h]
theorem cap_open (ρ : Ren) (a : Addr) (c : Nat) (h : big ≤ c) : ρ.cap (some a) c = c - big + ρ.ξ a.block := by simp [Ren.cap, h]
theorem slice_sound (hS : Sim ρ V H w) {t : TypeId} {x v : Value} {lo hi mx : Option Value} (h : slice' P H t x lo hi mx = some (v, H')) (hb : Bd V x) :
    Grew H H' ∧ ∃ ρ', (Instr.sliceAt t (ren ρ x) (lo.map (ren ρ)) (hi.map (ren ρ)) (mx.map (ren ρ))).run P w = .ok (ren ρ' v) w ∧ Bd (grow V H.size H'.size) v ∧ Post ρ V H w ρ' H' w := by
  unfold slice' at h
  split at h
  · cases h
  rename_i hn
  unfold Instr.sliceAt
  split at h
  · rename_i n elem a hu
    simp only [Option.bind_eq_bind, Option.bind_eq_some_iff] at h
    obtain ⟨i, hi', m, hm, h1, hh, l, hl, h⟩ := h
    split at h
    · rename_i hbig
      injection h with h
      injection h with hv hH
      subst hv hH
      have hmx : mx.isSome = true → bnd mx n n = some m := fun _ => hm
      have hmn : mx.isSome = false → m = n := by intro hs; cases mx with | none => exact bnd_none hm | some y => cases hs
      obtain ⟨r1, r2, r3, r4, r5, r6⟩ := bounds_run (P := P) (ρ := ρ) (isS := false) (K' := n) (Nat.le_refl n) hn hmx (h := h1) (by cases hms : mx.isSome with | true => simpa [hms] using hh | false => rw [hmn hms] at hh; simpa [hms] using hh) hl w
      refine ⟨Grew.refl _, ρ, ?_, ?_, Post.refl hS⟩
      · have e : ∀ a, ren ρ (.pointer (some a)) = .pointer (some (ρ.addr a)) := fun _ => rfl
        rw [e]
        simp only [Sem.run_bind, underlying_run hu, Result.andThen_ok, Instr.sureAddr, Sem.run_pure, r1, sizeOf_run hi']
        have em : (if mx.isSome = true then m else n) = m := by cases hms : mx.isSome with | true => simp | false => simp [hmn hms]
        rw [em]
        have hmle : m ≤ n := by cases hms : mx.isSome with | true => exact r2 hms | false => rw [hmn hms]; exact Nat.le_refl _
        simp only [ren, ren2, ren1, ren0, Option.map_some]
        rw [cap_closed ρ _ (by omega)]
        split
        · rfl
        · rw [addr_add]
      · rw [grow_self]
        show V _
        split
        · exact hb
        · rw [addr_block]; exact hb
    · cases h
  · rename_i elem a len cap hu
    have e : ren ρ (.slice a len cap) = .slice (a.map ρ.addr) len (ρ.cap a cap) := rfl
    rw [e]
    simp only [Sem.run_bind, underlying_run hu, Result.andThen_ok]
    unfold Instr.slice
    simp only [Sem.run_bind, underlying_run hu, Result.andThen_ok]
    split at h
    · rename_i hbig
      split at h
      · rename_i b o
        split at h
        · cases h
        rename_i hlen
        simp only [Option.bind_eq_bind, Option.bind_eq_some_iff] at h
        obtain ⟨i, hi', h⟩ := h
        have ecap : ρ.cap (some ⟨b, o, none⟩) cap = cap - big + ρ.ξ b := cap_open _ _ _ hbig
        rw [ecap]
        split at h
        · rename_i hmx0
          have hms : mx.isSome = false := by cases mx with | none => rfl | some y => simp at hmx0
          simp only [Option.bind_eq_some_iff] at h
          obtain ⟨h1, hh, l, hl, h⟩ := h
          obtain ⟨r1, r2, r3, r4, r5, r6⟩ := bounds_run (P := P) (ρ := ρ) (isS := true) (K' := cap - big + ρ.ξ b) (m := 0) (d := 0) (Nat.le_add_right _ _) hn (by intro hs; rw [hms] at hs; cases hs) (h := h1) (by simpa [hms] using hh) hl w
          simp only [hms, Bool.false_eq_true, if_false] at r1 r3
          have hlh : l ≤ h1 := by cases hls : lo.isSome with | true => exact r5 hls | false => rw [r6 hls]; omega
          have hhK : h1 ≤ cap - big := by cases hhs : hi.isSome with | true => exact r3 hhs | false => rw [r4 hhs]; omega
          split at h
          · rename_i hc
            injection h with h
            injection h with hv hH
            subst hv hH
            refine ⟨Grew.new _ _, ?_⟩
            simp only [r1, Result.andThen_ok, sizeOf_run hi', Sem.run_pure, Option.map_some]
            obtain ⟨A, hA⟩ : ∃ A : Addr, A = (if cap - big + ρ.ξ b = l then ρ.addr ⟨b, o, none⟩ else (ρ.addr ⟨b, o, none⟩).add (l * i.size)) := ⟨_, rfl⟩
            have hspot : A.spot = none := by
              rw [hA]; split
              · rfl
              · unfold Addr.add; split <;> rfl
            have hm0 : h1 = l := by omega
            have er : ren (ρ.set H.size A.block A.off (ρ.ξ b)) (.slice (some ⟨H.size, 0, none⟩) 0 big) = .slice (some A) 0 (ρ.ξ b) := by
              simp only [ren, ren2, ren1, ren0, Option.map_some, cap_open _ _ big (Nat.le_refl _), Nat.sub_self, Nat.zero_add]
              simp only [Ren.addr, Ren.set, if_true, Nat.add_zero]
              rw [← hspot]
            refine ⟨ρ.set H.size A.block A.off (ρ.ξ b), ?_, .inr ⟨Nat.le_refl _, Nat.lt_succ_self _⟩, hS.junk _ _ _⟩
            rw [er, hA, hm0, Nat.sub_self]
            have e5 : cap - big + ρ.ξ b - l = ρ.ξ b := by omega
            rw [e5]
            congr 2
            split <;> rfl
          · rename_i hc
            injection h with h
            injection h with hv hH
            subst hv hH
            refine ⟨Grew.refl _, ρ, ?_, by rw [grow_self]; show V _; rw [addr_block]; exact hb, Post.refl hS⟩
            simp only [r1, Result.andThen_ok, sizeOf_run hi', Sem.run_pure, Option.map_some]
            simp only [ren, ren2, ren1, ren0, Option.map_some, addr_add]
            rw [cap_open _ _ _ (by omega), addr_block]
            have e5 : cap - l - big + ρ.ξ b = cap - big + ρ.ξ b - l := by omega
            rw [e5]
            by_cases hz : cap - big + ρ.ξ b = l
            · have hl0 : l = 0 := by omega
              subst hl0
              rw [if_pos hz]; simp [Addr.add]
            · rw [if_neg hz]
        · rename_i hmx0
          have hms : mx.isSome = true := by cases mx with | none => simp at hmx0 | some y => rfl
          simp only [Option.bind_eq_some_iff] at h
          obtain ⟨m, hm, h1, hh, l, hl, h⟩ := h
          split at h
          · rename_i hbig2
            injection h with h
            injection h with hv hH
            subst hv hH
            obtain ⟨r1, r2, r3, r4, r5, r6⟩ := bounds_run (P := P) (ρ := ρ) (isS := true) (K := cap - big) (K' := cap - big + ρ.ξ b) (m := m) (d := 0) (Nat.le_add_right _ _) hn (fun _ => hm) (h := h1) (by simpa [hms] using hh) hl w
            simp only [hms, if_true] at r1 r3
            refine ⟨Grew.refl _, ρ, ?_, by rw [grow_self]; show V _; split; exact hb; rw [addr_block]; exact hb, Post.refl hS⟩
            simp only [r1, Result.andThen_ok, sizeOf_run hi', Sem.run_pure, Option.map_some]
            simp only [ren, ren2, ren1, ren0, Option.map_some]
            rw [cap_closed _ _ (by omega)]
            split
            · rfl
            · rw [addr_add]
          · cases h
      · cases h
    · rename_i hbig
      simp only [Option.bind_eq_bind, Option.bind_eq_some_iff] at h
      obtain ⟨i, hi', m, hm, h1, hh, l, hl, h⟩ := h
      injection h with h
      injection h with hv hH
      subst hv hH
      have hmn : mx.isSome = false → m = cap := by intro hs; cases mx with | none => exact bnd_none hm | some y => cases hs
      rw [cap_closed ρ a (by omega)]
      obtain ⟨r1, r2, r3, r4, r5, r6⟩ := bounds_run (P := P) (ρ := ρ) (isS := true) (K' := cap) (Nat.le_refl cap) hn (fun _ => hm) (h := h1) (by cases hms : mx.isSome with | true => simpa [hms] using hh | false => rw [hmn hms] at hh; simpa [hms] using hh) hl w
      have em : (if mx.isSome = true then m else cap) = m := by cases hms : mx.isSome with | true => simp | false => simp [hmn hms]
      have hmle : m ≤ cap := by cases hms : mx.isSome with | true => exact r2 hms | false => rw [hmn hms]; exact Nat.le_refl _
      rw [em] at r1
      refine ⟨Grew.refl _, ρ, ?_, ?_, Post.refl hS⟩
      · simp only [r1, Result.andThen_ok, sizeOf_run hi', Sem.run_pure]
        simp only [ren, ren2, ren1, ren0]
        rw [cap_closed _ _ (by omega)]
        split
        · rfl
        · cases a with
          | none => rfl
          | some a => simp only [Option.map_some, addr_add]
      · rw [grow_self]
        cases a with
        | none => split <;> trivial
        | some a =>
          split
          · exact hb
          · show V _; rw [addr_block]; exact hb
  · cases h
end
end Go.Ab
