/- What a run leaves alone. -/
import Derived.Test.YtihcpmebabkagaaGreatAb16
set_option linter.unusedSimpArgs false
set_option linter.unusedVariables false
namespace Go.Ab
section
variable {P : Program} {H H' : Hp}
theorem storeAt_grew {t : TypeId} {v a : Value} (h : storeAt' P H t v a = some H') : Grew H H' := by
  unfold storeAt' at h
  split at h
  · split at h
    · rename_i hg
      simp only [Option.bind_eq_bind, Option.bind_eq_some_iff] at h
      obtain ⟨i, hi, h⟩ := h
      split at h
      · injection h with h; subst h; exact Grew.put hg _
      · cases h
    · cases h
  · cases h
theorem slice_grew {t : TypeId} {x : Value} {lo hi mx : Option Value} {r : Value × Hp} (h : slice' P H t x lo hi mx = some r) : Grew H r.2 := by
  unfold slice' at h
  split at h
  · cases h
  · split at h
    · simp only [Option.bind_eq_bind, Option.bind_eq_some_iff] at h
      obtain ⟨_, _, _, _, _, _, _, _, h⟩ := h
      split at h
      · injection h with h; subst h; exact Grew.refl _
      · cases h
    · split at h
      · split at h
        · split at h
          · cases h
          · simp only [Option.bind_eq_bind, Option.bind_eq_some_iff] at h
            obtain ⟨_, _, h⟩ := h
            split at h
            · simp only [Option.bind_eq_some_iff] at h
              obtain ⟨_, _, _, _, h⟩ := h
              split at h
              · injection h with h; subst h; exact Grew.new _ _
              · injection h with h; subst h; exact Grew.refl _
            · simp only [Option.bind_eq_some_iff] at h
              obtain ⟨_, _, _, _, _, _, h⟩ := h
              split at h
              · injection h with h; subst h; exact Grew.refl _
              · cases h
        · cases h
      · simp only [Option.bind_eq_bind, Option.bind_eq_some_iff] at h
        obtain ⟨_, _, _, _, _, _, _, _, h⟩ := h
        injection h with h; subst h; exact Grew.refl _
    · cases h
theorem appendTo_grew {size : Nat} {base : Option Addr} {n cap m : Nat} {news : Array Value} {s : Value} {r : Value × Hp} (h : appendTo H size base n cap m news s = some r) : Grew H r.2 := by
  unfold appendTo at h
  split at h
  · split at h
    · injection h with h; subst h; exact Grew.refl _
    · split at h
      · split at h
        · rename_i hg
          split at h
          · injection h with h; subst h; exact Grew.put hg _
          · cases h
        · cases h
      · cases h
  · split at h
    · split at h
      · split at h
        · rename_i hg
          split at h
          · injection h with h; subst h; exact (Grew.kill H hg).trans (Grew.new _ _)
          · cases h
        · cases h
      · cases h
    · split at h
      · injection h with h; subst h; exact Grew.new _ _
      · cases h
theorem append_grew {t : TypeId} {t2 : Option TypeId} {s x : Value} {r : Value × Hp} (h : append' P H t t2 s x = some r) : Grew H r.2 := by
  unfold append' at h
  split at h
  · split at h
    · split at h
      · cases h
      · split at h
        · cases h
        · split at h
          · cases h
          · split at h
            · exact appendTo_grew h
            · cases h
    · cases h
  · cases h
theorem copy_grew {t : TypeId} {s x : Value} {r : Value × Hp} (h : copy' P H t s x = some r) : Grew H r.2 := by
  unfold copy' at h
  split at h
  · split at h
    · split at h
      · split at h
        · injection h with h; subst h; exact Grew.refl _
        · split at h
          · split at h
            · rename_i hg
              split at h
              · injection h with h; subst h; exact Grew.put hg _
              · cases h
            · cases h
          · cases h
      · cases h
    · cases h
  · cases h
theorem clear_grew {t : TypeId} {x : Value} {r : Value × Hp} (h : clear' P H t x = some r) : Grew H r.2 := by
  unfold clear' at h
  split at h
  · split at h
    · split at h
      · split at h
        · rename_i hg
          split at h
          · injection h with h; subst h; exact Grew.put hg _
          · cases h
        · cases h
      · cases h
    · cases h
  · injection h with h; subst h; exact Grew.refl _
  · cases h
theorem makeSlice_grew {t : TypeId} {l c : Value} {r : Value × Hp} (h : makeSlice' P H t l c = some r) : Grew H r.2 := by
  unfold makeSlice' at h
  split at h
  · split at h
    · split at h
      · split at h
        · injection h with h; subst h; exact Grew.new _ _
        · cases h
      · cases h
    · cases h
  · cases h
theorem buildSlice_grew {t : TypeId} {len : Nat} {ps : List (Nat × Value)} {r : Value × Hp} (h : buildSlice' P H t len ps = some r) : Grew H r.2 := by
  unfold buildSlice' at h
  split at h
  · split at h
    · split at h
      · split at h
        · split at h
          · injection h with h; subst h; exact Grew.new _ _
          · cases h
        · cases h
      · cases h
    · cases h
  · cases h
theorem conv_grew {src dst : TypeId} {x : Value} {r : Value × Hp} (h : conv' P H src dst x = some (some r)) : Grew H r.2 := by
  unfold conv' at h
  split at h
  · split at h
    · injection h with h; injection h with h; subst h; exact Grew.new _ _
    · cases h
  · split at h
    · split at h
      · split at h
        · injection h with h; injection h with h; subst h; exact Grew.refl _
        · cases h
      · cases h
    · cases h
  · cases h
  · injection h with h; cases h
theorem mapUpdate_grew {t : TypeId} {m k v : Value} (h : mapUpdate' P H t m k v = some H') : Grew H H' := by
  unfold mapUpdate' at h
  split at h
  · split at h
    · rename_i hg
      split at h
      · split at h
        · split at h
          · injection h with h; subst h; exact Grew.put hg _
          · cases h
        · injection h with h; subst h; exact Grew.put hg _
        · cases h
      · cases h
    · cases h
  · cases h
theorem delete_grew {t : TypeId} {m k : Value} (h : delete' P H t m k = some H') : Grew H H' := by
  unfold delete' at h
  split at h
  · split at h
    · rename_i hg
      split at h
      · injection h with h; subst h; exact Grew.put hg _
      · injection h with h; subst h; exact Grew.put hg _
      · cases h
    · cases h
  · cases h
def Res.hp : Res → Hp
  | .val _ H => H
  | .enter _ _ H => H
theorem pureOp_hp {ev : Operand → Value} {o : Oper} {r : Res} (h : aop.pureOp P ev o H = some r) : r.hp = H := by
  unfold aop.pureOp at h
  split at h
  · split at h
    · split at h
      · injection h with h; subst h; rfl
      · cases h
    · cases h
  · cases h
theorem grew_val {α : Type} {f : α → Res} {x : Option α} {r : Res} (h : x.map f = some r) (hf : ∀ a, x = some a → Grew H (f a).hp) : Grew H r.hp := by
  obtain ⟨a, ha, rfl⟩ := mapv h
  exact hf a ha
theorem calls_hp {f : Value} {args : Array Value} {r : Res} (h : calls' P f args H = some r) : r.hp = H := by
  unfold calls' at h
  split at h
  · split at h
    · split at h
      · injection h with h; subst h; rfl
      · cases h
    · cases h
  · cases h
theorem aop_grew {ev : Operand → Value} {o : Oper} {r : Res} (h : aop P ev o H = some r) : Grew H r.hp := by
  have hpure : aop.pureOp P ev o H = some r → Grew H r.hp := fun h => by rw [pureOp_hp h]; exact Grew.refl _
  have hid : ∀ v, some (Res.val v H) = some r → Grew H r.hp := fun v h => by injection h with h; subst h; exact Grew.refl _
  unfold aop at h
  cases ho : o.op <;> rw [ho] at h <;> simp only at h
  case move x => exact hid _ h
  case assign x => exact hid _ h
  case pick c a b =>
    split at h
    · exact hid _ h
    · cases h
  case alloc elem =>
    split at h
    · split at h
      · injection h with h; subst h; exact Grew.new _ _
      · cases h
    · cases h
  case box elem x =>
    split at h
    · injection h with h; subst h; exact Grew.new _ _
    · cases h
  case build t parts => exact grew_val h fun a _ => Grew.refl _
  case buildSlice t len parts => exact grew_val h fun a ha => buildSlice_grew ha
  case load t a => exact grew_val h fun a _ => Grew.refl _
  case store t a x => exact grew_val h fun a ha => storeAt_grew ha
  case nilCheck x =>
    split at h
    · exact hid _ h
    · exact hid _ h
    · exact hid _ h
    · cases h
  case binOp op t x y yt =>
    split at h
    · exact hid _ h
    · exact hid _ h
    · exact hpure h
  case convert src dst x =>
    split at h
    · rename_i r' hr
      injection h with h; subst h; exact conv_grew hr
    · exact hpure h
    · cases h
  case makeFunc fn first captured =>
    split at h
    · split at h
      · exact hid _ h
      · cases h
    · cases h
  case makeMap t r' =>
    split at h
    · split at h
      · injection h with h; subst h; exact Grew.new _ _
      · cases h
    · cases h
  case makeSlice t l c => exact grew_val h fun a ha => makeSlice_grew ha
  case slice t x lo hi mx =>
    split at h
    · exact hpure h
    · exact grew_val h fun a ha => slice_grew ha
  case fieldAddr s x f =>
    split at h
    · split at h
      · split at h
        · split at h
          · cases h
          · exact hid _ h
        · cases h
      · cases h
    · cases h
  case field t x f =>
    split at h
    · split at h
      · exact grew_val h fun a _ => Grew.refl _
      · cases h
    · cases h
  case indexAddr t x ix =>
    split at h
    · split at h
      · split at h
        · exact hid _ h
        · cases h
      · cases h
    · split at h
      · split at h
        · exact hid _ h
        · cases h
      · cases h
    · cases h
  case index t x ix =>
    split at h
    · split at h
      · split at h
        · exact grew_val h fun a _ => Grew.refl _
        · cases h
      · cases h
    · exact hpure h
  case lookup t x ix ok => exact grew_val h fun a _ => Grew.refl _
  case mapUpdate t m k x => exact grew_val h fun a ha => mapUpdate_grew ha
  case insert t m k x => exact grew_val h fun a ha => mapUpdate_grew ha
  case extract t ix =>
    split at h
    · split at h
      · cases h
      · cases h
      · exact hid _ h
    · cases h
  case call c =>
    split at h
    · rw [calls_hp h]; exact Grew.refl _
    · split at h
      · exact hpure h
      · split at h
        · exact grew_val h fun a ha => append_grew ha
        · exact grew_val h fun a ha => copy_grew ha
        · exact grew_val h fun a ha => clear_grew ha
        · exact grew_val h fun a ha => delete_grew ha
        · split at h
          · exact hid _ h
          · cases h
        · split at h
          · exact hid _ h
          · cases h
        · split at h
          · split at h
            · exact hid _ h
            · cases h
          · cases h
        · exact hpure h
    · cases h
  all_goals exact hpure h

def GrewCall (call : CallT) : Prop := ∀ f args H v H', call f args H = some (v, H') → Grew H H'
theorem step_grew {call : CallT} (hc : GrewCall call) {tm tm' : Array Value} {o : Oper} (h : stepOp P call tm H o = some (tm', H')) : Grew H H' := by
  unfold stepOp at h
  split at h
  · rename_i v H1 hv
    injection h with h; injection h with h1 h2; subst h1 h2
    exact aop_grew hv
  · rename_i f args H1 hv
    obtain ⟨r, hr, he⟩ : ∃ r, call f args H1 = some r ∧ (putT tm o.dst r.1, r.2) = (tm', H') := by simpa [Option.map_eq_some_iff] using h
    injection he with h1 h2
    subst h1 h2
    exact (aop_grew hv).trans (hc f args H1 r.1 r.2 hr)
  · cases h
theorem runOps_grew {call : CallT} (hc : GrewCall call) {ops : Array Oper} : ∀ (l : List Oper) {tm tm' : Array Value} {H H' : Hp}, runOps P call ops l tm H = some (tm', H') → Grew H H'
  | [], tm, tm', H, H', h => by simp only [runOps, Option.some.injEq, Prod.mk.injEq] at h; obtain ⟨_, rfl⟩ := h; exact Grew.refl _
  | o :: l, tm, tm', H, H', h => by
    simp only [runOps] at h
    split at h
    · split at h
      · rename_i r hr
        exact (step_grew hc (H' := r.2) (tm' := r.1) hr).trans (runOps_grew hc l h)
      · cases h
    · exact runOps_grew hc l h
/-- What an operation of a region that draws does to what was there. -/
def FootOk (H H' : Hp) : Foot → Prop
  | .still | .ld .. | .loud false => ∀ b, b < H.size → H'.tr.get b = H.tr.get b
  | .st c lo hi => (∀ b, b < H.size → b ≠ c → H'.tr.get b = H.tr.get b) ∧ ∃ cs z cs', H.tr.get c = some (.cells cs z) ∧ H'.tr.get c = some (.cells cs' z) ∧ cs'.size = cs.size ∧ ∀ j, ¬ (lo ≤ j ∧ j < hi) → cs'[j]? = cs[j]?
  | .loud true => True
theorem mask_grew {ms : List (Nat × Nat)} {l : Nat} (h : Grew { H with msk := ms ++ H.msk, low := l } H') (hl : H.size ≤ l) : Grew H { H' with msk := H.msk, low := min H.low H'.low } := by
  refine ⟨h.size, rfl, Nat.min_le_left _ _, fun b hb hl' => h.kept b hb ?_, h.dead, fun b hb hh => h.hid b hb ?_, h.fresh⟩
  · have : b < min H.low H'.low := hl'
    omega
  · show (ms ++ H.msk).any _ = true
    rw [List.any_append, Bool.or_eq_true]
    exact .inr hh
theorem drawStep_grew {call : CallT} (hc : GrewCall call) {tm tm' : Array Value} {o : Oper} {ms : List (Nat × Nat)} {f : Foot} (h : drawStep P call tm H ms o = some (tm', H', f)) : Grew H H' ∧ FootOk H H' f ∧ ∀ b, b < H.size → (ms.any fun m => m.1 ≤ b && b < m.2) = true → H'.tr.get b = H.tr.get b := by
  unfold drawStep at h
  split at h
  · split at h
    · rename_i v Hr hv
      split at h
      · simp only [Option.some.injEq, Prod.mk.injEq] at h
        obtain ⟨_, rfl, rfl⟩ := h
        exact ⟨Grew.refl _, fun _ _ => rfl, fun _ _ _ => rfl⟩
      · split at h
        · simp only [Option.some.injEq, Prod.mk.injEq] at h
          obtain ⟨_, rfl, rfl⟩ := h
          exact ⟨Grew.new _ _, fun b hb => by rw [Hp.tr_new, if_neg (by omega)], fun b hb _ => by rw [Hp.tr_new, if_neg (by omega)]⟩
        · cases h
    · cases h
  · split at h
    · split at h
      · split at h
        · simp only [Option.some.injEq, Prod.mk.injEq] at h
          obtain ⟨_, rfl, rfl⟩ := h
          exact ⟨Grew.refl _, fun _ _ => rfl, fun _ _ _ => rfl⟩
        · cases h
      · cases h
    · split at h
      · rename_i b off _
        split at h
        · rename_i H1 i hst hi
          simp only [Option.some.injEq, Prod.mk.injEq] at h
          obtain ⟨_, rfl, rfl⟩ := h
          unfold storeAt' at hst
          simp only at hst
          split at hst
          · rename_i cs z hg
            simp only [Option.bind_eq_bind, Option.bind_eq_some_iff] at hst
            obtain ⟨i', hi', hst⟩ := hst
            rw [hi] at hi'
            injection hi' with hi'
            subst hi'
            split at hst
            · rename_i hcond
              obtain ⟨hc1, hc2, hc3⟩ := hcond
              injection hst with hst
              subst hst
              have hgs := Hp.get_some hg
              have hg' : H.tr.get b = some (.cells cs z) := hgs.2
              have hhid : H.hid b = false := by
                have := hgs.1
                unfold Hp.hid at this ⊢
                simp only [List.any_append, Bool.or_eq_false_iff] at this
                exact this.2
              have hgv : H.get b = some (.cells cs z) := by rw [Hp.get_eq, hhid]; exact hg'
              refine ⟨Grew.put hgv _, ⟨fun c hc hne => by show (H.tr.set b _).get c = _; rw [Tr.get_set, if_neg hne], cs, z, _, hg', by show (H.tr.set b _).get b = _; rw [Tr.get_set, if_pos rfl], setCells_size _ _ _, fun j hj => ?_⟩, fun c hc hm => ?_⟩
              · rw [setCells_get, if_neg]
                rw [Array.length_toList, hc1]
                omega
              · show (H.tr.set b _).get c = _
                rw [Tr.get_set, if_neg]
                rintro rfl
                have := hgs.1
                unfold Hp.hid at this
                simp only [List.any_append, Bool.or_eq_false_iff] at this
                rw [hm] at this
                cases this.1
            · cases hst
          · cases hst
        · cases h
      · cases h
    · split at h
      · rename_i tm1 H1 hs
        simp only [Option.some.injEq, Prod.mk.injEq] at h
        obtain ⟨_, rfl, rfl⟩ := h
        have hg := step_grew hc hs
        refine ⟨mask_grew hg (Nat.le_refl _), ?_, fun b hb hm => hg.hid b hb (by
          show (ms ++ H.msk).any _ = true
          rw [List.any_append, Bool.or_eq_true]
          exact .inl hm)⟩
        by_cases hl : H1.low < H.size
        · rw [decide_eq_true hl]; trivial
        · rw [decide_eq_false hl]
          exact fun b hb => hg.kept b hb (by omega)
      · cases h
theorem drawOps_grew {call : CallT} (hc : GrewCall call) {ops : Array Oper} {b : Array Nat} : ∀ (l : List Oper) {did : List Did} {tm tm' : Array Value} {H H' : Hp}, drawOps P call ops b l did tm H = some (tm', H') → Grew H H'
  | [], did, tm, tm', H, H', h => by simp only [drawOps, Option.some.injEq, Prod.mk.injEq] at h; obtain ⟨_, rfl⟩ := h; exact Grew.refl _
  | o :: l, did, tm, tm', H, H', h => by
    simp only [drawOps] at h
    split at h
    · split at h
      · rename_i tm1 H1 f hs
        split at h
        · cases h
        · exact (drawStep_grew hc hs).1.trans (drawOps_grew hc l h)
      · cases h
    · exact drawOps_grew hc l h
theorem loopN_grew {body : StepT} (hb : ∀ {tm tm' H H' ex}, body tm H = some (ex, tm', H') → Grew H H') : ∀ (n : Nat) {tm tm' : Array Value} {H H' : Hp} {ex : Ex}, loopN body n tm H = some (ex, tm', H') → Grew H H'
  | 0, _, _, _, _, _, h => by cases h
  | n + 1, tm, tm', H, H', ex, h => by
    simp only [loopN] at h
    split at h
    · rename_i tm1 H1 h1
      exact (hb h1).trans (loopN_grew hb n h)
    · exact hb h
theorem code_grew {call : CallT} (hc : GrewCall call) (N : Nat) : ∀ (c : Code) {tm tm' : Array Value} {H H' : Hp} {ex : Ex}, aCode P call N c tm H = some (ex, tm', H') → Grew H H' := by
  intro c
  induction c with
  | region id ops draw =>
    intro tm tm' H H' ex h
    simp only [aCode] at h
    split at h
    · split at h
      · split at h
        · simp only [Option.map_eq_some_iff, Prod.mk.injEq] at h
          obtain ⟨⟨tm1, H1⟩, hr, rfl, rfl, rfl⟩ := h
          exact drawOps_grew hc _ hr
        · cases h
      · simp only [Option.map_eq_some_iff, Prod.mk.injEq] at h
        obtain ⟨⟨tm1, H1⟩, hr, rfl, rfl, rfl⟩ := h
        exact runOps_grew hc _ hr
    · cases h
  | seq x y ihx ihy =>
    intro tm tm' H H' ex h
    simp only [aCode] at h
    split at h
    · rename_i tm1 H1 h1
      exact (ihx h1).trans (ihy h)
    · exact ihx h
  | cond c x y ihx ihy =>
    intro tm tm' H H' ex h
    simp only [aCode] at h
    split at h
    · exact ihx h
    · exact ihy h
    · cases h
  | block id body ih =>
    intro tm tm' H H' ex h
    simp only [aCode] at h
    split at h
    · rename_i id' tm1 H1 h1
      split at h
      · simp only [Option.some.injEq, Prod.mk.injEq] at h
        obtain ⟨rfl, rfl, rfl⟩ := h
        exact ih h1
      · simp only [Option.some.injEq, Prod.mk.injEq] at h
        obtain ⟨rfl, rfl, rfl⟩ := h
        exact ih h1
    · exact ih h
  | loop body ih =>
    intro tm tm' H H' ex h
    simp only [aCode] at h
    exact loopN_grew (fun h => ih h) N h
  | skip => intro tm tm' H H' ex h; simp only [aCode, Option.some.injEq, Prod.mk.injEq] at h; obtain ⟨rfl, rfl, rfl⟩ := h; exact Grew.refl _
  | label l => intro tm tm' H H' ex h; simp only [aCode, Option.some.injEq, Prod.mk.injEq] at h; obtain ⟨rfl, rfl, rfl⟩ := h; exact Grew.refl _
  | exit id => intro tm tm' H H' ex h; simp only [aCode, Option.some.injEq, Prod.mk.injEq] at h; obtain ⟨rfl, rfl, rfl⟩ := h; exact Grew.refl _
  | ret => intro tm tm' H H' ex h; simp only [aCode, Option.some.injEq, Prod.mk.injEq] at h; obtain ⟨rfl, rfl, rfl⟩ := h; exact Grew.refl _
  | _ => intro tm tm' H H' ex h; simp [aCode] at h
theorem body_grew {call : CallT} (hc : GrewCall call) (N : Nat) : GrewCall (aBody P call N) := by
  intro f args H v H' h
  unfold aBody at h
  split at h
  · cases h
  · split at h
    · cases h
    · split at h
      · rename_i tm1 H1 hcode
        simp only [Option.map_eq_some_iff, Prod.mk.injEq] at h
        obtain ⟨_, _, _, rfl⟩ := h
        exact code_grew hc N _ hcode
      · rename_i tm1 H1 hcode
        simp only [Option.map_eq_some_iff, Prod.mk.injEq] at h
        obtain ⟨_, _, _, rfl⟩ := h
        exact code_grew hc N _ hcode
      · cases h
theorem callN_grew {ext : CallT} (he : GrewCall ext) (N : Nat) : ∀ d, GrewCall (callN P ext N d)
  | 0 => fun f args H v H' h => by cases h
  | d + 1 => by
    intro f args H v H' h
    simp only [callN] at h
    split at h
    · rename_i r hr
      injection h with h
      subst h
      exact he f args H v H' hr
    · exact body_grew (callN_grew he N d) N f args H v H' h
end
end Go.Ab
