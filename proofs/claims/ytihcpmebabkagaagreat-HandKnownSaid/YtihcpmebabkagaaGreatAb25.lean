/- Regions that draw: whole. -/
import Derived.Test.YtihcpmebabkagaaGreatAb24
import Derived.Test.YtihcpmebabkagaaGreatAb16
set_option linter.unusedSimpArgs false
set_option linter.unusedVariables false
namespace Go.Ab
theorem cnt_set : ∀ (l : List Bool) (i : Nat), l[i]? = some false → (l.set i true).countP (!·) + 1 = l.countP (!·)
  | [], i, h => by simp at h
  | x :: l, 0, h => by
    simp at h
    subst h
    simp
  | x :: l, i + 1, h => by
    have := cnt_set l i (by simpa using h)
    simp only [List.set_cons_succ, List.countP_cons]
    omega
section
variable {P : Program} {call : CallT} {ops : Array Oper} {T : Nat → Array Value} {G : Nat → Hp} {F : Nat → Foot} {ρ0 ρ : Ren} {V0 : Nat → Prop} {w0 w : World} {S : Nat → Prop} {a : Act} {k : Nat}
theorem Reg.grew (R : Reg P call ops T G F) : ∀ {j : Nat}, j ≤ ops.size → Grew (G 0) (G j)
  | 0, _ => Grew.refl _
  | j + 1, h => (R.grew (j := j) (by omega)).trans (R.step (k := j) (by omega)).1
/-- All have run. -/
theorem inv_end (R : Reg P call ops T G F) (hI : Inv ops T G ρ0 V0 w0 S ρ a w) (hall : ∀ i, i < ops.size → S i) (hm0 : ∀ b, (G 0).hid b = true → b < (G 0).size) :
    PostG ρ0 V0 (G 0) w0 ρ (G ops.size) w ∧ CSim ρ (grow V0 (G 0).size (G ops.size).size) (T ops.size) (G ops.size) a w := by
  have hst : ∀ ℓ : Loc, ℓ.blk < (G ops.size).size → Stage ops G S ops.size ℓ := fun ℓ hb => ⟨Nat.le_refl _, hb, fun i hi _ _ => ⟨fun _ => hi, fun _ => hall i hi⟩⟩
  have hle := R.mono (Nat.zero_le ops.size) (Nat.le_refl _)
  have hpg : ∀ b, Pres V0 G S b → grow V0 (G 0).size (G ops.size).size b := by
    rintro b (h | ⟨i, hi, h1, h2⟩)
    · exact .inl h
    · have hil := hI.shut.lt i hi
      have := R.mono (Nat.zero_le i) (Nat.le_of_lt hil)
      have := R.mono (i := i + 1) (j := ops.size) (by omega) (Nat.le_refl _)
      exact .inr ⟨by omega, by omega⟩
  have hgp : ∀ b, grow V0 (G 0).size (G ops.size).size b → Pres V0 G S b := by
    rintro b (h | ⟨h1, h2⟩)
    · exact .inl h
    · have key : ∀ j, j ≤ ops.size → b < (G j).size → ∃ i, i < j ∧ (G i).size ≤ b ∧ b < (G (i + 1)).size := by
        intro j
        induction j with
        | zero => intro _ h; omega
        | succ j ih =>
          intro hj h
          by_cases hb : b < (G j).size
          · obtain ⟨i, g1, g2⟩ := ih (by omega) hb
            exact ⟨i, by omega, g2⟩
          · exact ⟨j, by omega, by omega, h⟩
      obtain ⟨i, g1, g2, g3⟩ := key ops.size (Nat.le_refl _) h2
      exact .inr ⟨i, hall i g1, g2, g3⟩
  have hbd : ∀ b, grow V0 (G 0).size (G ops.size).size b → b < (G ops.size).size := by
    rintro b (h | h)
    · have := hI.v0 b h; omega
    · exact h.2
  have hps : ∀ m b, PS V0 G S m b → grow V0 (G 0).size (G ops.size).size b := fun m b hb => hpg b hb.1
  have hgrew := R.grew (Nat.le_refl ops.size)
  have hholds : ∀ ℓ : Loc, grow V0 (G 0).size (G ops.size).size ℓ.blk → Holds ρ (grow V0 (G 0).size (G ops.size).size) w ℓ (lv (G ops.size) ℓ) := by
    intro ℓ hb
    obtain ⟨m, h1, h2, h3⟩ := hI.loc ℓ (hgp _ hb)
    rw [Stage.unique R h1 (hst ℓ (hbd _ hb))] at h3
    exact h3.mono (hps m)
  have hT : ∀ t : Nat, ∃ m, a.tmps[t]? = ((T ops.size)[t]?).map (ren ρ) ∧ ∀ v, (T ops.size)[t]? = some v → Bd (PS V0 G S m) v := by
    intro t
    obtain ⟨m, h1, h2, h3⟩ := hI.tmp t
    have key : ∀ d, m + d ≤ ops.size → (T (m + d))[t]? = (T m)[t]? := by
      intro d
      induction d with
      | zero => intro _; rfl
      | succ d ih =>
        intro hd
        rw [← ih (by omega), ← Nat.add_assoc]
        refine R.same (m + d) (by omega) t fun he => ?_
        have := (h1.iff (m + d) (by omega) he).1 (hall _ (by omega))
        omega
    have e := key (ops.size - m) (by have := h1.le; omega)
    rw [show m + (ops.size - m) = ops.size by have := h1.le; omega] at e
    exact ⟨m, by rw [e]; exact h2, by rw [e]; exact h3⟩
  have hsim : Sim ρ (grow V0 (G 0).size (G ops.size).size) (G ops.size) w := by
    refine ⟨R.fresh (Nat.le_refl _), fun b hb => ?_, hbd, fun b o h => ?_, fun b cs z hb hg => ?_, fun b es ck hb hg => ?_, fun b c o o' hb hc h1 h2 he => ?_⟩
    · rw [R.hid (Nat.le_refl _)] at hb
      have := hm0 b hb; omega
    · obtain ⟨h1, h2⟩ := Hp.get_some h
      rw [R.hid (Nat.le_refl _)] at h1
      by_cases hb : b < (G 0).size
      · cases hg0 : (G 0).tr.get b with
        | none => rw [hgrew.dead b hb hg0] at h2; cases h2
        | some o0 => exact .inl (hI.vis0 b o0 (by rw [Hp.get_eq, h1]; exact hg0))
      · refine .inr ⟨by omega, ?_⟩
        rcases Nat.lt_or_ge b (G ops.size).size with h | h
        · exact h
        · rw [R.fresh (Nat.le_refl _) b h] at h2; cases h2
    · have hs := hholds (.shp b) hb
      have e : lv (G ops.size) (.shp b) = some (.inr (.row cs.size z)) := by simp only [lv, hg]
      rw [e] at hs
      have hcell : ∀ j u, cs[j]? = some u → w.cell? ⟨ρ.β b, ρ.δ b + j, none⟩ = some (ren1 ρ u) ∧ Cl (grow V0 (G 0).size (G ops.size).size) u := by
        intro j u hu
        have hc := hholds (.cell b j) hb
        have e : lv (G ops.size) (.cell b j) = some (.inl u) := by simp only [lv, hg, hu, Option.map_some]
        rw [e] at hc
        exact hc
      refine ⟨⟨hs.1, fun j u hu => (hcell j u hu).1, hs.2⟩, fun u hu => ?_⟩
      obtain ⟨j, hj⟩ := Array.mem_iff_getElem?.1 hu
      exact (hcell j u hj).2
    · have hs := hholds (.shp b) hb
      have e : lv (G ops.size) (.shp b) = some (.inr (.map es ck)) := by simp only [lv, hg]
      rw [e] at hs
      exact hs
    · exact hI.inj b c _ _ (hgp b hb) (hgp c hc) (hst (.shp b) (hbd b hb)) (hst (.shp c) (hbd c hc)) (lv_live' h1) (lv_live' h2) he
  refine ⟨⟨hgrew, hI.ext, hsim, hI.os, hI.tape, hI.output, hI.size, hI.blk, ?_⟩, ?_, hI.defers, fun x hx => ?_, hsim⟩
  · rintro c ⟨b, o, hb, hg, rfl⟩
    obtain ⟨h1, h2⟩ := Hp.get_some hg
    rw [R.hid (Nat.le_refl _)] at h1
    exact hI.img b ops.size (hgp b hb) h1 (hst (.shp b) (hbd b hb)) (lv_live' h2)
  · refine Array.ext_getElem? fun t => ?_
    obtain ⟨m, h1, _⟩ := hT t
    rw [h1, Array.getElem?_map]
  · obtain ⟨t, ht⟩ := Array.mem_iff_getElem?.1 hx
    obtain ⟨m, _, h2⟩ := hT t
    exact (h2 x ht).mono (hps m)
theorem ready_of (hI : Inv ops T G ρ0 V0 w0 S ρ a w) (hlt : k < ops.size) (hn : ¬ S k) (h : ∀ o, ops[k]? = some o → ∀ e ∈ o.after, Region.binds .any e = true → S e.on) : Ready ops S k := by
  refine ⟨hlt, hn, fun i hi => ?_⟩
  obtain ⟨o, ho, e, he, hb, hor⟩ := before_bit hi
  have hs := h o ho e he hb
  rcases hor with rfl | hor
  · exact hs
  · exact hI.shut.shut _ hs i hor
theorem any_sound (hcall : SoundCall P call) (R : Reg P call ops T G F) (hop : ∀ o ∈ ops, o.op.operands.all operOk = true) (hm0 : ∀ b, (G 0).hid b = true → b < (G 0).size) {Q : Exit → Act → World → Prop}
    (hQ : ∀ ρ' a' w', PostG ρ0 V0 (G 0) w0 ρ' (G ops.size) w' → CSim ρ' (grow V0 (G 0).size (G ops.size).size) (T ops.size) (G ops.size) a' w' → Q .normal a' w') :
    ∀ (fuel : Nat) (listed : Array Bool) (ρ : Ren) (a : Act) (w : World), listed.size = ops.size → listed.toList.countP (!·) ≤ fuel → Inv ops T G ρ0 V0 w0 (fun i => listed.getD i false = true) ρ a w → wpAny P .any ops Q fuel listed a w := by
  intro fuel
  induction fuel with
  | zero =>
    intro listed ρ a w hsz hc hI
    have hall : ∀ i, i < ops.size → listed.getD i false = true := by
      intro i hi
      cases hl : listed.getD i false with
      | true => rfl
      | false =>
        have hx : listed[i]'(by omega) = false := by simpa [Array.getD_eq_getD_getElem?, show i < listed.size by omega] using hl
        have hm : false ∈ listed.toList := by rw [← hx]; exact Array.mem_def.1 (Array.getElem_mem _)
        have := List.countP_pos_iff (p := (!·)) (l := listed.toList) |>.2 ⟨false, hm, rfl⟩
        omega
    refine ⟨?_, ?_⟩
    · refine List.eq_nil_iff_forall_not_mem.2 fun j hj => ?_
      obtain ⟨h1, o, ho, _⟩ := mem_ready.1 hj
      have hjl : j < ops.size := (Array.getElem?_eq_some_iff.1 ho).1
      have := hall j hjl
      simp only [Array.getD_eq_getD_getElem?, Array.getElem?_eq_getElem (show j < listed.size by omega), Option.getD_some] at h1 this
      rw [h1] at this; cases this
    · obtain ⟨h1, h2⟩ := inv_end R hI hall hm0
      exact hQ ρ a w h1 h2
  | succ fuel ih =>
    intro listed ρ a w hsz hc hI
    refine ⟨fun hnil => ?_, fun i hi => ?_⟩
    · have hall : ∀ i, i < ops.size → listed.getD i false = true := by
        intro i
        induction i using Nat.strongRecOn with
        | _ i ihi =>
          intro hi
          cases hl : listed.getD i false with
          | true => rfl
          | false =>
            have hr : i ∈ Region.ready .any ops listed := by
              refine mem_ready.2 ⟨?_, ops[i], by simp [hi], fun e he hb => ?_⟩
              · simp only [Array.getD_eq_getD_getElem?, Array.getElem?_eq_getElem (show i < listed.size by omega), Option.getD_some] at hl ⊢
                exact hl
              · have hok := R.ok
                unfold drawOk at hok
                rw [Bool.and_eq_true] at hok
                have := backAll_spec ops.toList 0 hok.2 i ops[i] (by simp [hi]) e he hb
                exact ihi e.on (by omega) (by omega)
            rw [hnil] at hr
            cases hr
      obtain ⟨h1, h2⟩ := inv_end R hI hall hm0
      exact hQ ρ a w h1 h2
    · obtain ⟨h1, o, ho, hed⟩ := mem_ready.1 hi
      have hlt : i < ops.size := (Array.getElem?_eq_some_iff.1 ho).1
      have hx : listed[i]'(by omega) = false := by simpa [Array.getD_eq_getD_getElem?, show i < listed.size by omega] using h1
      have hready : Ready ops (fun i => listed.getD i false = true) i := by
        refine ready_of hI hlt (by simp [Array.getD_eq_getD_getElem?, show i < listed.size by omega, hx]) fun o' ho' e he hb => ?_
        rw [ho] at ho'
        injection ho' with ho'
        subst ho'
        exact hed e he hb
      refine inv_step hcall R hI hready hop hm0 fun ρ' a' w' hI' => ?_
      refine ih _ ρ' a' w' (by simp [hsz]) ?_ ?_
      · have := cnt_set listed.toList i (by simp [show i < listed.size by omega, hx])
        rw [Array.toList_setIfInBounds]
        omega
      · have e : (fun j => (listed.setIfInBounds i true).getD j false = true) = And1 (fun i => listed.getD i false = true) i := by
          funext j
          apply propext
          unfold And1
          by_cases hj : j = i
          · subst hj
            simp [show j < listed.size by omega]
          · rw [getD_set_ne false (Ne.symm hj)]
            exact ⟨.inl, fun h => h.resolve_right hj⟩
        rw [e]
        exact hI'
theorem soundDraw (hm : P.follows .mixedOrders = true) (hcall : SoundCall P call) (hgrew : GrewCall call) : SoundDraw P call := by
  intro id ops Q hop hok ρ V H H' tm tm' a w hrun hC hn
  obtain ⟨T, G, F, t0, g0, tn, gn, hat⟩ := trace_of ops.toList [] tm tm' H H' hrun
  rw [Array.length_toList] at tn gn
  have R : Reg P call ops T G F := ⟨fun k o h => by simpa using hat k o (by simpa using h), hgrew, hok, by rw [g0]; exact hC.sim.fresh⟩
  have hm0 : ∀ b, (G 0).hid b = true → b < (G 0).size := by rw [g0]; exact hC.sim.mlt
  refine wp_region_any hm (any_sound (ρ0 := ρ) (V0 := V) (w0 := w) hcall R hop hm0 ?_ ops.size _ ρ a _ (by simp) ?_ ?_)
  · rw [g0, tn, gn]; exact fun ρ' a' w' h1 h2 => hn ρ' a' w' h1 h2
  · exact Nat.le_trans List.countP_le_length (by simp)
  · have hf : ∀ i, ¬ ((Array.replicate ops.size false).getD i false = true) := by
      intro i
      simp only [Array.getD_eq_getD_getElem?, Array.getElem?_replicate]
      split <;> simp
    have hs0 : ∀ ℓ : Loc, ℓ.blk < H.size → Stage ops G (fun i => (Array.replicate ops.size false).getD i false = true) 0 ℓ := fun ℓ hb => ⟨Nat.zero_le _, by rw [g0]; exact hb, fun i _ _ _ => ⟨fun h => absurd h (hf i), fun h => by omega⟩⟩
    have hpv : ∀ b, Pres V G (fun i => (Array.replicate ops.size false).getD i false = true) b → V b := fun b h => h.resolve_right fun ⟨i, hi, _⟩ => hf i hi
    have hvp : ∀ b, V b → PS V G (fun i => (Array.replicate ops.size false).getD i false = true) 0 b := fun b h => ⟨.inl h, by rw [g0]; exact hC.sim.bound b h⟩
    have hlv : ∀ {b m}, Pres V G (fun i => (Array.replicate ops.size false).getD i false = true) b → Stage ops G (fun i => (Array.replicate ops.size false).getD i false = true) m (.shp b) → lv (G m) (.shp b) ≠ none → ∃ o, H.tr.get b = some o := by
      intro b m hb hst hl
      rw [Stage.unique R hst (hs0 (.shp b) (hC.sim.bound b (hpv b hb))), g0] at hl
      exact lv_live hl
    refine ⟨⟨fun k h => absurd h (hf k), fun k h => absurd h (hf k)⟩, Ext.refl _ _, by rw [g0]; exact hC.sim.bound, by rw [g0]; exact hC.sim.vis, hC.defers, fun t => ?_, fun ℓ hp => ?_, fun b c m m' hb hc h1 h2 l1 l2 he => ?_, rfl, rfl, rfl, Nat.le_refl _, fun c _ _ => rfl, fun b m hb hh hst hl => ?_⟩
    · refine ⟨0, ⟨Nat.zero_le _, fun i _ _ => ⟨fun h => absurd h (hf i), fun h => by omega⟩, .inl rfl⟩, by rw [hC.tmps, t0, Array.getElem?_map], fun v hv => ?_⟩
      rw [t0] at hv
      exact (hC.bd v (Array.mem_of_getElem? hv)).mono hvp
    · refine ⟨0, hs0 ℓ (hC.sim.bound _ (hpv _ hp)), .inl rfl, ?_⟩
      rw [g0]
      exact ((Holds.of_sim hC.sim ℓ (hpv _ hp)).move (Ext.refl _ _) (fun _ h => h) rfl rfl rfl rfl).mono hvp
    · obtain ⟨o, ho⟩ := hlv hb h1 l1
      obtain ⟨o', ho'⟩ := hlv hc h2 l2
      exact hC.sim.inj b c o o' (hpv b hb) (hpv c hc) ho ho' he
    · obtain ⟨o, ho⟩ := hlv hb hst hl
      rw [g0] at hh ⊢
      exact .inl ⟨b, o, hpv b hb, by rw [Hp.get_eq, hh]; exact ho, rfl⟩
/-- The abstract machine is sound. -/
theorem sound_callN (hm : P.follows .mixedOrders = true) {ext : CallT} (hext : SoundCall P ext) (hg : GrewCall ext) (N : Nat) : ∀ d, SoundCall P (callN P ext N d)
  | 0 => fun f args H v H' h => by cases h
  | d + 1 => by
    intro f args H v H' h ρ V w hS hb
    have ih := sound_callN hm hext hg N d
    simp only [callN] at h
    split at h
    · rename_i r hr
      injection h with h
      subst h
      exact hext f args H v H' hr ρ V w hS hb
    · exact body_sound ih (soundDraw hm ih (callN_grew hg N d)) N f args H v H' h ρ V w hS hb
end
end Go.Ab
