/- Regions that draw: loads and stores. -/
import Derived.Test.YtihcpmebabkagaaGreatAb22
set_option linter.unusedSimpArgs false
set_option linter.unusedVariables false
namespace Go.Ab
section
variable {P : Program} {ρ : Ren} {V : Nat → Prop} {H H' : Hp} {w : World}
theorem load_core {t : TypeId} {i : TypeInfo} {b o z : Nat} {cs : Array Value} {v : Value} (hg : H.get b = some (.cells cs z)) (hi : P.info? t = some i)
    (hcell : ∀ j u, o ≤ j → j < o + max 1 i.size → cs[j]? = some u → w.cell? ⟨ρ.β b, ρ.δ b + j, none⟩ = some (ren1 ρ u) ∧ Cl V u) (h : loadAt' P H t (.pointer (some ⟨b, o, none⟩)) = some v) :
    (Instr.loadAt t (ren ρ (.pointer (some ⟨b, o, none⟩)))).run P w = .ok (ren ρ v) w ∧ Bd V v := by
  simp only [loadAt', hg] at h
  unfold Instr.loadAt Instr.sureAddr loadVar
  rw [ren_ptr]
  simp only
  split at h
  · rename_i ha
    simp only [Option.bind_eq_bind, Option.bind_eq_some_iff] at h
    obtain ⟨i', hi', h⟩ := h
    rw [hi] at hi'
    injection hi' with hi'
    subst hi'
    split at h
    · rename_i hle
      injection h with h
      subst h
      have hx : ∀ j x, (cs.extract o (o + i.size))[j]? = some x → w.cell? ⟨ρ.β b, ρ.δ b + (o + j), none⟩ = some (ren1 ρ x) ∧ Cl V x := by
        intro j x hx
        rw [Array.getElem?_extract] at hx
        split at hx
        · exact hcell (o + j) x (by omega) (by omega) hx
        · cases hx
      refine ⟨?_, fun x hm => ?_⟩
      · have hl : ((cs.extract o (o + i.size)).toList.map (ren1 ρ)).length = i.size := by simp; omega
        have hr := run_loadCells_list (P := P) w ⟨ρ.β b, ρ.δ b + o, none⟩ ((cs.extract o (o + i.size)).toList.map (ren1 ρ)) (fun j u hu => by
          rw [List.getElem?_map, Option.map_eq_some_iff] at hu
          obtain ⟨x, hx', rfl⟩ := hu
          rw [add_mk, Nat.add_assoc]
          rw [Array.getElem?_toList] at hx'
          exact (hx j x hx').1)
        rw [hl] at hr
        simp only [Sem.run_bind, Sem.run_pure, Result.andThen_ok, isAgg_run ha, if_true, sizeOf_run hi, hr, ren, ren2]
        congr 2
        apply Array.ext'
        simp
      · obtain ⟨j, hj⟩ := Array.mem_iff_getElem?.1 hm
        exact (hx j x hj).2.bd
    · cases h
  · rename_i ha
    cases hc : cs[o]? with
    | none => rw [hc] at h; cases h
    | some u =>
      rw [hc] at h
      simp only at h
      split at h
      · rename_i h1
        injection h with h
        subst h
        obtain ⟨hcl, hB⟩ := hcell o u (Nat.le_refl _) (by omega) hc
        refine ⟨?_, ?_⟩
        · simp only [Sem.run_bind, Sem.run_pure, Result.andThen_ok, isAgg_run ha, Bool.false_eq_true, if_false, run_load, hcl, ren_one h1]
        · have hB' := hB.bd
          cases u
          case agg cs => simp [one] at h1
          case tuple cs => simp [one] at h1
          all_goals exact hB'
      · cases h
  · cases h
theorem store_core {t : TypeId} {i : TypeInfo} {b o n : Nat} {v : Value} (hi : P.info? t = some i) (h1 : v.cells.size = i.size) (h3 : v.cells.all one = true) (hb : Bd V v) (hle : o + i.size ≤ n)
    (hfree : ∀ j, j < n → (w.cell? ⟨ρ.β b, ρ.δ b + j, none⟩).isSome = true ∧ w.frozen? ⟨ρ.β b, ρ.δ b + j, none⟩ = false) :
    (Instr.storeAt t (ren ρ (.pointer (some ⟨b, o, none⟩))) (ren ρ v)).run P w = .ok () (w.setCells (ρ.β b) (ρ.δ b + o) (v.cells.toList.map (ren1 ρ))) := by
  unfold Instr.storeAt Instr.sureAddr storeVar
  rw [ren_ptr]
  simp only [Sem.run_bind, Sem.run_pure, Result.andThen_ok, sizeOf_run hi, ren_cells_size h3, h1, ne_eq, not_true_eq_false, if_false]
  rw [cells_one h3, Array.toList_map]
  refine run_storeCells_cells (P := P) (ρ.β b) (ρ.δ b + o) (v.cells.toList.map (ren1 ρ)) 0 w (fun j hj => ?_) (fun j hj => ?_) (fun x hx => ?_)
  · rw [List.length_map, Array.length_toList] at hj
    have := (hfree (o + j) (by omega)).1
    rwa [show ρ.δ b + o + 0 + j = ρ.δ b + (o + j) by omega]
  · rw [List.length_map, Array.length_toList] at hj
    have := (hfree (o + j) (by omega)).2
    rwa [show ρ.δ b + o + 0 + j = ρ.δ b + (o + j) by omega]
  · obtain ⟨u, hu, rfl⟩ := List.mem_map.1 hx
    exact one_ren (all_mem h3 u hu)
/-- Reading a row behind a write. -/
theorem wset_cell {b o d : Nat} {vs : List Value} (hd : d = o) {j : Nat} {c : Array Value} {ty : TypeId} {fr : Nat × Nat} (hw : w.heap[b]? = some (.cells c ty fr)) :
    (w.setCells b o vs).cell? ⟨b, j, none⟩ = if o ≤ j ∧ j < o + vs.length ∧ j < c.size then vs[j - o]? else w.cell? ⟨b, j, none⟩ := by
  obtain ⟨f1, f2, f3, f4, f5, f6, f7⟩ := wset_facts b vs o w
  have hn := f7 c ty fr hw
  simp only [World.cell?, hn, hw, Option.isSome_none, Bool.false_eq_true, if_false]
  rw [setCells_get]
end
section
variable {P : Program} {call : CallT} {ops : Array Oper} {T : Nat → Array Value} {G : Nat → Hp} {F : Nat → Foot} {ρ0 ρ : Ren} {V0 : Nat → Prop} {w0 w : World} {S : Nat → Prop} {a : Act} {k : Nat}
/-- k wrote some cells of one row. -/
theorem inv_store (R : Reg P call ops T G F) (hI : Inv ops T G ρ0 V0 w0 S ρ a w) (hk : Ready ops S k) {o : Oper} (ho : ops[k]? = some o) {b off z n : Nat} {cs : Array Value} {vs : List Value} (hF : F k = .st b off (off + n)) (hlen : vs.length = n)
    (hp : PS V0 G S k b) (h0 : (G 0).hid b = false) (hg : (G k).tr.get b = some (.cells cs z)) (hle : off + n ≤ cs.size) (hb : ∀ u ∈ vs, Cl (PS V0 G S k) u)
    (hG : ∀ c, (G (k + 1)).tr.get c = if c = b then some (.cells (setCells cs off vs) z) else (G k).tr.get c) (hsz : (G (k + 1)).size = (G k).size) (hT : T (k + 1) = putT (T k) o.dst undef) :
    Inv ops T G ρ0 V0 w0 (And1 S k) ρ (a.put o.dst undef) (w.setCells (ρ.β b) (ρ.δ b + off) (vs.map (ren1 ρ))) := by
  obtain ⟨f1, f2, f3, f4, f5, f6, f7⟩ := wset_facts (ρ.β b) (vs.map (ren1 ρ)) (ρ.δ b + off) w
  have hsh : ∀ c, ¬ Chg' G k (.shp c) := by
    intro c hc
    apply hc
    simp only [lv, hG]
    by_cases h : c = b
    · subst h; rw [if_pos rfl, hg]; simp only [setCells_size]
    · rw [if_neg h]
  have hpr : ∀ c, Pres V0 G (And1 S k) c → Pres V0 G S c := fun c hc => (Pres.and1.1 hc).resolve_right (by omega)
  have hps : Stage ops G S k (.shp b) := Stage.ready R hI.shut hk hp.2 (by rw [hF]; rfl)
  have halive : lv (G k) (.shp b) ≠ none := lv_live' hg
  obtain ⟨⟨c0, ty, fr, hobj⟩, hfree⟩ : (∃ c ty fr, w.heap[ρ.β b]? = some (.cells c ty fr)) ∧ ∀ j, j < cs.size + ρ.ξ b * z → (w.cell? ⟨ρ.β b, ρ.δ b + j, none⟩).isSome = true ∧ w.frozen? ⟨ρ.β b, ρ.δ b + j, none⟩ = false := by
    have := hI.holdsAt R hk (ℓ := .shp b) hp (by rw [hF]; rfl)
    have e : lv (G k) (.shp b) = some (.inr (.row cs.size z)) := by simp only [lv, hg]
    rw [e] at this
    exact this
  have hc0 : ∀ j, j < cs.size + ρ.ξ b * z → ρ.δ b + j < c0.size := by
    intro j hj
    have := (hfree j hj).1
    simp only [World.cell?, hobj] at this
    simpa using this
  have hread : ∀ j, (w.setCells (ρ.β b) (ρ.δ b + off) (vs.map (ren1 ρ))).cell? ⟨ρ.β b, ρ.δ b + j, none⟩ = if off ≤ j ∧ j < off + n then (vs.map (ren1 ρ))[j - off]? else w.cell? ⟨ρ.β b, ρ.δ b + j, none⟩ := by
    intro j
    rw [wset_cell rfl hobj, List.length_map, hlen]
    by_cases h : off ≤ j ∧ j < off + n
    · rw [if_pos h, if_pos ⟨by omega, by omega, hc0 j (by omega)⟩, show ρ.δ b + j - (ρ.δ b + off) = j - off by omega]
    · rw [if_neg h, if_neg (by omega)]
  refine ⟨hI.shut.and1 hk, hI.ext, hI.v0, hI.vis0, ?_, ?_, ?_, ?_, f3.trans hI.os, f4.trans hI.tape, f5.trans hI.output, by rw [f2]; exact hI.size, ?_, ?_⟩
  · cases o.dst <;> exact hI.defers
  · have := hI.tmp1 R hk ho hT R.sz (ρ2 := ρ) (Ext.refl _ _) (by intro x hx; simp at hx)
    rwa [ren_undef] at this
  · intro ℓ hpl
    have hp' := hpr _ hpl
    obtain ⟨m, h1, h2, h3⟩ := hI.loc ℓ hp'
    have hmin : Min G (And1 S k) m ℓ := h2.imp id fun ⟨p, hp, hs, h⟩ => ⟨p, hp, .inl hs, h⟩
    by_cases hbl : ℓ.blk = b
    · cases ℓ with
      | shp b' =>
        simp only [Loc.blk] at hbl
        subst hbl
        refine ⟨m, h1.and1 (fun _ => hsh _), hmin, ?_⟩
        rw [Stage.unique R h1 hps]
        have e : lv (G k) (.shp b') = some (.inr (.row cs.size z)) := by simp only [lv, hg]
        rw [e]
        refine ⟨⟨_, ty, fr, f7 c0 ty fr hobj⟩, fun j hj => ⟨?_, ?_⟩⟩
        · rw [hread]
          split
          · rw [List.getElem?_eq_getElem (by rw [List.length_map]; omega)]; rfl
          · exact (hfree j hj).1
        · rw [f6]; exact (hfree j hj).2
      | cell b' j =>
        simp only [Loc.blk] at hbl
        subst hbl
        by_cases hj : off ≤ j ∧ j < off + n
        · have ht : Touch (F k) (.cell b' j) := by rw [hF]; exact ⟨rfl, hj.1, hj.2⟩
          have hv1 : ∃ u, vs[j - off]? = some u := ⟨vs[j - off], List.getElem?_eq_getElem (by omega)⟩
          obtain ⟨u, hu⟩ := hv1
          have hlv : lv (G (k + 1)) (.cell b' j) = some (.inl u) := by
            simp only [lv, hG, if_true]
            rw [setCells_get, if_pos ⟨hj.1, by omega, by omega⟩, hu]
            rfl
          have hold : Holds ρ (PS V0 G S k) (w.setCells (ρ.β b') (ρ.δ b' + off) (vs.map (ren1 ρ))) (.cell b' j) (lv (G (k + 1)) (.cell b' j)) := by
            rw [hlv]
            refine ⟨?_, hb u (List.mem_of_getElem? hu)⟩
            rw [hread, if_pos hj, List.getElem?_map, hu]; rfl
          by_cases hc : Chg' G k (.cell b' j)
          · refine ⟨k + 1, Stage.chg R hI.shut hk hp.2 ht, .inr ⟨k, rfl, .inr rfl, .inl ⟨hc, hp.2⟩⟩, hold.mono fun c hc => ⟨Pres.and1.2 (.inl hc.1), by rw [hsz]; exact hc.2⟩⟩
          · have e : lv (G m) (.cell b' j) = lv (G (k + 1)) (.cell b' j) := (Stage.unique R h1 (Stage.ready R hI.shut hk hp.2 ht)).trans (Classical.byContradiction hc)
            refine ⟨m, h1.and1 (fun _ => hc), hmin, ?_⟩
            rw [← e] at hold
            exact (hold.both h3).mono fun c hc => hc.and1
        · have hc : ¬ Chg' G k (.cell b' j) := by
            intro hc
            apply hc
            simp only [lv, hG, if_true, hg]
            rw [setCells_get, if_neg (by omega)]
          refine ⟨m, h1.and1 (fun _ => hc), hmin, ?_⟩
          cases hl : lv (G m) (.cell b' j) with
          | none => trivial
          | some x =>
            rw [hl] at h3
            cases x with
            | inr s => trivial
            | inl u =>
              refine ⟨?_, h3.2.mono fun c hc => hc.and1⟩
              rw [hread, if_neg hj]
              exact h3.1
    · have hc : ¬ Chg' G k ℓ := fun hc => hc (lv_congr (by rw [hG, if_neg hbl])).symm
      refine ⟨m, h1.and1 (fun _ => hc), hmin, ?_⟩
      by_cases hl : lv (G m) ℓ = none
      · rw [hl]; exact Holds.nil ℓ
      · obtain ⟨m', g1, g2, g3⟩ := hI.loc (.shp ℓ.blk) hp'
        refine h3.move (Ext.refl _ _) (fun b hb => hb.and1) rfl rfl rfl (f1 _ fun he => hbl ?_)
        exact hI.inj ℓ.blk b m' k hp' hp.1 g1 hps (live_stage R hI.shut h1 g1 hl) halive he
  · intro c d m m' hc hd hst hst' hl hl' he
    exact hI.inj c d m m' (hpr _ hc) (hpr _ hd) (hst.of_and1 fun _ => hsh _) (hst'.of_and1 fun _ => hsh _) hl hl' he
  · intro c hc hi
    rw [f1 c fun he => ?_]
    · exact hI.blk c hc hi
    · subst he
      rcases hI.img b k hp.1 h0 hps halive with h | h
      · exact hi h
      · omega
  · intro c m hc hhc hst hl
    exact hI.img c m (hpr _ hc) hhc (hst.of_and1 fun _ => hsh _) hl
end
end Go.Ab
