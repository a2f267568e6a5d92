/- Operations: append, copy, clear, make. -/
import Derived.Test.YtihcpmebabkagaaGreatAb8
set_option linter.unusedSimpArgs false
set_option linter.unusedVariables false
namespace Go.Ab
section
variable {P : Program} {ρ : Ren} {V : Nat → Prop} {H H' : Hp} {w w' : World}

theorem Post.kill (h : Sim ρ V H w) (b : Nat) : Post ρ V H w ρ (H.put b none) w := by
  have hsz : (H.put b none).size = H.size := rfl
  refine ⟨Ext.refl _ _, ?_, ?_⟩
  all_goals rw [hsz, grow_self]
  · exact h.kill b
  · refine ⟨rfl, rfl, rfl, Nat.le_refl _, fun _ _ _ => rfl, ?_⟩
    rintro c ⟨d, o, hv, hg, rfl⟩
    have hg' := Hp.get_some hg
    rw [Hp.hid_put, Hp.tr_put] at hg'
    by_cases hd : d = b
    · rw [if_pos hd] at hg'; cases hg'.2
    · rw [if_neg hd] at hg'
      exact .inl ⟨d, o, hv, by rw [Hp.get_eq, hg'.1]; exact hg'.2, rfl⟩
/-- A row goes on under a new name, in the place where it was. -/
theorem Sim.regrow (h : Sim ρ V H w) {b : Nat} {o : Blk} (hg : H.get b = some o) (cs : Array Value) (z x : Nat)
    (hold : ∀ c, c ≠ ρ.β b → w'.heap[c]? = w.heap[c]?) (hs : w'.heap.size = w.heap.size)
    (hc : CellsAt (ρ.set H.size (ρ.β b) (ρ.δ b) x) w' H.size cs z) (hb : ∀ u ∈ cs, Cl V u)
    (h1 : w'.os = w.os) (h2 : w'.tape = w.tape) (h3 : w'.output = w.output) : Post ρ V H w (ρ.set H.size (ρ.β b) (ρ.δ b) x) ((H.put b none).new (some (.cells cs z))) w' := by
  have hext := ext_set h (ρ.β b) (ρ.δ b) x
  have hvb := h.vis b o hg
  have hgo := Hp.get_some hg
  have hsz : ((H.put b none).new (some (.cells cs z))).size = H.size + 1 := rfl
  have hps : (H.put b none).size = H.size := rfl
  have old : ∀ c o', grow V H.size (H.size + 1) c → ((H.put b none).new (some (Blk.cells cs z))).tr.get c = some o' → c ≠ H.size → V c ∧ c ≠ b ∧ H.tr.get c = some o' := by
    intro c o' hv ho hne
    rw [Hp.tr_new, hps, if_neg hne, Hp.tr_put] at ho
    split at ho
    · cases ho
    · rename_i hcb
      exact ⟨by rcases hv with hv | hv; exact hv; omega, hcb, ho⟩
  refine ⟨hext, ⟨fun c hc' => by rw [Hp.tr_new, hps, if_neg (by omega), Hp.tr_put]; split <;> first | rfl | exact h.fresh c (by omega), fun b hb => Nat.lt_succ_of_lt (h.mlt b hb), ?_, ?_, ?_, ?_, ?_⟩, h1, h2, h3, by omega, fun c hc' hi => hold c fun he => hi ⟨b, o, hvb, hg, he.symm⟩, ?_⟩
  · rintro c (hv | hv)
    · have := h.bound c hv; omega
    · omega
  · intro c o' hg'
    by_cases hcn : c = H.size
    · exact .inr (by omega)
    · have hg' := Hp.get_some hg'
      rw [Hp.hid_new, Hp.hid_put, Hp.tr_new, hps, if_neg hcn, Hp.tr_put] at hg'
      obtain ⟨g1, g2⟩ := hg'
      split at g2
      · cases g2
      · exact .inl (h.vis c o' (by rw [Hp.get_eq, g1]; exact g2))
  · intro c cs' z' hv ho
    by_cases hcn : c = H.size
    · subst c
      rw [Hp.tr_new, hps, if_pos rfl] at ho
      injection ho with ho
      injection ho with e1 e2
      subst e1 e2
      exact ⟨hc, fun u hu => (hb u hu).mono grow_le⟩
    · obtain ⟨q0, q1, q2⟩ := old c _ hv ho hcn
      obtain ⟨p1, p2⟩ := h.blk c cs' z' q0 q2
      obtain ⟨e1, e2, e3⟩ := hext c q0
      exact ⟨p1.move e1 e2 e3 (fun u hu => ren1_ext hext (p2 u hu).bd) (hold _ fun he => q1 (h.inj c b _ _ q0 hvb q2 hgo.2 he)), fun u hu => (p2 u hu).mono grow_le⟩
  · intro c es ck hv ho
    by_cases hcn : c = H.size
    · subst c
      rw [Hp.tr_new, hps, if_pos rfl] at ho
      cases ho
    · obtain ⟨q0, q1, q2⟩ := old c _ hv ho hcn
      obtain ⟨p1, p2⟩ := h.map c es ck q0 q2
      rw [(hext c q0).1, renE_ext hext p2, hold _ fun he => q1 (h.inj c b _ _ q0 hvb q2 hgo.2 he)]
      exact ⟨p1, fun e he => ⟨(p2 e he).1.mono grow_le, (p2 e he).2⟩⟩
  · intro c d o1 o2 hc' hd ho1 ho2 he
    rw [Ren.set_β, Ren.set_β] at he
    by_cases e1 : c = H.size <;> by_cases e2 : d = H.size
    · omega
    · rw [if_pos e1, if_neg e2] at he
      obtain ⟨q0, q1, q2⟩ := old d _ hd ho2 e2
      exact absurd (h.inj b d _ _ hvb q0 hgo.2 q2 he).symm q1
    · rw [if_neg e1, if_pos e2] at he
      obtain ⟨q0, q1, q2⟩ := old c _ hc' ho1 e1
      exact absurd (h.inj c b _ _ q0 hvb q2 hgo.2 he) q1
    · rw [if_neg e1, if_neg e2] at he
      obtain ⟨q0, q1, q2⟩ := old c _ hc' ho1 e1
      obtain ⟨p0, p1, p2⟩ := old d _ hd ho2 e2
      exact h.inj c d _ _ q0 p0 q2 p2 he
  · rintro c ⟨d, o', hv, hg', rfl⟩
    by_cases hdn : d = H.size
    · subst d
      rw [Ren.set_β, if_pos rfl]
      exact .inl ⟨b, o, hvb, hg, rfl⟩
    · have hg' := Hp.get_some hg'
      obtain ⟨q0, q1, q2⟩ := old d _ hv hg'.2 hdn
      rw [Ren.set_β, if_neg hdn]
      exact .inl ⟨d, o', q0, by rw [Hp.get_eq, ← Hp.hid_put H b none d, ← Hp.hid_new _ (some (Blk.cells cs z)) d, hg'.1]; exact q2, rfl⟩
theorem Grew.kill (H : Hp) {b : Nat} {o : Blk} (hg : H.get b = some o) : Grew H (H.put b none) := Grew.put hg none

theorem rowOf_sound (hS : Sim ρ V H w) {size n : Nat} {x : Value} {cs : Array Value} (h : rowOf H size n x = some cs) :
    (Builtin.firstCells size n (ren ρ x)).run P w = .ok (cs.map (ren1 ρ)) w ∧ cs.size = n * size ∧ ∀ u ∈ cs, Cl V u := by
  unfold rowOf at h
  split at h
  · rename_i b o m c
    have e : ren ρ (.slice (some ⟨b, o, none⟩) m c) = .slice (some ⟨ρ.β b, ρ.δ b + o, none⟩) m (ρ.cap (some ⟨b, o, none⟩) c) := rfl
    rw [e]
    unfold Builtin.firstCells
    split at h
    · rename_i h0
      injection h with h
      subst h
      rw [h0]
      exact ⟨by simp [loadCells, loadCellsFrom], rfl, fun u hu => by simp at hu⟩
    · split at h
      · rename_i cs0 z hg
        split at h
        · rename_i hle
          injection h with h
          subst h
          obtain ⟨hv, hC, hB⟩ := hS.get hg
          refine ⟨?_, by simp; omega, fun u hu => hB u (mem_extract hu)⟩
          have hl : ((cs0.extract o (o + n * size)).toList.map (ren1 ρ)).length = n * size := by simp; omega
          have hr := run_loadCells_list (P := P) w ⟨ρ.β b, ρ.δ b + o, none⟩ ((cs0.extract o (o + n * size)).toList.map (ren1 ρ)) (fun j u hu => by
            rw [List.getElem?_map, Option.map_eq_some_iff] at hu
            obtain ⟨y, hy, rfl⟩ := hu
            rw [add_mk, Nat.add_assoc]
            refine hC.cell (o + j) y ?_
            rw [Array.getElem?_toList, Array.getElem?_extract] at hy
            split at hy
            · exact hy
            · cases hy)
          rw [hl] at hr
          simp only [hr]
          congr 1
          apply Array.ext'
          simp
        · cases h
      · cases h
  · rename_i m c
    split at h
    · rename_i h0
      subst h0
      injection h with h
      subst h
      have e : ren ρ (.slice none m c) = .slice none m c := rfl
      rw [e]
      unfold Builtin.firstCells
      exact ⟨by simp, by simp, fun u hu => by simp at hu⟩
    · cases h
  · rename_i s
    split at h
    · rename_i h0
      injection h with h
      subst h
      have e : ren ρ (.string s) = .string s := rfl
      rw [e]
      unfold Builtin.firstCells
      have hf : ∀ u ∈ (s.extract 0 n).data.map fun b => Value.int .u8 b.toNat, flat0 u = true := by
        intro u hu
        obtain ⟨b, _, rfl⟩ := Array.mem_map.1 hu
        rfl
      refine ⟨?_, ?_, fun u hu => Cl_flat (hf u hu)⟩
      · rw [amap_id fun u hu => ren1_flat (hf u hu)]; rfl
      · rw [Array.size_map]
        have : (s.extract 0 n).size = n := by rw [ByteArray.size_extract]; omega
        rw [h0.1, Nat.mul_one]; exact this
    · cases h
  · cases h
theorem len_sound {x : Value} {m : Nat} (h : len' x = some m) (w : World) : (Builtin.lenOf (ren ρ x)).run P w = .ok m w := by
  unfold len' at h
  split at h
  · injection h with h; subst h; rfl
  · injection h with h; subst h; rfl
  · cases h

theorem append_run {t : TypeId} {ty elem : TypeId} {i : TypeInfo} {z : Value} {at' : Array TypeId} {base : Option Addr} {n c m : Nat} {x' : Value} (w : World)
    (ht : at'[0]? = some t) (h2 : at'[1]? = none ∨ ∃ t2 d, at'[1]? = some t2 ∧ P.underlying t2 = some d ∧ (d matches .int _) = false)
    (hu : P.underlying t = some (.slice elem)) (hi : P.info? elem = some i) (hz : i.zero = some z) (h0 : i.bytes ≠ 0) (hx : ∀ w, (Builtin.lenOf x').run P w = .ok m w)
    (hroom : (n + m) * i.bytes ≤ 140737488355328) :
    (Builtin.append_ at' ty #[.slice base n c, x']).run P w =
      if n + m ≤ c then ((Builtin.firstCells i.size m x').run P w).andThen fun new w => (match base with | some a => (storeCells (a.add (n * i.size)) new.toList).run P w | none => .ok () w).andThen fun _ w => .ok (.slice base (n + m) c) w
      else ((Builtin.firstCells i.size n (.slice base n c)).run P { w with drawn := w.drawn + 1 }).andThen fun old w1 => ((Builtin.firstCells i.size m x').run P w1).andThen fun new w1 =>
        .ok (.slice (some ⟨w1.heap.size, 0, none⟩) (n + m) ((Question.appendCap (n + m) c elem).cut (w.tape w.drawn (.appendCap (n + m) c elem)))) { w1 with heap := w1.heap.push (.cells (old ++ new ++ Builtin.zeroCells z.cells ((Question.appendCap (n + m) c elem).cut (w.tape w.drawn (.appendCap (n + m) c elem)) - (n + m))) elem) } := by
  have e0 : (#[Value.slice base n c, x'] : Array Value)[0]? = some (.slice base n c) := rfl
  have e1 : (#[Value.slice base n c, x'] : Array Value)[1]? = some x' := rfl
  unfold Builtin.append_
  rw [ht, e0, e1]
  simp only [Sem.run_bind, underlying_run hu, Result.andThen_ok, sizeOf_run hi]
  have key : ∀ zb : Bool, zb = false → (do
      let n' ← if zb then do
          let l := IntKind.i64.wrap (← asInt x')
          if l < 0 then runtimePanic (.error "makeslice: len out of range")
          if l * (← typeInfo elem).bytes > 2 ^ 48 then
            let made ← choose (.extern "append.ofMake.carriedOut" 2)
            runtimePanic (.error (if made == 1 then "makeslice: len out of range" else "growslice: len out of range"))
          pure l.toNat
        else Builtin.lenOf x'
      let appended : Sem (Array Value) :=
        if !zb then Builtin.firstCells i.size n' x'
        else if n' * i.size = 0 then pure #[]
        else do pure (Builtin.zeroCells (← zeroValue elem).cells n')
      let need := n + n'
      if need ≤ c then
        let new ← appended
        if let some a := base then storeCells (a.add (n * i.size)) new.toList
        pure (.slice base need c)
      else
        if (need : Int) > IntKind.i64.max ∧ (zb ∨ (← typeInfo elem).bytes = 0) then runtimePanic (.error "growslice: len out of range")
        if Builtin.nextslicecap need c * (← typeInfo elem).bytes > 2 ^ 48 then (if zb then runtimePanic (.error "growslice: len out of range") else do
          if !(← Builtin.mayShare i.size n n' base x') then mark .noRoom
          unsupported (.resourceLimit "append: a slice or a string whose bytes no memory bears"))
        let newCap ← choose (.appendCap need c elem)
        askRoom (newCap * (← typeInfo elem).bytes)
        let old ← Builtin.firstCells i.size n (.slice base n c)
        let new ← appended
        let rest := Builtin.zeroCells (← zeroValue elem).cells (newCap - need)
        pure (.slice (some (← newRow elem (old ++ new ++ rest))) need newCap) : Sem Value).run P w =
      if n + m ≤ c then ((Builtin.firstCells i.size m x').run P w).andThen fun new w => (match base with | some a => (storeCells (a.add (n * i.size)) new.toList).run P w | none => .ok () w).andThen fun _ w => .ok (.slice base (n + m) c) w
      else ((Builtin.firstCells i.size n (.slice base n c)).run P { w with drawn := w.drawn + 1 }).andThen fun old w1 => ((Builtin.firstCells i.size m x').run P w1).andThen fun new w1 =>
        .ok (.slice (some ⟨w1.heap.size, 0, none⟩) (n + m) ((Question.appendCap (n + m) c elem).cut (w.tape w.drawn (.appendCap (n + m) c elem)))) { w1 with heap := w1.heap.push (.cells (old ++ new ++ Builtin.zeroCells z.cells ((Question.appendCap (n + m) c elem).cut (w.tape w.drawn (.appendCap (n + m) c elem)) - (n + m))) elem) } := by
    rintro zb rfl
    simp only [Bool.false_eq_true, if_false, Sem.run_bind, hx, Result.andThen_ok, Bool.not_false, if_true]
    by_cases hle : n + m ≤ c
    · rw [if_pos hle, if_pos hle]
      simp only [Sem.run_bind]
      congr 1
      funext new w1
      cases base with
      | none => simp
      | some a => simp
    · rw [if_neg hle, if_neg hle]
      have hfit := growslice_fits (need := n + m) (old := c) (bytes := i.bytes) (by omega) hroom
      have hf2 : ¬ Builtin.nextslicecap (n + m) c * i.bytes > 2 ^ 48 := by omega
      have hz : ∀ w', (zeroValue elem).run P w' = .ok z w' := fun w' => zeroValue_run hi hz w'
      have ht' : ∀ w', (typeInfo elem).run P w' = .ok i w' := fun w' => typeInfo_run hi w'
      simp only [Sem.run_bind, ht', Result.andThen_ok, h0, or_self, and_false, if_false, hf2, run_choose, Question.forced, Bool.false_eq_true, run_askRoom, hz, newRow, run_newObj, Sem.run_pure]
  rcases h2 with h2 | ⟨t2, d, h2, h3, h4⟩
  · rw [h2]
    exact key false rfl
  · rw [h2]
    simp only [Sem.run_bind, underlying_run h3, Result.andThen_ok, Sem.run_pure]
    exact key _ h4

theorem notInt_sound {at' : Array TypeId} (h : notInt P at'[1]? = true) : at'[1]? = none ∨ ∃ t2 d, at'[1]? = some t2 ∧ P.underlying t2 = some d ∧ (d matches .int _) = false := by
  unfold notInt at h
  cases ha : at'[1]? with
  | none => exact .inl rfl
  | some t =>
    rw [ha] at h
    simp only at h
    cases hu : P.underlying t with
    | none => rw [hu] at h; cases h
    | some d =>
      refine .inr ⟨t, d, rfl, hu, ?_⟩
      rw [hu] at h
      cases d <;> first | rfl | cases h
theorem zeroCells_size (z : Array Value) (n : Nat) : (Builtin.zeroCells z n).size = n * z.size := by simp [Builtin.zeroCells]
/-- A row that is copied into a new place, with room behind it. -/
theorem newOpen_sound (hS : Sim ρ V H w) {cs : Array Value} (hb : ∀ u ∈ cs, Cl V u) (ty : TypeId) (rest : Array Value) (x z : Nat) (hr : x * z ≤ rest.size) (fr : Nat × Nat) (hfr : cs.size + x * z ≤ fr.1 ∨ fr.2 = 0) (d : Nat) :
    Post ρ V H w (ρ.set H.size w.heap.size 0 x) (H.new (some (.cells cs z))) { w with heap := w.heap.push (.cells (cs.map (ren1 ρ) ++ rest) ty fr), drawn := d } := by
  refine hS.new (w' := { w with heap := w.heap.push (.cells (cs.map (ren1 ρ) ++ rest) ty fr), drawn := d }) _ rfl (.cells cs z) x (fun c z' he => ?_) (fun es ck he => by cases he) rfl rfl rfl
  injection he with e1 e2
  subst e1 e2
  refine ⟨hb, _, ty, fr, rfl, fun j u hu => ?_, by simp; omega, fun j hj h => by omega⟩
  rw [Array.getElem?_append_left (by have := (Array.getElem?_eq_some_iff.1 hu).1; simpa using this), Array.getElem?_map, hu]
  rfl
theorem ren_new_open (ρ : Ren) (n β δ ξ L : Nat) : ren (ρ.set n β δ ξ) (.slice (some ⟨n, 0, none⟩) L (big + L)) = .slice (some ⟨β, δ, none⟩) L (L + ξ) := by
  have h1 : (ρ.set n β δ ξ).cap (some ⟨n, 0, none⟩) (big + L) = L + ξ := by
    rw [cap_open _ _ _ (Nat.le_add_right _ _), Nat.add_sub_cancel_left]; simp [Ren.set]
  have h2 : (ρ.set n β δ ξ).addr ⟨n, 0, none⟩ = ⟨β, δ, none⟩ := by simp [Ren.addr, Ren.set]
  show Value.slice (some ((ρ.set n β δ ξ).addr ⟨n, 0, none⟩)) L ((ρ.set n β δ ξ).cap (some ⟨n, 0, none⟩) (big + L)) = _
  rw [h1, h2]
theorem append_sound (hS : Sim ρ V H w) {at' : Array TypeId} {t ty : TypeId} {s x v : Value} (ht : at'[0]? = some t) (h : append' P H t at'[1]? s x = some (v, H')) (hb : Bd V s) :
    Grew H H' ∧ ∃ ρ' w', (Builtin.append_ at' ty #[ren ρ s, ren ρ x]).run P w = .ok (ren ρ' v) w' ∧ Bd (grow V H.size H'.size) v ∧ Post ρ V H w ρ' H' w' := by
  unfold append' at h
  split at h
  · rename_i elem base n cap hu
    split at h
    · rename_i i m hi hm
      split at h
      · cases h
      rename_i hc
      simp only [not_or] at hc
      obtain ⟨c1, c2, c3, c4⟩ := hc
      split at h
      · cases h
      rename_i hroom
      split at h
      · cases h
      rename_i hbase
      split at h
      · rename_i news hnews
        obtain ⟨z, hz, hzs⟩ : ∃ z, i.zero = some z ∧ z.cells.size = i.size := by cases hz : i.zero with | none => simp [hz] at c3 | some z => exact ⟨z, rfl, by simpa [hz] using c3⟩
        have hni := notInt_sound (P := P) (at' := at') (by cases hn : notInt P at'[1]? with | true => rfl | false => exact absurd hn c4)
        obtain ⟨n1, n2, n3⟩ := rowOf_sound (P := P) hS hnews
        have e : ren ρ (.slice base n cap) = .slice (base.map ρ.addr) n (ρ.cap base cap) := rfl
        have hrun := append_run (P := P) (ty := ty) (base := base.map ρ.addr) (n := n) (c := ρ.cap base cap) (x' := ren ρ x) w ht hni hu hi hz c2 (fun w => len_sound hm w) (by omega)
        rw [← e] at hrun
        rw [hrun]
        unfold appendTo at h
        have hknown : known cap ≤ ρ.cap base cap := by
          unfold known
          cases base with
          | none => rw [cap_none]; split <;> omega
          | some a => unfold Ren.cap; split <;> simp_all
        split at h
        · rename_i hfit
          rw [if_pos (show n + m ≤ ρ.cap base cap by omega), n1]
          simp only [Result.andThen_ok]
          split at h
          · rename_i hm0
            injection h with h
            injection h with hv hH
            subst hv hH
            have hnil : news = #[] := Array.eq_empty_of_size_eq_zero (by rw [n2, hm0, Nat.zero_mul])
            subst hnil
            refine ⟨Grew.refl _, ρ, w, ?_, by rw [grow_self]; cases base <;> exact hb, Post.refl hS⟩
            cases base <;> simp [storeCells, ren, ren2, ren1, ren0]
          · split at h
            · rename_i b o
              split at h
              · rename_i cs z' hg
                split at h
                · rename_i hle
                  injection h with h
                  injection h with hv hH
                  subst hv hH
                  obtain ⟨r1, r2⟩ := store_cells (P := P) hS (vs := news.toList) (o := o + n * i.size) hg (by rw [Array.length_toList, n2]; rw [Nat.add_mul] at hle; omega) (fun u hu => n3 u (Array.mem_def.2 hu))
                  refine ⟨Grew.put hg _, ρ, _, ?_, ?_, r2⟩
                  · simp only [Option.map_some, addr_mk, add_mk, Array.toList_map]
                    rw [show ρ.δ b + o + n * i.size = ρ.δ b + (o + n * i.size) by omega, r1]
                    rfl
                  · rw [show (H.put b (some (Blk.cells (setCells cs (o + n * i.size) news.toList) z'))).size = H.size from rfl, grow_self]
                    exact hb
                · cases h
              · cases h
            · cases h
        · rename_i hfit
          split at h
          · rename_i hop
            split at h
            · rename_i b o
              split at h
              · rename_i cs z' hg
                split at h
                · rename_i hcond
                  obtain ⟨rfl, rfl, hnk, hks⟩ := hcond
                  injection h with h
                  injection h with hv hH
                  subst hv hH
                  have hk9 : known cap = cap - big := by unfold known; rw [if_pos hop]
                  have hc9 : ρ.cap (some ⟨b, 0, none⟩) cap = cap - big + ρ.ξ b := cap_open _ _ _ hop
                  rw [hk9] at hfit hnk hks
                  rw [hc9]
                  obtain ⟨hvb, hC, hB⟩ := hS.get hg
                  have hnsz : n * i.size ≤ cs.size := by rw [← hks]; exact Nat.mul_le_mul_right _ hnk
                  have hCl : ∀ u ∈ cs.extract 0 (n * i.size) ++ news, Cl V u := by
                    intro u hu
                    rcases Array.mem_append.1 hu with hu | hu
                    · exact hB u (mem_extract hu)
                    · exact n3 u hu
                  by_cases hin : n + m ≤ cap - big + ρ.ξ b
                  · rw [if_pos hin, n1]
                    simp only [Result.andThen_ok, Option.map_some, addr_mk, add_mk, Array.toList_map]
                    obtain ⟨f1, f2, f3, f4, f5, f6, f7⟩ := wset_facts (ρ.β b) (news.toList.map (ren1 ρ)) (ρ.δ b + 0 + n * i.size) w
                    have htot : cs.size + ρ.ξ b * i.size = (cap - big + ρ.ξ b) * i.size := by rw [← hks, Nat.add_mul]
                    have hnm : n * i.size + m * i.size ≤ cs.size + ρ.ξ b * i.size := by rw [htot, ← Nat.add_mul]; exact Nat.mul_le_mul_right _ hin
                    have hst := run_storeCells_cells (P := P) (ρ.β b) (ρ.δ b + 0 + n * i.size) (news.toList.map (ren1 ρ)) 0 w (fun j hj => by
                        rw [List.length_map, Array.length_toList, n2] at hj
                        have := (hC.free (n * i.size + j) (by omega)).1
                        rwa [show ρ.δ b + 0 + n * i.size + 0 + j = ρ.δ b + (n * i.size + j) by omega])
                      (fun j hj => by
                        rw [List.length_map, Array.length_toList, n2] at hj
                        have := (hC.free (n * i.size + j) (by omega)).2
                        rwa [show ρ.δ b + 0 + n * i.size + 0 + j = ρ.δ b + (n * i.size + j) by omega])
                      (fun v hv => by
                        obtain ⟨u, hu, rfl⟩ := List.mem_map.1 hv
                        exact one_ren (n3 u (Array.mem_def.2 hu)).one)
                    rw [Nat.add_zero (ρ.δ b + 0 + n * i.size)] at hst
                    rw [hst]
                    simp only [Result.andThen_ok]
                    obtain ⟨c, ty', fr, ho⟩ := hC.obj
                    have hn := f7 c ty' fr ho
                    have hcs : ∀ j, j < cs.size + ρ.ξ b * i.size → ρ.δ b + j < c.size := by
                      intro j hj
                      have := (hC.free j hj).1
                      simp only [World.cell?, ho] at this
                      simpa using this
                    have hext := ext_set hS (ρ.β b) (ρ.δ b) (cap - big + ρ.ξ b - (n + m))
                    have hsize2 : (cs.extract 0 (n * i.size) ++ news).size = n * i.size + m * i.size := by rw [Array.size_append, n2, Array.size_extract]; omega
                    have hp := hS.regrow (w' := w.setCells (ρ.β b) (ρ.δ b + 0 + n * i.size) (news.toList.map (ren1 ρ))) hg (cs.extract 0 (n * i.size) ++ news) i.size (cap - big + ρ.ξ b - (n + m)) f1 f2 ?_ hCl f3 f4 f5
                    · have hv : ren (ρ.set H.size (ρ.β b) (ρ.δ b) (cap - big + ρ.ξ b - (n + m))) (.slice (some ⟨H.size, 0, none⟩) (n + m) (big + (n + m))) = .slice (some ⟨ρ.β b, ρ.δ b + 0, none⟩) (n + m) (cap - big + ρ.ξ b) := by
                        rw [ren_new_open, Nat.add_zero, Nat.add_sub_cancel' hin]
                      exact ⟨(Grew.kill H hg).trans (Grew.new _ _), _, _, by rw [hv], .inr ⟨Nat.le_refl _, Nat.lt_succ_self _⟩, hp⟩
                    · refine ⟨⟨_, ty', fr, by rw [Ren.set_β, if_pos rfl]; exact hn⟩, fun j u hu => ?_, fun j hj => ⟨?_, ?_⟩⟩
                      · rw [Ren.set_β, Ren.set_δ, if_pos rfl, if_pos rfl, ren1_ext hext (hCl u (Array.mem_of_getElem? hu)).bd]
                        have hjl : j < n * i.size + m * i.size := by have := (Array.getElem?_eq_some_iff.1 hu).1; rwa [hsize2] at this
                        have hcj := hcs j (by omega)
                        simp only [World.cell?, hn]
                        simp only [Option.isSome_none, Bool.false_eq_true, if_false]
                        rw [setCells_get, List.length_map, Array.length_toList, n2]
                        rw [Array.getElem?_append] at hu
                        rw [Array.size_extract] at hu
                        split at hu
                        · rename_i hlt
                          rw [if_neg (by omega)]
                          rw [Array.getElem?_extract] at hu
                          rw [if_pos (by omega), Nat.zero_add] at hu
                          have := hC.cell j u hu
                          simp only [World.cell?, ho] at this
                          simpa using this
                        · rename_i hlt
                          rw [if_pos (by omega), List.getElem?_map, Array.getElem?_toList]
                          rw [show ρ.δ b + j - (ρ.δ b + 0 + n * i.size) = j - (min (n * i.size) cs.size - 0) by omega, hu]
                          rfl
                      · rw [hsize2, Ren.set_ξ, if_pos rfl] at hj
                        have hj2 : j < cs.size + ρ.ξ b * i.size := by
                          rw [htot]
                          rw [← Nat.add_mul, ← Nat.add_mul, show n + m + (cap - big + ρ.ξ b - (n + m)) = cap - big + ρ.ξ b by omega] at hj
                          exact hj
                        rw [Ren.set_β, Ren.set_δ, if_pos rfl, if_pos rfl]
                        simp only [World.cell?, hn]
                        have := hcs j hj2
                        simp [setCells_size, this]
                      · rw [hsize2, Ren.set_ξ, if_pos rfl] at hj
                        have hj2 : j < cs.size + ρ.ξ b * i.size := by
                          rw [htot]
                          rw [← Nat.add_mul, ← Nat.add_mul, show n + m + (cap - big + ρ.ξ b - (n + m)) = cap - big + ρ.ξ b by omega] at hj
                          exact hj
                        rw [Ren.set_β, Ren.set_δ, if_pos rfl, if_pos rfl, f6]
                        exact (hC.free j hj2).2
                  · rw [if_neg hin]
                    have hold : rowOf H i.size n (.slice (some ⟨b, 0, none⟩) n cap) = some (cs.extract 0 (n * i.size)) := by
                      show (if n * i.size = 0 then some #[] else match H.get b with | some (.cells cs _) => if 0 + n * i.size ≤ cs.size then some (cs.extract 0 (0 + n * i.size)) else none | _ => none) = _
                      by_cases h0 : n * i.size = 0
                      · rw [if_pos h0, h0]; simp
                      · rw [if_neg h0, hg]; simp only [Nat.zero_add]; rw [if_pos hnsz]
                    have hS2 : Sim ρ V H { w with drawn := w.drawn + 1 } := hS.same rfl
                    obtain ⟨o1, o2, o3⟩ := rowOf_sound (P := P) hS2 hold
                    obtain ⟨m1, m2, m3⟩ := rowOf_sound (P := P) hS2 hnews
                    rw [hc9] at e
                    rw [o1]
                    simp only [Result.andThen_ok]
                    rw [m1]
                    simp only [Result.andThen_ok]
                    obtain ⟨nc, hnc⟩ : ∃ nc, nc = (Question.appendCap (n + m) (cap - big + ρ.ξ b) elem).cut (w.tape w.drawn (.appendCap (n + m) (cap - big + ρ.ξ b) elem)) := ⟨_, rfl⟩
                    rw [← hnc]
                    have hncle : n + m ≤ nc := by rw [hnc]; simp [Question.cut]
                    have hp1 := Post.kill hS b
                    have hp2 := newOpen_sound (w := w) (hS.kill b) hCl elem (Builtin.zeroCells z.cells (nc - (n + m))) (nc - (n + m)) i.size (by rw [zeroCells_size, hzs]; exact Nat.le_refl _) (0, 0) (.inr rfl) (w.drawn + 1)
                    have hp := Post.trans (H := H) (H' := H.put b none) (H'' := (H.put b none).new (some (.cells (cs.extract 0 (n * i.size) ++ news) i.size))) (Nat.le_refl _) (Nat.le_succ _) hp1 (by rw [show (H.put b none).size = H.size from rfl, grow_self]; exact hp2)
                    refine ⟨(Grew.kill H hg).trans (Grew.new _ _), _, _, ?_, .inr ⟨Nat.le_refl _, Nat.lt_succ_self _⟩, hp⟩
                    rw [Array.map_append, show (H.put b none).size = H.size from rfl, ren_new_open, Nat.add_sub_cancel' hncle]
                · cases h
              · cases h
            · cases h
          · rename_i hcl
            split at h
            · rename_i old hold
              injection h with h
              injection h with hv hH
              subst hv hH
              have hc9 : ρ.cap base cap = cap := cap_closed ρ base (by omega)
              have hk9 : known cap = cap := by unfold known; rw [if_neg hcl]
              rw [hk9] at hfit
              rw [hc9, if_neg hfit]
              have hS2 : Sim ρ V H { w with drawn := w.drawn + 1 } := hS.same rfl
              obtain ⟨o1, o2, o3⟩ := rowOf_sound (P := P) hS2 hold
              obtain ⟨m1, m2, m3⟩ := rowOf_sound (P := P) hS2 hnews
              rw [hc9] at e
              rw [o1]
              simp only [Result.andThen_ok]
              rw [m1]
              simp only [Result.andThen_ok]
              obtain ⟨nc, hnc⟩ : ∃ nc, nc = (Question.appendCap (n + m) cap elem).cut (w.tape w.drawn (.appendCap (n + m) cap elem)) := ⟨_, rfl⟩
              rw [← hnc]
              have hncle : n + m ≤ nc := by rw [hnc]; simp [Question.cut]
              have hCl : ∀ u ∈ old ++ news, Cl V u := by
                intro u hu
                rcases Array.mem_append.1 hu with hu | hu
                · exact o3 u hu
                · exact n3 u hu
              have hp := newOpen_sound (w := w) hS hCl elem (Builtin.zeroCells z.cells (nc - (n + m))) (nc - (n + m)) i.size (by rw [zeroCells_size, hzs]; exact Nat.le_refl _) (0, 0) (.inr rfl) (w.drawn + 1)
              refine ⟨Grew.new _ _, _, _, ?_, .inr ⟨Nat.le_refl _, Nat.lt_succ_self _⟩, hp⟩
              rw [Array.map_append, ren_new_open, Nat.add_sub_cancel' hncle]
            · cases h
      · cases h
    · cases h
  · cases h
end
end Go.Ab
