/- The relation under what a call does to memory. -/
import Derived.Test.YtihcpmebabkagaaGreatAb3
set_option linter.unusedSimpArgs false
set_option linter.unusedVariables false
namespace Go.Ab

def Ren.set (ρ : Ren) (n β δ ξ : Nat) : Ren := ⟨fun b => if b = n then β else ρ.β b, fun b => if b = n then δ else ρ.δ b, fun b => if b = n then ξ else ρ.ξ b⟩
theorem Ren.set_β (ρ : Ren) (n β δ ξ b : Nat) : (ρ.set n β δ ξ).β b = if b = n then β else ρ.β b := rfl
theorem Ren.set_δ (ρ : Ren) (n β δ ξ b : Nat) : (ρ.set n β δ ξ).δ b = if b = n then δ else ρ.δ b := rfl
theorem Ren.set_ξ (ρ : Ren) (n β δ ξ b : Nat) : (ρ.set n β δ ξ).ξ b = if b = n then ξ else ρ.ξ b := rfl

theorem frozen_of_block {w w' : World} {a : Addr} (h : w'.heap[a.block]? = w.heap[a.block]?) : w'.frozen? a = w.frozen? a := by unfold World.frozen?; rw [h]

theorem CellsAt.lt {ρ : Ren} {w : World} {b : Nat} {cs : Array Value} {z : Nat} (h : CellsAt ρ w b cs z) : ρ.β b < w.heap.size := by
  obtain ⟨c, ty, fr, h⟩ := h.obj
  exact (Array.getElem?_eq_some_iff.1 h).1
theorem CellsAt.move {ρ ρ' : Ren} {w w' : World} {b : Nat} {cs : Array Value} {z : Nat} (h : CellsAt ρ w b cs z) (h1 : ρ'.β b = ρ.β b) (h2 : ρ'.δ b = ρ.δ b) (h3 : ρ'.ξ b = ρ.ξ b)
    (hr : ∀ u ∈ cs, ren1 ρ' u = ren1 ρ u) (hw : w'.heap[ρ.β b]? = w.heap[ρ.β b]?) : CellsAt ρ' w' b cs z := by
  refine ⟨by rw [h1, hw]; exact h.obj, fun j u hu => ?_, fun j hj => ?_⟩
  · rw [h1, h2, World.cell?_of_block (w := w) (by exact hw), hr u (Array.mem_of_getElem? hu)]
    exact h.cell j u hu
  · rw [h1, h2, World.cell?_of_block (w := w) (by exact hw), frozen_of_block (w := w) (by exact hw)]
    exact h.free j (by rw [h3] at hj; exact hj)
theorem renE_ext {V : Nat → Prop} {ρ ρ' : Ren} (h : Ext V ρ ρ') {es : Array MapEntry} (hb : ∀ e ∈ es, Bd2 V e.val ∧ flat e.key = true) : es.map (renE ρ') = es.map (renE ρ) :=
  amap_congr fun e he => by unfold renE; rw [ren2_ext h (hb e he).1]

section
variable {ρ : Ren} {V : Nat → Prop} {H : Hp} {w w' : World}
theorem Sim.get (h : Sim ρ V H w) {b : Nat} {cs : Array Value} {z : Nat} (hg : H.get b = some (.cells cs z)) : V b ∧ CellsAt ρ w b cs z ∧ ∀ u ∈ cs, Cl V u :=
  ⟨h.vis b _ hg, h.blk b cs z (h.vis b _ hg) (Hp.get_some hg).2⟩
theorem Sim.getM (h : Sim ρ V H w) {b : Nat} {es : Array MapEntry} {ck : Nat} (hg : H.get b = some (.map es ck)) : V b ∧ w.heap[ρ.β b]? = some (.map (es.map (renE ρ)) ck) ∧ ∀ e ∈ es, Bd2 V e.val ∧ flat e.key = true :=
  ⟨h.vis b _ hg, h.map b es ck (h.vis b _ hg) (Hp.get_some hg).2⟩
theorem Sim.lt (h : Sim ρ V H w) {b : Nat} {o : Blk} (hv : V b) (ho : H.tr.get b = some o) : ρ.β b < w.heap.size := by
  cases o with
  | cells cs z => exact (h.blk b cs z hv ho).1.lt
  | map es ck => exact (Array.getElem?_eq_some_iff.1 (h.map b es ck hv ho).1).1
/-- A draw, or whatever leaves the heap as it is. -/
theorem Sim.same (h : Sim ρ V H w) (hh : w'.heap = w.heap) : Sim ρ V H w' :=
  ⟨h.fresh, h.mlt, h.bound, h.vis, fun b cs z hv ho => ⟨(h.blk b cs z hv ho).1.move rfl rfl rfl (fun _ _ => rfl) (by rw [hh]), (h.blk b cs z hv ho).2⟩, fun b es ck hv ho => by rw [hh]; exact h.map b es ck hv ho, h.inj⟩
theorem Post.same (h : Sim ρ V H w) (hh : w'.heap = w.heap) (h1 : w'.os = w.os) (h2 : w'.tape = w.tape) (h3 : w'.output = w.output) : Post ρ V H w ρ H w' :=
  ⟨Ext.refl _ _, by rw [grow_self]; exact h.same hh, by rw [grow_self]; exact ⟨h1, h2, h3, by rw [hh]; exact Nat.le_refl _, fun c _ _ => by rw [hh], fun c hc => .inl hc⟩⟩
theorem ext_set (h : Sim ρ V H w) (β δ ξ : Nat) : Ext V ρ (ρ.set H.size β δ ξ) := fun b hb => by
  have := h.bound b hb
  simp only [Ren.set, if_neg (show ¬ b = H.size by omega)]
  exact ⟨trivial, trivial, trivial⟩
/-- A new block, in the model and here. -/
theorem Sim.new (h : Sim ρ V H w) (o : Obj) (hh : w'.heap = w.heap.push o) (ob : Blk) (x : Nat)
    (hc : ∀ cs z, ob = .cells cs z → (∀ u ∈ cs, Cl V u) ∧ ∃ (c : Array Value) (ty : TypeId) (fr : Nat × Nat), o = .cells c ty fr ∧ (∀ (j : Nat) u, cs[j]? = some u → c[j]? = some (ren1 ρ u)) ∧ cs.size + x * z ≤ c.size ∧ ∀ j, j < cs.size + x * z → ¬ (fr.1 ≤ j ∧ j < fr.2))
    (hm : ∀ es ck, ob = .map es ck → o = .map (es.map (renE ρ)) ck ∧ ∀ e ∈ es, Bd2 V e.val ∧ flat e.key = true)
    (h1 : w'.os = w.os) (h2 : w'.tape = w.tape) (h3 : w'.output = w.output) : Post ρ V H w (ρ.set H.size w.heap.size 0 x) (H.new (some ob)) w' := by
  have hext := ext_set h w.heap.size 0 x
  have hsz : (H.new (some ob)).size = H.size + 1 := rfl
  have hold : ∀ c, c < w.heap.size → w'.heap[c]? = w.heap[c]? := fun c hc => by rw [hh, Array.getElem?_push, if_neg (by omega)]
  have hnew : w'.heap[w.heap.size]? = some o := by rw [hh]; simp
  have hvn : ∀ b, V b → b ≠ H.size := fun b hb => by have := h.bound b hb; omega
  refine ⟨hext, ⟨fun b hb => by rw [Hp.tr_new, if_neg (by omega)]; exact h.fresh b (by omega), fun b hb => Nat.lt_succ_of_lt (h.mlt b hb), ?_, ?_, ?_, ?_, ?_⟩, h1, h2, h3, by rw [hh]; simp, fun c hc _ => hold c hc, ?_⟩
  · rintro b (hb | hb)
    · have := h.bound b hb; omega
    · omega
  · intro b o' hg
    by_cases hb : b = H.size
    · exact .inr (by omega)
    · have hg' := Hp.get_some hg
      rw [Hp.hid_new, Hp.tr_new, if_neg hb] at hg'
      exact .inl (h.vis b o' (by rw [Hp.get_eq, hg'.1]; exact hg'.2))
  · intro b cs z hv ho
    rw [Hp.tr_new] at ho
    split at ho
    · subst b
      injection ho with ho
      obtain ⟨hb, c, ty, fr, rfl, hcs, hle, hfr⟩ := hc cs z ho
      refine ⟨⟨⟨c, ty, fr, by rw [Ren.set_β, if_pos rfl]; exact hnew⟩, fun j u hu => ?_, fun j hj => ?_⟩, fun u hu => (hb u hu).mono grow_le⟩
      · rw [Ren.set_β, Ren.set_δ, if_pos rfl, if_pos rfl, Nat.zero_add, ren1_ext hext (hb u (Array.mem_of_getElem? hu)).bd]
        simp only [World.cell?, hnew]
        exact hcs j u hu
      · rw [Ren.set_β, Ren.set_δ, if_pos rfl, if_pos rfl, Nat.zero_add]
        rw [Ren.set_ξ, if_pos rfl] at hj
        refine ⟨?_, ?_⟩
        · simp only [World.cell?, hnew]
          simp [show j < c.size by omega]
        · simp only [World.frozen?, hnew]
          have := hfr j hj
          simp only [Bool.and_eq_false_iff, decide_eq_false_iff_not]
          rcases Nat.lt_or_ge j fr.1 with h9 | h9
          · exact .inl (by omega)
          · exact .inr fun h8 => this ⟨h9, h8⟩
    · rename_i hne
      have hv' : V b := by rcases hv with hv | hv; exact hv; omega
      obtain ⟨q1, q2⟩ := h.blk b cs z hv' ho
      obtain ⟨e1, e2, e3⟩ := hext b hv'
      exact ⟨q1.move e1 e2 e3 (fun u hu => ren1_ext hext (q2 u hu).bd) (hold _ q1.lt), fun u hu => (q2 u hu).mono grow_le⟩
  · intro b es ck hv ho
    rw [Hp.tr_new] at ho
    split at ho
    · subst b
      injection ho with ho
      obtain ⟨rfl, hb⟩ := hm es ck ho
      rw [Ren.set_β, if_pos rfl, renE_ext hext hb]
      exact ⟨hnew, fun e he => ⟨(hb e he).1.mono grow_le, (hb e he).2⟩⟩
    · rename_i hne
      have hv' : V b := by rcases hv with hv | hv; exact hv; omega
      obtain ⟨q1, q2⟩ := h.map b es ck hv' ho
      rw [(hext b hv').1, renE_ext hext q2, hold _ (Array.getElem?_eq_some_iff.1 q1).1]
      exact ⟨q1, fun e he => ⟨(q2 e he).1.mono grow_le, (q2 e he).2⟩⟩
  · intro b c o1 o2 hb hc' ho1 ho2 he
    rw [Hp.tr_new] at ho1 ho2
    rw [Ren.set_β, Ren.set_β] at he
    split at ho1 <;> split at ho2
    · omega
    · rename_i e1 e2
      rw [if_pos e1, if_neg e2] at he
      have hv' : V c := by rcases hc' with hv | hv; exact hv; omega
      have := h.lt hv' ho2
      omega
    · rename_i e1 e2
      rw [if_neg e1, if_pos e2] at he
      have hv' : V b := by rcases hb with hv | hv; exact hv; omega
      have := h.lt hv' ho1
      omega
    · rename_i e1 e2
      rw [if_neg e1, if_neg e2] at he
      have hv1 : V b := by rcases hb with hv | hv; exact hv; omega
      have hv2 : V c := by rcases hc' with hv | hv; exact hv; omega
      exact h.inj b c o1 o2 hv1 hv2 ho1 ho2 he
  · rintro c ⟨b, o', hv, hg, rfl⟩
    rw [Ren.set_β]
    split
    · exact .inr (Nat.le_refl _)
    · rename_i hne
      have hg' := Hp.get_some hg
      rw [Hp.hid_new, Hp.tr_new, if_neg hne] at hg'
      have hv' : V b := by rcases hv with hv | hv; exact hv; omega
      exact .inl ⟨b, o', hv', by rw [Hp.get_eq, hg'.1]; exact hg'.2, rfl⟩
/-- A new name of nothing. -/
theorem Sim.junk (h : Sim ρ V H w) (β δ ξ : Nat) : Post ρ V H w (ρ.set H.size β δ ξ) (H.new none) w := by
  have hext := ext_set h β δ ξ
  have hsz : (H.new none).size = H.size + 1 := rfl
  refine ⟨hext, ⟨fun b hb => by rw [Hp.tr_new, if_neg (by omega)]; exact h.fresh b (by omega), fun b hb => Nat.lt_succ_of_lt (h.mlt b hb), ?_, ?_, ?_, ?_, ?_⟩, rfl, rfl, rfl, Nat.le_refl _, fun c _ _ => rfl, ?_⟩
  · rintro b (hb | hb)
    · have := h.bound b hb; omega
    · omega
  · intro b o' hg
    have hg' := Hp.get_some hg
    rw [Hp.hid_new, Hp.tr_new] at hg'
    by_cases hb : b = H.size
    · rw [if_pos hb] at hg'; cases hg'.2
    · rw [if_neg hb] at hg'
      exact .inl (h.vis b o' (by rw [Hp.get_eq, hg'.1]; exact hg'.2))
  · intro b cs z hv ho
    rw [Hp.tr_new] at ho
    split at ho
    · cases ho
    · rename_i hne
      have hv' : V b := by rcases hv with hv | hv; exact hv; omega
      obtain ⟨q1, q2⟩ := h.blk b cs z hv' ho
      obtain ⟨e1, e2, e3⟩ := hext b hv'
      exact ⟨q1.move e1 e2 e3 (fun u hu => ren1_ext hext (q2 u hu).bd) rfl, fun u hu => (q2 u hu).mono grow_le⟩
  · intro b es ck hv ho
    rw [Hp.tr_new] at ho
    split at ho
    · cases ho
    · rename_i hne
      have hv' : V b := by rcases hv with hv | hv; exact hv; omega
      obtain ⟨q1, q2⟩ := h.map b es ck hv' ho
      rw [(hext b hv').1, renE_ext hext q2]
      exact ⟨q1, fun e he => ⟨(q2 e he).1.mono grow_le, (q2 e he).2⟩⟩
  · intro b c o1 o2 hb hc' ho1 ho2 he
    rw [Hp.tr_new] at ho1 ho2
    rw [Ren.set_β, Ren.set_β] at he
    split at ho1 <;> split at ho2
    · cases ho1
    · cases ho1
    · cases ho2
    · rename_i e1 e2
      rw [if_neg e1, if_neg e2] at he
      have hv1 : V b := by rcases hb with hv | hv; exact hv; omega
      have hv2 : V c := by rcases hc' with hv | hv; exact hv; omega
      exact h.inj b c o1 o2 hv1 hv2 ho1 ho2 he
  · rintro c ⟨b, o', hv, hg, rfl⟩
    have hg' := Hp.get_some hg
    rw [Hp.hid_new, Hp.tr_new] at hg'
    by_cases hb : b = H.size
    · rw [if_pos hb] at hg'; cases hg'.2
    · rw [if_neg hb] at hg'
      rw [Ren.set_β, if_neg hb]
      have hv' : V b := by rcases hv with hv | hv; exact hv; omega
      exact .inl ⟨b, o', hv', by rw [Hp.get_eq, hg'.1]; exact hg'.2, rfl⟩
/-- A block is written, here and in the model; another one never. -/
theorem Sim.put (h : Sim ρ V H w) {b : Nat} {o ob : Blk} (hg : H.get b = some o)
    (hold : ∀ c, c ≠ ρ.β b → w'.heap[c]? = w.heap[c]?) (hs : w'.heap.size = w.heap.size)
    (hc : ∀ cs z, ob = .cells cs z → CellsAt ρ w' b cs z ∧ ∀ u ∈ cs, Cl V u)
    (hm : ∀ es ck, ob = .map es ck → w'.heap[ρ.β b]? = some (.map (es.map (renE ρ)) ck) ∧ ∀ e ∈ es, Bd2 V e.val ∧ flat e.key = true)
    (h1 : w'.os = w.os) (h2 : w'.tape = w.tape) (h3 : w'.output = w.output) : Post ρ V H w ρ (H.put b (some ob)) w' := by
  have hvb := h.vis b o hg
  have hgo := (Hp.get_some hg)
  have hsz : (H.put b (some ob)).size = H.size := rfl
  refine ⟨Ext.refl _ _, ?_, ?_⟩
  all_goals rw [hsz, grow_self]
  · refine ⟨fun c hc' => by rw [Hp.tr_put, if_neg (by rintro rfl; have := h.bound c hvb; omega)]; exact h.fresh c hc', h.mlt, h.bound, ?_, ?_, ?_, ?_⟩
    · intro c o' hg'
      by_cases hcb : c = b
      · subst c; exact hvb
      · have hg' := Hp.get_some hg'
        rw [Hp.hid_put, Hp.tr_put, if_neg hcb] at hg'
        exact h.vis c o' (by rw [Hp.get_eq, hg'.1]; exact hg'.2)
    · intro c cs z hv ho
      rw [Hp.tr_put] at ho
      split at ho
      · subst c; injection ho with ho; exact hc cs z ho
      · rename_i hne
        obtain ⟨q1, q2⟩ := h.blk c cs z hv ho
        exact ⟨q1.move rfl rfl rfl (fun _ _ => rfl) (hold _ fun he => hne (h.inj c b _ _ hv hvb ho hgo.2 he)), q2⟩
    · intro c es ck hv ho
      rw [Hp.tr_put] at ho
      split at ho
      · subst c; injection ho with ho; exact hm es ck ho
      · rename_i hne
        obtain ⟨q1, q2⟩ := h.map c es ck hv ho
        exact ⟨by rw [hold _ fun he => hne (h.inj c b _ _ hv hvb ho hgo.2 he)]; exact q1, q2⟩
    · intro c d o1 o2 hc' hd ho1 ho2 he
      rw [Hp.tr_put] at ho1 ho2
      have e1 : ∃ o1, H.tr.get c = some o1 := by
        split at ho1
        · subst c; exact ⟨_, hgo.2⟩
        · exact ⟨_, ho1⟩
      have e2 : ∃ o2, H.tr.get d = some o2 := by
        split at ho2
        · subst d; exact ⟨_, hgo.2⟩
        · exact ⟨_, ho2⟩
      obtain ⟨_, e1⟩ := e1
      obtain ⟨_, e2⟩ := e2
      exact h.inj c d _ _ hc' hd e1 e2 he
  · refine ⟨h1, h2, h3, by omega, fun c hc' hi => hold c fun he => hi ⟨b, o, hvb, hg, he.symm⟩, ?_⟩
    rintro c ⟨d, o', hv, hg', rfl⟩
    by_cases hdb : d = b
    · subst d; exact .inl ⟨b, o, hvb, hg, rfl⟩
    · have hg' := Hp.get_some hg'
      rw [Hp.hid_put, Hp.tr_put, if_neg hdb] at hg'
      exact .inl ⟨d, o', hv, by rw [Hp.get_eq, hg'.1]; exact hg'.2, rfl⟩
/-- A block is given up. -/
theorem Sim.kill (h : Sim ρ V H w) (b : Nat) : Sim ρ V (H.put b none) w := by
  refine ⟨fun c hc' => by rw [Hp.tr_put]; split <;> first | rfl | exact h.fresh c hc', h.mlt, h.bound, ?_, ?_, ?_, ?_⟩
  · intro c o' hg'
    have hg' := Hp.get_some hg'
    rw [Hp.hid_put, Hp.tr_put] at hg'
    by_cases hcb : c = b
    · rw [if_pos hcb] at hg'; cases hg'.2
    · rw [if_neg hcb] at hg'
      exact h.vis c o' (by rw [Hp.get_eq, hg'.1]; exact hg'.2)
  · intro c cs z hv ho
    rw [Hp.tr_put] at ho
    split at ho
    · cases ho
    · exact h.blk c cs z hv ho
  · intro c es ck hv ho
    rw [Hp.tr_put] at ho
    split at ho
    · cases ho
    · exact h.map c es ck hv ho
  · intro c d o1 o2 hc' hd ho1 ho2 he
    rw [Hp.tr_put] at ho1 ho2
    split at ho1
    · cases ho1
    · split at ho2
      · cases ho2
      · exact h.inj c d _ _ hc' hd ho1 ho2 he
end
theorem Grew.new (H : Hp) (o : Option Blk) : Grew H (H.new o) :=
  ⟨Nat.le_succ _, rfl, Nat.le_refl _, fun b hb _ => by rw [Hp.tr_new, if_neg (by omega)], fun b hb h => by rw [Hp.tr_new, if_neg (by omega)]; exact h, fun b hb _ => by rw [Hp.tr_new, if_neg (by omega)], fun hf b hb => by rw [Hp.tr_new, if_neg (by have : (H.new o).size = H.size + 1 := rfl; omega)]; exact hf b (by have : (H.new o).size = H.size + 1 := rfl; omega)⟩
theorem Grew.put {H : Hp} {b : Nat} {o : Blk} (hg : H.get b = some o) (ob : Option Blk) : Grew H (H.put b ob) := by
  have hs := Hp.get_some hg
  refine ⟨Nat.le_refl _, rfl, Nat.min_le_left _ _, fun c _ hl => ?_, fun c _ h => ?_, fun c _ h => ?_, fun hf c hc => ?_⟩
  · rw [Hp.tr_put, if_neg]
    have : (H.put b ob).low = min H.low b := rfl
    omega
  · rw [Hp.tr_put, if_neg]
    · exact h
    · rintro rfl; rw [hs.2] at h; cases h
  · rw [Hp.tr_put, if_neg]
    rintro rfl; rw [hs.1] at h; cases h
  · rw [Hp.tr_put, if_neg]
    · exact hf c hc
    · rintro rfl; rw [hf c hc] at hs; cases hs.2
end Go.Ab
