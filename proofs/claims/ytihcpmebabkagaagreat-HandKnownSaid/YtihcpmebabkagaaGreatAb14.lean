/- Every operation. -/
import Derived.Test.YtihcpmebabkagaaGreatAb13
set_option linter.unusedSimpArgs false
set_option linter.unusedVariables false
namespace Go.Ab
section
variable {P : Program} {ρ : Ren} {V : Nat → Prop} {H H' : Hp} {w w' : World}

theorem mem_ops {as : Array Operand} {x : Operand} (h : x ∈ as) : x ∈ as := h
theorem execOp_congr {f g : Operand → Value} {o : Oper} (hk : pureKind o.op = true) (h : ∀ x ∈ o.op.operands, f x = g x) : execOp f o = execOp g o := by
  unfold execOp
  cases ho : o.op <;> rw [ho] at hk h <;> simp only [pureKind, Bool.false_eq_true] at hk <;> dsimp only
  case binOp op t x y yt =>
    rw [h x (by simp [Op.operands]), h y (by simp [Op.operands])]
  case unOp op t x => rw [h x (by simp [Op.operands])]
  case convert s d x => rw [h x (by simp [Op.operands])]
  case slice t x lo hi mx =>
    have e : ∀ (y : Option Operand), (∀ z, y = some z → z ∈ (Op.slice t x lo hi mx).operands) → y.map f = y.map g := by
      intro y hy
      cases y with
      | none => rfl
      | some z => rw [Option.map_some, Option.map_some, h z (hy z rfl)]
    rw [h x (by simp [Op.operands]), e lo (fun z hz => by simp [Op.operands, hz]), e hi (fun z hz => by simp [Op.operands, hz]), e mx (fun z hz => by simp [Op.operands, hz])]
  case index t x ix => rw [h x (by simp [Op.operands]), h ix (by simp [Op.operands])]
  case call c =>
    cases hc : c.callee <;> simp only [hc, Bool.false_eq_true] at hk
    have ea : c.args.map f = c.args.map g := amap_congr fun x hx => h x (by simp [Op.operands, Call.operands, hc, hx])
    simp only [resolve, hc, ea]
theorem pureOp_sound {ev evC : Operand → Value} {o : Oper} {v : Value} (h : aop.pureOp P ev o H = some (.val v H')) (hev : ∀ x ∈ o.op.operands, evC x = ren ρ (ev x) ∧ Bd V (ev x)) (w : World) :
    H' = H ∧ (execOp evC o).run P w = .ok (.value (ren ρ v)) w ∧ Bd V v := by
  unfold aop.pureOp at h
  split at h
  · rename_i hc
    simp only [Bool.and_eq_true] at hc
    obtain ⟨hk, hf⟩ := hc
    have hf' : ∀ x ∈ o.op.operands, flat (ev x) = true := by
      intro x hx
      simp only [Array.all_eq_true] at hf
      obtain ⟨i, hi, rfl⟩ := Array.mem_iff_getElem.1 hx
      exact hf i hi
    have e : execOp evC o = execOp ev o := execOp_congr hk fun x hx => by rw [(hev x hx).1, ren_flat (hf' x hx)]
    split at h
    · rename_i v' hp
      split at h
      · rename_i hv
        injection h with h
        injection h with h1 h2
        subst h1 h2
        rw [e, ren_flat hv]
        exact ⟨rfl, pureSem_run P _ _ w hp, Bd_flat hv⟩
      · cases h
    · cases h
  · cases h
theorem pureOp_no {ev : Operand → Value} {o : Oper} {f : FuncId} {args : Array Value} (h : aop.pureOp P ev o H = some (.enter f args H')) : False := by
  unfold aop.pureOp at h
  split at h
  · split at h
    · split at h <;> cases h
    · cases h
  · cases h
/-- What an operation that runs on comes to. -/
def Ran (P : Program) (ρ : Ren) (V : Nat → Prop) (H : Hp) (w : World) (evC : Operand → Value) (o : Oper) (v : Value) (H' : Hp) : Prop :=
  Grew H H' ∧ ∃ ρ' w' r, (execOp evC o).run P w = .ok r w' ∧ (r = .value (ren ρ' v) ∨ (r = .skip ∧ v = undef)) ∧ Bd (grow V H.size H'.size) v ∧ Post ρ V H w ρ' H' w'
theorem Ran.ofPure (hS : Sim ρ V H w) {ev evC : Operand → Value} {o : Oper} {v : Value} (h : aop.pureOp P ev o H = some (.val v H')) (hev : ∀ x ∈ o.op.operands, evC x = ren ρ (ev x) ∧ Bd V (ev x)) : Ran P ρ V H w evC o v H' := by
  obtain ⟨rfl, h1, h2⟩ := pureOp_sound h hev w
  exact ⟨Grew.refl _, ρ, w, _, h1, .inl rfl, by rw [grow_self]; exact h2, Post.refl hS⟩
theorem Ran.val (hS : Sim ρ V H w) {evC : Operand → Value} {o : Oper} {v : Value} (h1 : (execOp evC o).run P w = .ok (.value (ren ρ v)) w) (h2 : Bd V v) : Ran P ρ V H w evC o v H :=
  ⟨Grew.refl _, ρ, w, _, h1, .inl rfl, by rw [grow_self]; exact h2, Post.refl hS⟩
theorem Ran.mk {evC : Operand → Value} {o : Oper} {v : Value} {s : Sem Value} (he : execOp evC o = (do pure (Next.value (← s)) : Sem Next)) (h : Grew H H' ∧ ∃ ρ' w', s.run P w = .ok (ren ρ' v) w' ∧ Bd (grow V H.size H'.size) v ∧ Post ρ V H w ρ' H' w') : Ran P ρ V H w evC o v H' := by
  obtain ⟨hg, ρ', w', h1, h2, h3⟩ := h
  exact ⟨hg, ρ', w', _, by rw [he]; simp [h1], .inl rfl, h2, h3⟩
theorem Ran.mkU {evC : Operand → Value} {o : Oper} {s : Sem Unit} (he : execOp evC o = (do s; pure Next.skip : Sem Next)) (h : Grew H H' ∧ ∃ w', s.run P w = .ok () w' ∧ Post ρ V H w ρ H' w') : Ran P ρ V H w evC o undef H' := by
  obtain ⟨hg, w', h1, h3⟩ := h
  exact ⟨hg, ρ, w', _, by rw [he]; simp [h1], .inr ⟨rfl, rfl⟩, fun x hx => by simp [undef] at hx, h3⟩
theorem mapv {α : Type} {f : α → Res} {x : Option α} {r : Res} (h : x.map f = some r) : ∃ a, x = some a ∧ f a = r := by simpa [Option.map_eq_some_iff] using h
theorem binEq (ρ : Ren) {t : TypeId} {x y : Value} {b : Bool} (h : nilEq P t x y = some b) : binOp .eql t (ren ρ x) (ren ρ y) = (do pure (Value.bool (← Op.equal t (ren ρ x) (ren ρ y))) : Sem Value) ∧
    binOp .neq t (ren ρ x) (ren ρ y) = (do pure (Value.bool (!(← Op.equal t (ren ρ x) (ren ρ y)))) : Sem Value) := by
  unfold nilEq at h
  split at h <;> first
    | exact ⟨rfl, rfl⟩
    | cases h
theorem aop_val (hS : Sim ρ V H w) {ev evC : Operand → Value} {o : Oper} {v : Value} (h : aop P ev o H = some (.val v H')) (hev : ∀ x ∈ o.op.operands, evC x = ren ρ (ev x) ∧ Bd V (ev x)) : Ran P ρ V H w evC o v H' := by
  unfold aop at h
  cases ho : o.op <;> rw [ho] at h hev <;> simp only at h
  case move x =>
    injection h with h; injection h with h1 h2; subst h1 h2
    obtain ⟨e, b⟩ := hev x (by simp [Op.operands])
    exact Ran.val hS (by simp [execOp, ho, e]) b
  case assign x =>
    injection h with h; injection h with h1 h2; subst h1 h2
    obtain ⟨e, b⟩ := hev x (by simp [Op.operands])
    exact Ran.val hS (by simp [execOp, ho, e]) b
  case pick c a b =>
    obtain ⟨ec, _⟩ := hev c (by simp [Op.operands])
    obtain ⟨ea, ba⟩ := hev a (by simp [Op.operands])
    obtain ⟨eb, bb⟩ := hev b (by simp [Op.operands])
    split at h
    · rename_i t hc
      injection h with h; injection h with h1 h2; subst h1 h2
      rw [hc] at ec
      have ec' : evC c = .bool t := ec
      refine Ran.val hS ?_ (by split <;> assumption)
      simp only [execOp, ho, ec', asBool, Sem.run_bind, Sem.run_pure, Result.andThen_ok, ea, eb]
      cases t <;> rfl
    · cases h
  case alloc elem =>
    split at h
    · rename_i z hz
      split at h
      · rename_i hf
        injection h with h; injection h with h1 h2; subst h1 h2
        obtain ⟨ρ', w', r1, r2⟩ := alloc_sound (P := P) hS hz hf
        exact Ran.mk (by simp only [execOp, ho]) ⟨Grew.new _ _, ρ', w', r1, .inr ⟨Nat.le_refl _, Nat.lt_succ_self _⟩, r2⟩
      · cases h
    · cases h
  case box elem x =>
    obtain ⟨e, b⟩ := hev x (by simp [Op.operands])
    split at h
    · rename_i hf
      injection h with h; injection h with h1 h2; subst h1 h2
      obtain ⟨ρ', w', r1, r2⟩ := box_sound (P := P) (elem := elem) hS hf b
      exact Ran.mk (by simp only [execOp, ho, e]) ⟨Grew.new _ _, ρ', w', r1, .inr ⟨Nat.le_refl _, Nat.lt_succ_self _⟩, r2⟩
    · cases h
  case build t parts =>
    obtain ⟨v', hv', hr⟩ := mapv h
    injection hr with h1 h2; subst h1 h2
    have hps : ∀ p ∈ parts, evC p.2 = ren ρ (ev p.2) ∧ Bd V (ev p.2) := fun p hp => hev p.2 (by simp only [Op.operands]; exact Array.mem_def.2 (by simpa using ⟨p.1, hp⟩))
    obtain ⟨r1, r2⟩ := build_sound (ρ := ρ) (V := V) hv' (fun p hp => by
      rw [Array.toList_map] at hp
      obtain ⟨q, hq, rfl⟩ := List.mem_map.1 hp
      exact (hps q (Array.mem_def.2 hq)).2) w
    refine Ran.mk (s := Instr.build t (parts.map fun (i, x) => (i, evC x))) (by simp only [execOp, ho]) ⟨Grew.refl _, ρ, w, ?_, by rw [grow_self]; exact r2, Post.refl hS⟩
    rw [← r1]
    congr 2
    apply Array.ext'
    rw [Array.toList_map, Array.toList_map, List.map_map]
    exact List.map_congr_left fun p hp => by simp only [Function.comp]; rw [(hps p (Array.mem_def.2 hp)).1]
  case buildSlice t len parts =>
    obtain ⟨⟨v', H1⟩, hv', hr⟩ := mapv h
    injection hr with h1 h2; subst h1 h2
    have hps : ∀ p ∈ parts, evC p.2 = ren ρ (ev p.2) ∧ Bd V (ev p.2) := fun p hp => hev p.2 (by simp only [Op.operands]; exact Array.mem_def.2 (by simpa using ⟨p.1, hp⟩))
    obtain ⟨g, ρ', w', r1, r2, r3⟩ := buildSlice_sound (P := P) hS hv' (fun p hp => by
      rw [Array.toList_map] at hp
      obtain ⟨q, hq, rfl⟩ := List.mem_map.1 hp
      exact (hps q (Array.mem_def.2 hq)).2)
    refine Ran.mk (s := Instr.buildSlice t len (parts.map fun (i, x) => (i, evC x))) (by simp only [execOp, ho]) ⟨g, ρ', w', ?_, r2, r3⟩
    rw [← r1]
    congr 2
    apply Array.ext'
    rw [Array.toList_map, Array.toList_map, List.map_map]
    exact List.map_congr_left fun p hp => by simp only [Function.comp]; rw [(hps p (Array.mem_def.2 hp)).1]
  case load t a =>
    obtain ⟨e, b⟩ := hev a (by simp [Op.operands])
    obtain ⟨v', hv', hr⟩ := mapv h
    injection hr with h1 h2; subst h1 h2
    obtain ⟨r1, r2⟩ := load_sound (P := P) hS hv'
    exact Ran.mk (by simp only [execOp, ho, e]) ⟨Grew.refl _, ρ, w, r1, by rw [grow_self]; exact r2, Post.refl hS⟩
  case store t a x =>
    obtain ⟨e, b⟩ := hev a (by simp [Op.operands])
    obtain ⟨e2, b2⟩ := hev x (by simp [Op.operands])
    obtain ⟨v', hv', hr⟩ := mapv h
    injection hr with h1 h2; subst h1 h2
    exact Ran.mkU (by simp only [execOp, ho, e, e2]) (store_sound (P := P) hS hv' b2)
  case nilCheck x =>
    obtain ⟨e, b⟩ := hev x (by simp [Op.operands])
    split at h
    · rename_i a hx
      injection h with h; injection h with h1 h2; subst h1 h2
      rw [hx] at e b
      have e' : evC x = .pointer (some (ρ.addr a)) := e
      exact Ran.val hS (by simp only [execOp, ho, e']; rfl) b
    · rename_i f c1 c2 hx
      injection h with h; injection h with h1 h2; subst h1 h2
      rw [hx] at e b
      have e' : evC x = .func (.func f) (c1.map (ren0 ρ)) (c2.map (ren0 ρ)) := e
      exact Ran.val hS (by simp only [execOp, ho, e']; rfl) b
    · rename_i a n c hx
      injection h with h; injection h with h1 h2; subst h1 h2
      rw [hx] at e b
      have e' : evC x = .slice (a.map ρ.addr) n (ρ.cap a c) := e
      exact Ran.val hS (by simp only [execOp, ho, e']; rfl) b
    · cases h
  case binOp op t x y yt =>
    obtain ⟨ex, bx⟩ := hev x (by simp [Op.operands])
    obtain ⟨ey, by'⟩ := hev y (by simp [Op.operands])
    have hguard : ∀ b, nilEq P t (ev x) (ev y) = some b → ∀ op, (eqGuard op t x y (evC x) (evC y)).run P w = .ok () w := by
      intro b hb op
      rw [ex, ey]
      unfold nilEq at hb
      unfold eqGuard
      split at hb <;> first
        | (rename_i h1 h2 h3; rw [h2, h3]; cases op <;> rfl)
        | (rename_i h1 h2 h3 h4; rw [h2, h3]; cases op <;> rfl)
        | (rename_i h1 h2 h3; rw [h1, h2]; cases op <;> rfl)
        | cases hb
    split at h
    · rename_i b hn
      injection h with h; injection h with h1 h2; subst h1 h2
      refine Ran.val hS ?_ trivial
      simp only [execOp, ho, Sem.run_bind, hguard b hn, Result.andThen_ok]
      have hb : (binOp .eql t (evC x) (evC y)).run P w = .ok (.bool b) w := by
        rw [ex, ey, (binEq ρ hn).1]
        simp [nilEq_sound hn w]
      rw [hb]; rfl
    · rename_i b hn
      injection h with h; injection h with h1 h2; subst h1 h2
      refine Ran.val hS ?_ trivial
      simp only [execOp, ho, Sem.run_bind, hguard b hn, Result.andThen_ok]
      have hb : (binOp .neq t (evC x) (evC y)).run P w = .ok (.bool (!b)) w := by
        rw [ex, ey, (binEq ρ hn).2]
        simp [nilEq_sound hn w]
      rw [hb]; rfl
    · exact Ran.ofPure hS h (by rw [ho]; exact hev)
  case convert src dst x =>
    obtain ⟨e, b⟩ := hev x (by simp [Op.operands])
    split at h
    · rename_i r hr
      obtain ⟨v', H1⟩ := r
      injection h with h; injection h with h1 h2; subst h1 h2
      exact Ran.mk (by simp only [execOp, ho, e]) (conv_sound (P := P) hS hr)
    · exact Ran.ofPure hS h (by rw [ho]; exact hev)
    · cases h
  case makeFunc fn first captured =>
    split at h
    · rename_i f
      split at h
      · rename_i hc
        simp only [Bool.and_eq_true, beq_iff_eq] at hc
        obtain ⟨h0, hp⟩ := hc
        injection h with h; injection h with h1 h2; subst h1 h2
        obtain rfl := Array.eq_empty_of_size_eq_zero h0
        have hcap : ∀ x ∈ captured, evC x = ren ρ (ev x) ∧ Bd V (ev x) := fun x hx => hev x (by simp [Op.operands, hx])
        have hptr : ∀ x ∈ captured, isPtr (ev x) = true := by
          intro x hx
          rw [Array.all_map, Array.all_eq_true] at hp
          obtain ⟨i, hi, rfl⟩ := Array.mem_iff_getElem.1 hx
          exact hp i hi
        have e : captured.map evC = (captured.map ev).map (ren0 ρ) := by
          rw [Array.map_map]
          refine amap_congr fun x hx => ?_
          rw [(hcap x hx).1]
          have := hptr x hx
          simp only [Function.comp]
          cases hx2 : ev x <;> rw [hx2] at this <;> simp only [isPtr, Bool.false_eq_true] at this
          rfl
        refine Ran.val hS ?_ ⟨fun x hx => by simp at hx, fun x hx => ?_⟩
        · simp only [execOp, ho, Instr.makeFunc, e]
          simp [ren, ren2, ren1]
        · obtain ⟨y, hy, rfl⟩ := Array.mem_map.1 hx
          have h9 := hptr y hy
          have h8 := (hcap y hy).2
          cases hx2 : ev y <;> rw [hx2] at h9 h8 <;> simp only [isPtr, Bool.false_eq_true] at h9
          exact h8
      · cases h
    · cases h
  case makeMap t r =>
    split at h
    · rename_i kd ed hu
      split at h
      · rename_i hr
        injection h with h; injection h with h1 h2; subst h1 h2
        have hr' : ∀ x, r.map ev = some x → ∃ k n, x = .int k n := by
          intro x hx
          cases r with
          | none => cases hx
          | some y =>
            injection hx with hx
            simp only [Option.all_some] at hr
            rw [hx] at hr
            cases x <;> simp [int?] at hr
            exact ⟨_, _, rfl⟩
        have er : r.map evC = (r.map ev).map (ren ρ) := by
          cases r with
          | none => rfl
          | some y => simp only [Option.map_some]; rw [(hev y (by simp [Op.operands])).1]
        obtain ⟨ρ', w', r1, r2⟩ := makeMap_sound (P := P) hS hu hr'
        exact Ran.mk (s := Instr.makeMap t (r.map evC)) (by simp only [execOp, ho]) ⟨Grew.new _ _, ρ', w', by rw [er]; exact r1, .inr ⟨Nat.le_refl _, Nat.lt_succ_self _⟩, r2⟩
      · cases h
    · cases h
  case makeSlice t l c =>
    obtain ⟨e1, _⟩ := hev l (by simp [Op.operands])
    obtain ⟨e2, _⟩ := hev c (by simp [Op.operands])
    obtain ⟨⟨v', H1⟩, hv', hr⟩ := mapv h
    injection hr with h1 h2; subst h1 h2
    exact Ran.mk (by simp only [execOp, ho, e1, e2]) (makeSlice_sound (P := P) hS hv')
  case slice t x lo hi mx =>
    obtain ⟨e, b⟩ := hev x (by simp [Op.operands])
    split at h
    · exact Ran.ofPure hS h (by rw [ho]; exact hev)
    · obtain ⟨⟨v', H1⟩, hv', hr⟩ := mapv h
      injection hr with h1 h2; subst h1 h2
      have eo : ∀ (y : Option Operand), (∀ z, y = some z → z ∈ (Op.slice t x lo hi mx).operands) → y.map evC = (y.map ev).map (ren ρ) := by
        intro y hy
        cases y with
        | none => rfl
        | some z => simp only [Option.map_some]; rw [(hev z (hy z rfl)).1]
      obtain ⟨g, ρ', r1, r2, r3⟩ := slice_sound (P := P) hS hv' b
      refine Ran.mk (s := Instr.sliceAt t (evC x) (lo.map evC) (hi.map evC) (mx.map evC)) (by simp only [execOp, ho]) ⟨g, ρ', w, ?_, r2, r3⟩
      rw [e, eo lo (fun z hz => by simp [Op.operands, hz]), eo hi (fun z hz => by simp [Op.operands, hz]), eo mx (fun z hz => by simp [Op.operands, hz])]
      exact r1
  case fieldAddr s x f =>
    obtain ⟨e, b⟩ := hev x (by simp [Op.operands])
    split at h
    · rename_i fields a hu hx
      split at h
      · rename_i fl hf
        split at h
        · rename_i i hi
          split at h
          · cases h
          · rename_i h0
            injection h with h; injection h with h1 h2; subst h1 h2
            rw [hx] at e b
            exact Ran.mk (by simp only [execOp, ho, e]) ⟨Grew.refl _, ρ, w, fieldAt_sound hu hf hi h0, by rw [grow_self]; show V _; rw [addr_block]; exact b, Post.refl hS⟩
        · cases h
      · cases h
    · cases h
  case field t x f =>
    obtain ⟨e, b⟩ := hev x (by simp [Op.operands])
    split at h
    · rename_i fields cs hu hx
      split at h
      · rename_i fl hf
        obtain ⟨v', hv', hr⟩ := mapv h
        injection hr with h1 h2; subst h1 h2
        rw [hx] at e b
        obtain ⟨r1, r2⟩ := part_sound (ρ := ρ) hv' b w
        refine Ran.mk (s := Instr.field t (ren ρ (.agg cs)) f) (by simp only [execOp, ho, e]) ⟨Grew.refl _, ρ, w, ?_, by rw [grow_self]; exact r2, Post.refl hS⟩
        have e2 : ren ρ (.agg cs) = .agg (cs.map (ren1 ρ)) := rfl
        unfold Instr.field
        rw [e2]
        simp only [Sem.run_bind, underlying_run hu, Result.andThen_ok, hf, asAgg, Sem.run_pure, r1]
      · cases h
    · cases h
  case indexAddr t x ix =>
    obtain ⟨e, b⟩ := hev x (by simp [Op.operands])
    obtain ⟨e2, _⟩ := hev ix (by simp [Op.operands])
    split at h
    · rename_i len elem a k i hu hx hix
      split at h
      · rename_i s hs
        split at h
        · rename_i hc
          injection h with h; injection h with h1 h2; subst h1 h2
          rw [hix] at e2
          have e2' : evC ix = .int k i := e2
          rw [hx] at e b
          exact Ran.mk (s := Instr.indexAt t (ren ρ (.pointer (some a))) (.int k i)) (by simp only [execOp, ho, e, e2']) ⟨Grew.refl _, ρ, w, indexAt_sound (.inl ⟨hu, rfl⟩) hs hc.1 hc.2, by rw [grow_self]; show V _; rw [addr_block]; exact b, Post.refl hS⟩
        · cases h
      · cases h
    · rename_i elem a len c k i hu hx hix
      split at h
      · rename_i s hs
        split at h
        · rename_i hc
          injection h with h; injection h with h1 h2; subst h1 h2
          rw [hix] at e2
          have e2' : evC ix = .int k i := e2
          rw [hx] at e b
          exact Ran.mk (s := Instr.indexAt t (ren ρ (.slice (some a) len c)) (.int k i)) (by simp only [execOp, ho, e, e2']) ⟨Grew.refl _, ρ, w, indexAt_sound (.inr ⟨hu, c, rfl⟩) hs hc.1 hc.2, by rw [grow_self]; show V _; rw [addr_block]; exact b, Post.refl hS⟩
        · cases h
      · cases h
    · cases h
  case index t x ix =>
    obtain ⟨e, b⟩ := hev x (by simp [Op.operands])
    obtain ⟨e2, _⟩ := hev ix (by simp [Op.operands])
    split at h
    · rename_i len elem cs k i hu hx hix
      split at h
      · rename_i s hs
        split at h
        · rename_i hc
          obtain ⟨v', hv', hr⟩ := mapv h
          injection hr with h1 h2; subst h1 h2
          rw [hix] at e2
          have e2' : evC ix = .int k i := e2
          rw [hx] at e b
          obtain ⟨r1, r2⟩ := part_sound (ρ := ρ) hv' b w
          refine Ran.mk (s := Instr.index t (ren ρ (.agg cs)) (.int k i)) (by simp only [execOp, ho, e, e2']) ⟨Grew.refl _, ρ, w, ?_, by rw [grow_self]; exact r2, Post.refl hS⟩
          have e3 : ren ρ (.agg cs) = .agg (cs.map (ren1 ρ)) := rfl
          unfold Instr.index
          rw [e3]
          simp only [Sem.run_bind, asIntOf, underlying_run hu, Result.andThen_ok, Sem.run_pure]
          rw [if_pos hc]
          simp only [Sem.run_bind, sizeOf_run hs, Result.andThen_ok, r1]
        · cases h
      · cases h
    · exact Ran.ofPure hS h (by rw [ho]; exact hev)
  case lookup t x ix ok =>
    obtain ⟨e, b⟩ := hev x (by simp [Op.operands])
    obtain ⟨e2, _⟩ := hev ix (by simp [Op.operands])
    obtain ⟨v', hv', hr⟩ := mapv h
    injection hr with h1 h2; subst h1 h2
    obtain ⟨r1, r2⟩ := lookup_sound (P := P) hS hv'
    exact Ran.mk (by simp only [execOp, ho, e, e2]) ⟨Grew.refl _, ρ, w, r1, by rw [grow_self]; exact r2, Post.refl hS⟩
  case mapUpdate t m k x =>
    obtain ⟨e1, _⟩ := hev m (by simp [Op.operands])
    obtain ⟨e2, _⟩ := hev k (by simp [Op.operands])
    obtain ⟨e3, b3⟩ := hev x (by simp [Op.operands])
    obtain ⟨v', hv', hr⟩ := mapv h
    injection hr with h1 h2; subst h1 h2
    exact Ran.mkU (by simp only [execOp, ho, e1, e2, e3]) (mapUpdate_sound (P := P) hS hv' b3)
  case insert t m k x =>
    obtain ⟨e1, _⟩ := hev m (by simp [Op.operands])
    obtain ⟨e2, _⟩ := hev k (by simp [Op.operands])
    obtain ⟨e3, b3⟩ := hev x (by simp [Op.operands])
    obtain ⟨v', hv', hr⟩ := mapv h
    injection hr with h1 h2; subst h1 h2
    exact Ran.mkU (by simp only [execOp, ho, e1, e2, e3]) (mapUpdate_sound (P := P) hS hv' b3)
  case extract t ix =>
    obtain ⟨e, b⟩ := hev t (by simp [Op.operands])
    split at h
    · rename_i vs ht
      split at h
      · cases h
      · cases h
      · rename_i v' hnt hv'
        injection h with h; injection h with h1 h2; subst h1 h2
        rw [ht] at e b
        have e' : evC t = .tuple (vs.map (ren2 ρ)) := e
        have hb := b v' (Array.mem_of_getElem? hv')
        have hren : ren ρ v' = ren2 ρ v' := by
          cases v'
          case tuple us => exact (hnt us rfl).elim
          all_goals rfl
        have hbd : Bd V v' := by
          cases v'
          case tuple us => exact (hnt us rfl).elim
          all_goals exact hb
        refine Ran.mk (s := Instr.extract (evC t) ix) (by simp only [execOp, ho]) ⟨Grew.refl _, ρ, w, ?_, by rw [grow_self]; exact hbd, Post.refl hS⟩
        rw [e']
        unfold Instr.extract
        simp only [Array.getElem?_map, hv', Option.map_some, Sem.run_pure, hren]
    · cases h
  case call c =>
    split at h
    · rename_i f hc
      unfold calls' at h
      split at h
      · split at h
        · split at h <;> cases h
        · cases h
      · cases h
    · rename_i b hc
      split at h
      · exact Ran.ofPure hS h (by rw [ho]; exact hev)
      · rename_i hsz
        have hargs : ∀ x ∈ c.args, evC x = ren ρ (ev x) ∧ Bd V (ev x) := fun x hx => hev x (by simp [Op.operands, Call.operands, hc, hx])
        have ea : c.args.map evC = (c.args.map ev).map (ren ρ) := by
          rw [Array.map_map]; exact amap_congr fun x hx => (hargs x hx).1
        have hbd : ∀ x ∈ c.args.map ev, Bd V x := by
          intro x hx
          obtain ⟨y, hy, rfl⟩ := Array.mem_map.1 hx
          exact (hargs y hy).2
        have hex : ∀ s : Sem Value, builtin b c.argTypes o.type (c.args.map fun | .const _ => true | _ => false) (c.args.map evC) = (do pure (Next.value (← s)) : Sem Next) → execOp evC o = (do pure (Next.value (← s)) : Sem Next) := by
          intro s hs
          rw [← hs]
          simp only [execOp, ho, resolve, hc]
          rfl
        have h0 : ∀ s, (c.args.map ev)[0]? = some s → (c.args.map evC)[0]? = some (ren ρ s) := fun s hs => by rw [ea, Array.getElem?_map, hs]; rfl
        have htwo : ∀ s x, (c.args.map ev)[0]? = some s → (c.args.map ev)[1]? = some x → c.args.map evC = #[ren ρ s, ren ρ x] := by
          intro s x hs hx
          rw [ea]
          have : c.args.map ev = #[s, x] := by
            apply Array.ext_getElem?
            intro j
            match j with
            | 0 => exact hs
            | 1 => exact hx
            | j + 2 => rw [Array.getElem?_eq_none (by omega), Array.getElem?_eq_none (by simp)]
          rw [this]; simp
        split at h
        · rename_i t s x ht hs hx
          obtain ⟨⟨v', H1⟩, hv', hr⟩ := mapv h
          injection hr with h1 h2; subst h1 h2
          refine Ran.mk (hex (Builtin.append_ c.argTypes o.type (c.args.map evC)) rfl) ?_
          rw [htwo s x hs hx]
          exact append_sound (P := P) hS ht hv' (hbd s (Array.mem_of_getElem? hs))
        · rename_i t s x ht hs hx
          obtain ⟨⟨v', H1⟩, hv', hr⟩ := mapv h
          injection hr with h1 h2; subst h1 h2
          refine Ran.mk (hex (Builtin.copy_ c.argTypes o.type (c.args.map evC)) rfl) ?_
          rw [htwo s x hs hx]
          obtain ⟨g, w', r⟩ := copy_sound (P := P) (ty := o.type) hS ht hv'
          exact ⟨g, ρ, w', r⟩
        · rename_i t x ht hx
          obtain ⟨⟨v', H1⟩, hv', hr⟩ := mapv h
          injection hr with h1 h2; subst h1 h2
          refine Ran.mk (hex (Builtin.clear_ c.argTypes o.type (c.args.map evC)) rfl) ?_
          obtain ⟨g, w', r⟩ := clear_sound (P := P) (ty := o.type) hS ht (h0 x hx) hv'
          exact ⟨g, ρ, w', r⟩
        · rename_i t m k ht hm hk
          obtain ⟨H1, hv', hr⟩ := mapv h
          injection hr with h1 h2; subst h1 h2
          refine Ran.mk (hex (Builtin.delete_ c.argTypes o.type (c.args.map evC)) rfl) ?_
          rw [htwo m k hm hk]
          obtain ⟨g, w', r1, r2⟩ := delete_sound (P := P) (ty := o.type) hS ht hv'
          exact ⟨g, ρ, w', by rw [r1]; simp [ren], fun x hx => by simp at hx, r2⟩
        · rename_i t a n cp ht hx
          split at h
          · rename_i e hu
            injection h with h; injection h with h1 h2; subst h1 h2
            refine Ran.mk (hex (Builtin.len_ c.argTypes o.type (c.args.map evC)) rfl) ⟨Grew.refl _, ρ, w, ?_, by rw [grow_self]; trivial, Post.refl hS⟩
            unfold Builtin.len_
            rw [ht, h0 _ hx]
            simp only [Sem.run_bind, underlying_run hu, Result.andThen_ok, ren, ren2, ren1, ren0, Sem.run_pure]
            rfl
          · cases h
        · rename_i t r ht hx
          split at h
          · rename_i kd ed es ck hu hg
            injection h with h; injection h with h1 h2; subst h1 h2
            obtain ⟨hv, g1, g2⟩ := hS.getM hg
            refine Ran.mk (hex (Builtin.len_ c.argTypes o.type (c.args.map evC)) rfl) ⟨Grew.refl _, ρ, w, ?_, by rw [grow_self]; trivial, Post.refl hS⟩
            unfold Builtin.len_
            have e9 : ren ρ (.map (some r)) = .map (some (ρ.β r)) := rfl
            rw [ht, h0 _ hx, e9]
            simp only [Sem.run_bind, underlying_run hu, Result.andThen_ok, Sem.run_pure, getObj_run g1, Array.size_map]
            rfl
          · cases h
        · rename_i t a l n ht hx
          split at h
          · rename_i e hu
            split at h
            · rename_i hn
              injection h with h; injection h with h1 h2; subst h1 h2
              refine Ran.mk (hex (Builtin.cap_ c.argTypes o.type (c.args.map evC)) rfl) ⟨Grew.refl _, ρ, w, ?_, by rw [grow_self]; trivial, Post.refl hS⟩
              unfold Builtin.cap_
              have e9 : ren ρ (.slice a l n) = .slice (a.map ρ.addr) l n := by
                show Value.slice _ _ (ρ.cap a n) = _
                rw [cap_closed ρ a hn]
              rw [ht, h0 _ hx, e9]
              simp only [Sem.run_bind, underlying_run hu, Result.andThen_ok, Sem.run_pure]
              rfl
            · cases h
          · cases h
        · exact Ran.ofPure hS h (by rw [ho]; exact hev)
    · cases h
  all_goals exact Ran.ofPure hS h (by rw [ho]; exact hev)
end
end Go.Ab
