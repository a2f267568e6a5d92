/- From runs of the abstract machine to calls of functions without arguments. -/
import Derived.Test.YtihcpmebabkagaaGreatAb25
set_option linter.unusedSimpArgs false
set_option linter.unusedVariables false
namespace Go.Ab
open Go.RowKit
/-- The empty memory. -/
def H0 : Hp := ⟨.e, 0, [], 0⟩
def isT : Option (Value × Hp) → Bool
  | some (.bool b, _) => b
  | _ => false
def noExt : CallT := fun _ _ _ => none
/-- One function without arguments is known to answer true. -/
def extT (g : FuncId) : CallT := fun f args H => if Nat.beq f g && Nat.beq args.size 0 then some (.bool true, H) else none
theorem noExt_sound (P : Program) : SoundCall P noExt := fun f args H v H' h => by cases h
theorem noExt_grew : GrewCall noExt := fun f args H v H' h => by cases h
theorem extT_grew (g : FuncId) : GrewCall (extT g) := by
  intro f args H v H' h
  unfold extT at h
  split at h
  · injection h with h; injection h with h1 h2; subst h2; exact Grew.refl _
  · cases h
section
variable {P : Program} {ρ : Ren} {V : Nat → Prop} {H : Hp} {w w' : World}
theorem Sim.below (h : Sim ρ V H w) (hB : Below w.heap.size w w') : Post ρ V H w ρ H w' := by
  have hc : ∀ c : Nat, (∃ o, w.heap[c]? = some o) → w'.heap[c]? = w.heap[c]? := by
    rintro c ⟨o, ho⟩
    exact hB.block c (Array.getElem?_eq_some_iff.1 ho).1
  refine ⟨Ext.refl _ _, ?_, ?_⟩
  · rw [grow_self]
    refine ⟨h.fresh, h.mlt, h.bound, h.vis, fun b cs z hv ho => ⟨(h.blk b cs z hv ho).1.move rfl rfl rfl (fun _ _ => rfl) ?_, (h.blk b cs z hv ho).2⟩, fun b es ck hv ho => ?_, h.inj⟩
    · obtain ⟨c, ty, fr, hx⟩ := (h.blk b cs z hv ho).1.obj
      exact hc _ ⟨_, hx⟩
    · have := h.map b es ck hv ho
      rw [hc _ ⟨_, this.1⟩]; exact this
  · rw [grow_self]
    exact ⟨hB.os, hB.tape, hB.output, hB.size, fun c hc _ => hB.block c hc, fun c hi => .inl hi⟩
theorem extT_sound {g : FuncId} (hg : ∀ W, Calls P g #[] W fun e W' => e = .returned (.bool true) ∧ Below W.heap.size W W') : SoundCall P (extT g) := by
  intro f args H v H' h ρ V w hS hb
  unfold extT at h
  split at h
  · rename_i hc
    rw [Bool.and_eq_true] at hc
    have h1 : f = g := Nat.eq_of_beq_eq_true hc.1
    have h2 : args.size = 0 := Nat.eq_of_beq_eq_true hc.2
    injection h with h; injection h with h3 h4
    subst h1 h3 h4
    obtain rfl := Array.eq_empty_of_size_eq_zero h2
    rw [show (#[] : Array Value).map (ren ρ) = #[] by simp]
    refine (hg w).mono ?_
    rintro e w' ⟨rfl, hB⟩
    exact ⟨ρ, rfl, Bd_flat rfl, Grew.refl _, hS.below hB⟩
  · cases h
/-- From a run of the abstract machine on an empty memory to the call. -/
theorem calls_true {ext : CallT} (hm : P.follows .mixedOrders = true) (hs : SoundCall P ext) (hg : GrewCall ext) {N d : Nat} {f : FuncId} (h : isT (callN P ext N d f #[] H0) = true) (W : World) :
    Calls P f #[] W fun e W' => e = .returned (.bool true) ∧ Below W.heap.size W W' := by
  cases hr : callN P ext N d f #[] H0 with
  | none => rw [hr] at h; cases h
  | some r =>
    obtain ⟨v, H'⟩ := r
    rw [hr] at h
    have hv : v = .bool true := by
      cases v <;> simp only [isT, Bool.false_eq_true] at h
      subst h; rfl
    subst hv
    have hs0 : Sim ⟨fun b => b, fun _ => 0, fun _ => 0⟩ (fun _ => False) H0 W := sim_bare (n := 0) (fun b h => h.elim) _ _
    have h9 := sound_callN hm hs hg N d f #[] H0 _ H' hr _ _ W hs0 (fun x hx => by simp at hx)
    rw [show (#[] : Array Value).map (ren ⟨fun b => b, fun _ => 0, fun _ => 0⟩) = #[] by simp] at h9
    refine h9.mono ?_
    rintro e W' ⟨ρ', rfl, _, hp⟩
    refine ⟨rfl, hp.post.fr.os, hp.post.fr.tape, hp.post.fr.output, hp.post.fr.size, fun c hc => hp.post.fr.blk c hc ?_⟩
    rintro ⟨b, o, hb, _⟩
    exact hb
end
end Go.Ab
