/- Words that the walks of this seat use: how a slice reads, what a call leaves alone, rows that a call owns. -/
import Derived.Test.YtmonbigaldamfaaRows
import Derived.WalkKit
import Derived.WalkSpells
import Derived.WalkLawsBesides
import Derived.Deep.QuietTactic
import Derived.BigQuiet
import Derived.StillTailTactics
import Derived.Handy
import Derived.Outline
import Derived.Deep.RegionHeld3
import Derived.Deep.LoopGhost
import Derived.Lib.Hide
import Derived.Deep.DeepFit
import Derived.Maps.AppendAt
import Derived.DataElems
import Derived.Deep.CutBlock
import Derived.Deep.DeepCutAuto
import Derived.Laws.AppendOwnNone
namespace Go.Osm
open Go.RowKit

/-! ### numbers -/
def pick (n m : Int) : Int := if n.tmod m < 0 then n.tmod m + m else n.tmod m
theorem pick_range {n m : Int} (h : 0 < m) : 0 ≤ pick n m ∧ pick n m < m := by
  have h3 : n.tmod m < m := Int.tmod_lt_of_pos n h
  have h4 : -m < n.tmod m := by
    have h5 := Int.tmod_lt_of_pos (-n) h
    rw [Int.neg_tmod] at h5
    omega
  unfold pick
  split <;> omega
def num (n : Int) : Int :=
  if pick n 7 = 0 ∨ pick n 7 = 1 ∨ pick n 7 = 2 then pick (wrap64 (n.tdiv 7)) 40
  else if pick n 7 = 3 then wrap64 (wrap64 (2 ^ min (IntKind.u64.wrap (pick (wrap64 (n.tdiv 7)) 63)).toNat 64) - pick (wrap64 (n.tdiv 441)) 3)
  else if pick n 7 = 4 then wrap64 (4611686018427387903 - pick (wrap64 (n.tdiv 7)) 3)
  else if pick n 7 = 5 then pick (wrap64 (n.tdiv 7)) 1000 else n
def may (n : Int) : Int := max 0 (min (num n) 4611686018427387903)
theorem may_range (n : Int) : 0 ≤ may n ∧ may n ≤ 4611686018427387903 := by unfold may; omega

/-- How many bytes a row may take. -/
def room : Nat := 140737488355328

/-! ### blocks -/
theorem blk_lt {w : World} {g : Nat} {o : Obj} (h : w.heap[g]? = some o) : g < w.heap.size := (Array.getElem?_eq_some_iff.1 h).1
theorem blk_cell {w : World} {g : Nat} {t : TypeId} {cs : Array Value} {fr : Nat × Nat} (h : w.heap[g]? = some (.cells cs t fr)) (i : Nat) : w.cell? ⟨g, i, none⟩ = cs[i]? := cell_of_row w g i cs t fr h
theorem blk_frozen {w : World} {g : Nat} {t : TypeId} {cs : Array Value} (h : w.heap[g]? = some (.cells cs t (0, 0))) (i : Nat) : w.frozen? ⟨g, i, none⟩ = false := by simp [World.frozen?, h]
theorem blk_set {w : World} {g : Nat} {t : TypeId} {cs : Array Value} (h : w.heap[g]? = some (.cells cs t (0, 0))) (i : Nat) (u : Value) :
    (w.setCell ⟨g, i, none⟩ u).heap[g]? = some (.cells (cs.setIfInBounds i u) t (0, 0)) := by
  simp [World.setCell, Array.getElem?_modify, h, Array.setIfInBounds_def]
theorem blk_far {w : World} {g : Nat} {o : Obj} (h : w.heap[g]? = some o) {p : Addr} (hp : g ≠ p.block) (u : Value) : (w.setCell p u).heap[g]? = some o := (Below.heap_setCell w p u g hp).trans h
theorem blk_alloc {w : World} {g : Nat} {o : Obj} (h : w.heap[g]? = some o) (o' : Obj) : (w.alloc o').heap[g]? = some o := (Below.heap_alloc w o' g (blk_lt h)).trans h
theorem blk_drew {w : World} {g : Nat} {o : Obj} (h : w.heap[g]? = some o) : w.drew.heap[g]? = some o := h

theorem blk_ne {w : World} {g g' : Nat} {t t' : TypeId} {cs cs' : Array Value} {fr fr' : Nat × Nat} (h : w.heap[g]? = some (.cells cs t fr)) (h' : w.heap[g']? = some (.cells cs' t' fr')) (hne : t ≠ t') : g ≠ g' := by
  rintro rfl
  rw [h] at h'
  injection h' with h'
  injection h' with _ ht
  exact hne ht

theorem cell_below {w w1 : World} (h : Below w.heap.size w w1) {a : Addr} {v : Value} (hc : w.cell? a = some v) : w1.cell? a = some v := (h.cell (World.block_lt_of_cell? w a hc)).trans hc
/-- A region that draws its order: n operations that leave the world alone, then the rest, in the text's order. -/
theorem region_tail {P : Program} {id : Nat} {Q : Exit → Act → World → Prop} {a : Act} {w : World} {l : List Oper} (n : Nat) (hm : P.follows .mixedOrders = true) (hB : Region.lexTailB .any l.toArray n = true)
    (h : wpStill P l.toArray w.drew (fun a' => wpList P l.toArray Q (l.drop n) a' w.drew) (l.take n) a) : (Code.region id l.toArray true).wp P Q a w := wp_region_still_tail n hm hB h

/-! ### a kind of data: its cells, and what they say; 'I': the blocks that stay as they are -/
structure Kd (α : Type) where
  sz : Nat
  K : (Nat → Prop) → World → α → List Value → Prop
  len : ∀ {I w x cs}, K I w x cs → cs.length = sz
  one : ∀ {I w x cs}, K I w x cs → ∀ u ∈ cs, u.oneCell' = true
  pos : 0 < sz
  move : ∀ {I I' : Nat → Prop} {w w' : World} {x cs}, K I w x cs → (∀ i, I i → i < w.heap.size → w'.heap[i]? = w.heap[i]? ∧ I' i) → K I' w' x cs

/-- A kind whose cells say all. -/
def Kd.flat {α : Type} (sz : Nat) (cells : α → List Value) (len : ∀ x, (cells x).length = sz) (one : ∀ x, ∀ u ∈ cells x, u.oneCell' = true) (pos : 0 < sz) : Kd α where
  sz := sz
  K := fun _ _ x cs => cs = cells x
  len := fun h => by rw [h]; exact len _
  one := fun h => by rw [h]; exact one _
  pos := pos
  move := fun h _ => h
def kI : Kd Int := Kd.flat 1 (fun x => [.int .i64 x]) (fun _ => rfl) (fun _ u hu => by simp at hu; subst hu; rfl) (by decide)
def kB : Kd Bool := Kd.flat 1 (fun x => [.bool x]) (fun _ => rfl) (fun _ u hu => by simp at hu; subst hu; rfl) (by decide)
def kS : Kd ByteArray := Kd.flat 1 (fun x => [.string x]) (fun _ => rfl) (fun _ u hu => by simp at hu; subst hu; rfl) (by decide)
def kU : Kd UInt8 := Kd.flat 1 (fun x => [.int .u8 (x.toNat : Int)]) (fun _ => rfl) (fun _ u hu => by simp at hu; subst hu; rfl) (by decide)

/-- The elements that lie at an address. -/
def Kd.C {α : Type} (d : Kd α) (I : Nat → Prop) (w : World) (A : Option Addr) (xs : List α) : Prop :=
  xs = [] ∨ ∃ b f, A = some ⟨b, f, none⟩ ∧ I b ∧ b < w.heap.size ∧
    ∀ i x, xs[i]? = some x → ∃ cs, d.K I w x cs ∧ ∀ j u, cs[j]? = some u → w.cell? ⟨b, f + (i * d.sz + j), none⟩ = some u
/-- A slice value that reads as a list. -/
def Kd.S {α : Type} (d : Kd α) (I : Nat → Prop) (w : World) (v : Value) (xs : List α) : Prop :=
  ∃ A c, v = .slice A xs.length c ∧ xs.length ≤ c ∧ c ≤ maxLen ∧ (A = none → c = 0) ∧ d.C I w A xs

section
variable {α : Type} {d : Kd α} {I I' : Nat → Prop} {w w' : World} {A : Option Addr} {v : Value} {xs : List α}
theorem Kd.C_nil : d.C I w A [] := .inl rfl
theorem Kd.S_nil : d.S I w (.slice none 0 0) [] := ⟨none, 0, rfl, Nat.le_refl _, Nat.zero_le _, fun _ => rfl, .inl rfl⟩
theorem Kd.C_move (h : d.C I w A xs) (hm : ∀ i, I i → i < w.heap.size → w'.heap[i]? = w.heap[i]? ∧ I' i) : d.C I' w' A xs := by
  rcases h with rfl | ⟨b, f, rfl, hi, hlt, hc⟩
  · exact .inl rfl
  · obtain ⟨h1, h2⟩ := hm _ hi hlt
    refine .inr ⟨b, f, rfl, h2, ?_, fun i x hx => ?_⟩
    · have : w'.heap[b]? = some w.heap[b] := by rw [h1]; exact Array.getElem?_eq_getElem hlt
      exact blk_lt this
    · obtain ⟨cs, hk, hcs⟩ := hc i x hx
      refine ⟨cs, d.move hk hm, fun j u hu => ?_⟩
      rw [← hcs j u hu]
      exact World.cell?_of_block (by exact h1)
theorem Kd.S_move (h : d.S I w v xs) (hm : ∀ i, I i → i < w.heap.size → w'.heap[i]? = w.heap[i]? ∧ I' i) : d.S I' w' v xs := by
  obtain ⟨A, c, rfl, h1, h2, h0, h3⟩ := h
  exact ⟨A, c, rfl, h1, h2, h0, Kd.C_move h3 hm⟩
theorem Kd.C_below (h : d.C I w A xs) (hb : Below w.heap.size w w') : d.C I w' A xs := Kd.C_move h fun i hi hl => ⟨hb.block i hl, hi⟩
theorem Kd.S_below (h : d.S I w v xs) (hb : Below w.heap.size w w') : d.S I w' v xs := Kd.S_move h fun i hi hl => ⟨hb.block i hl, hi⟩
/-- The element at i, its cells at hand. -/
theorem Kd.C_get (h : d.C I w A xs) (i : Nat) (hi : i < xs.length) : ∃ b f cs, A = some ⟨b, f, none⟩ ∧ I b ∧ b < w.heap.size ∧ d.K I w (xs[i]) cs ∧ ∀ j u, cs[j]? = some u → w.cell? ⟨b, f + (i * d.sz + j), none⟩ = some u := by
  rcases h with rfl | ⟨b, f, rfl, h1, h2, hc⟩
  · simp at hi
  · obtain ⟨cs, hk, hcs⟩ := hc i xs[i] (List.getElem?_eq_getElem hi)
    exact ⟨b, f, cs, rfl, h1, h2, hk, hcs⟩
end

theorem ret_int {k : IntKind} {a b : Int} (h : a = b) : Ending.returned (.int k a) = .returned (.int k b) := by rw [h]
theorem ret_bool {a b : Bool} (h : a = b) : Ending.returned (.bool a) = .returned (.bool b) := by rw [h]
/-- One whole number of a row. -/
theorem int_at {I : Nat → Prop} {w : World} {A : Option Addr} {xs : List Int} (h : kI.C I w A xs) (i : Nat) (hi : i < xs.length) : ∃ b f, A = some ⟨b, f, none⟩ ∧ w.cell? ⟨b, f + i, none⟩ = some (.int .i64 xs[i]) := by
  obtain ⟨b, f, cs, rfl, _, _, hk, hc⟩ := Kd.C_get h i hi
  obtain rfl : cs = [.int .i64 xs[i]] := hk
  exact ⟨b, f, rfl, by simpa [kI, Kd.flat] using hc 0 _ rfl⟩
theorem new_at {W : World} {b : Nat} {o : Obj} (h : b = W.heap.size) : (W.alloc o).heap[b]? = some o := by subst h; exact heap_alloc_new W o
theorem add_plain (g j k : Nat) : (⟨g, j, none⟩ : Addr).add k = ⟨g, j + k, none⟩ := by unfold Addr.add; split <;> simp_all
/-- A row of whole numbers whose block is known. -/
theorem int_row {I : Nat → Prop} {W : World} {b : Nat} {cs : Array Value} {t : TypeId} {fr : Nat × Nat} {xs : List Int} (hb : W.heap[b]? = some (.cells cs t fr)) (hI : I b) (h : cs = (xs.map (Value.int .i64)).toArray) : kI.C I W (some ⟨b, 0, none⟩) xs := by
  subst h
  refine .inr ⟨_, _, rfl, hI, blk_lt hb, fun i x hx => ⟨_, rfl, fun j u hu => ?_⟩⟩
  have hj : j = 0 ∧ u = .int .i64 x := by
    cases j with
    | zero => exact ⟨rfl, by simpa using hu.symm⟩
    | succ j => simp at hu
  obtain ⟨rfl, rfl⟩ := hj
  rw [blk_cell hb]
  simp [kI, Kd.flat, hx]

/-! ### rows that a call owns -/
/-- The cells of a row of elements. -/
def Reps {α : Type} (R : α → List Value → Prop) (size : Nat) (ps : List α) (cs : List Value) : Prop :=
  cs.length = ps.length * size ∧ ∀ j p, ps[j]? = some p → R p ((cs.drop (j * size)).take size)
theorem Reps.nil {α : Type} (R : α → List Value → Prop) (size : Nat) : Reps R size [] [] := ⟨by simp, fun j p h => by simp at h⟩
theorem Reps.imp {α : Type} {R R' : α → List Value → Prop} {size : Nat} {ps : List α} {cs : List Value} (h : Reps R size ps cs) (hR : ∀ p c, R p c → R' p c) : Reps R' size ps cs := ⟨h.1, fun j p hj => hR _ _ (h.2 j p hj)⟩
theorem Reps.append {α : Type} {R : α → List Value → Prop} {size : Nat} {ps qs : List α} {cs ds : List Value} (h : Reps R size ps cs) (k : Reps R size qs ds) : Reps R size (ps ++ qs) (cs ++ ds) := by
  refine ⟨by rw [List.length_append, List.length_append, h.1, k.1, Nat.add_mul], fun j p hj => ?_⟩
  by_cases hlt : j < ps.length
  · rw [List.getElem?_append_left hlt] at hj
    have := h.2 j p hj
    have hle : (j + 1) * size ≤ cs.length := by rw [h.1]; exact Nat.mul_le_mul_right _ hlt
    rw [Nat.succ_mul] at hle
    rw [List.drop_append_of_le_length (by omega), List.take_append_of_le_length (by rw [List.length_drop]; omega)]
    exact this
  · rw [List.getElem?_append_right (by omega)] at hj
    have := k.2 (j - ps.length) p hj
    have he : j * size - cs.length = (j - ps.length) * size := by rw [h.1, Nat.sub_mul]
    have hge : cs.length ≤ j * size := by rw [h.1]; exact Nat.mul_le_mul_right _ (by omega)
    rw [List.drop_append, List.drop_eq_nil_of_le hge, List.nil_append, he]
    exact this
theorem Reps.one {α : Type} {R : α → List Value → Prop} {size : Nat} {p : α} {cs : List Value} (h : R p cs) (hl : cs.length = size) : Reps R size [p] cs := by
  refine ⟨by simp [hl], fun j q hj => ?_⟩
  cases j with
  | zero =>
    simp at hj
    subst hj
    rw [Nat.zero_mul, List.drop_zero, ← hl, List.take_length]
    exact h
  | succ j => simp at hj
section
variable {α : Type} {d : Kd α} {I I' : Nat → Prop} {w w' : World} {A : Option Addr} {v : Value} {xs : List α}
theorem Kd.C_tail {b f : Nat} {x : α} (h : d.C I w (some ⟨b, f, none⟩) (x :: xs)) : d.C I w (some ⟨b, f + d.sz, none⟩) xs := by
  rcases h with h | ⟨b', f', he, h1, h2, hc⟩
  · cases h
  · injection he with he
    injection he with e1 e2 _
    subst e1 e2
    refine .inr ⟨_, _, rfl, h1, h2, fun i y hy => ?_⟩
    obtain ⟨cs, hk, hcs⟩ := hc (i + 1) y (by simpa using hy)
    refine ⟨cs, hk, fun j u hu => ?_⟩
    have := hcs j u hu
    rw [Nat.succ_mul] at this
    rw [show f + d.sz + (i * d.sz + j) = f + (i * d.sz + d.sz + j) by omega]
    exact this
theorem Kd.C_cells0 {b f : Nat} (h : d.C I w (some ⟨b, f, none⟩) xs) : ∃ cells, Reps (d.K I w) d.sz xs cells ∧ (∀ j u, cells[j]? = some u → w.cell? ⟨b, f + j, none⟩ = some u) ∧ ∀ u ∈ cells, u.oneCell' = true := by
  induction xs generalizing f with
  | nil => exact ⟨[], Reps.nil _ _, fun j u hu => by simp at hu, fun u hu => by cases hu⟩
  | cons x xs ih =>
    obtain ⟨cells, h1, h2, h3⟩ := ih (Kd.C_tail h)
    rcases h with h | ⟨b', f', he, _, _, hc⟩
    · cases h
    · injection he with he
      injection he with e1 e2 _
      subst e1 e2
      obtain ⟨cs, hk, hcs⟩ := hc 0 x rfl
      have hl := d.len hk
      refine ⟨cs ++ cells, by simpa using (Reps.one hk hl).append h1, fun j u hu => ?_, fun u hu => ?_⟩
      · by_cases hj : j < cs.length
        · rw [List.getElem?_append_left hj] at hu
          simpa using hcs j u hu
        · rw [List.getElem?_append_right (by omega)] at hu
          have := h2 _ u hu
          rwa [show f + d.sz + (j - cs.length) = f + j by omega] at this
      · rcases List.mem_append.1 hu with hu | hu
        · exact d.one hk u hu
        · exact h3 u hu
theorem Kd.C_cells {ad : Addr} (h : d.C I w (some ad) xs) : ∃ cells, Reps (d.K I w) d.sz xs cells ∧ (∀ j u, cells[j]? = some u → w.cell? (ad.add j) = some u) ∧ ∀ u ∈ cells, u.oneCell' = true := by
  rcases h with rfl | ⟨b, f, he, r⟩
  · exact ⟨[], Reps.nil _ _, fun j u hu => by simp at hu, fun u hu => by cases hu⟩
  · injection he with he
    subst he
    obtain ⟨cells, h1, h2, h3⟩ := Kd.C_cells0 (.inr ⟨b, f, rfl, r⟩)
    exact ⟨cells, h1, fun j u hu => by rw [add_plain]; exact h2 j u hu, h3⟩
/-- A row of the call's own: where it lies it is not among the blocks that stay. -/
def Kd.Own (d : Kd α) (e : TypeId) (I : Nat → Prop) (w : World) (base : Nat) (v : Value) (xs : List α) : Prop :=
  ∃ cells, w.ownsRow base e d.sz v xs.length cells ∧ Reps (d.K (fun i => I i ∧ some i ≠ v.ownBlock) w) d.sz xs cells
variable {e : TypeId} {base : Nat}
theorem Kd.Own_nil : d.Own e I w base (.slice none 0 0) [] := ⟨[], World.ownsRow_nil _ _ _ _, Reps.nil _ _⟩
theorem Kd.Own_lt (h : d.Own e I w base v xs) : ∀ k, v.ownBlock = some k → base ≤ k ∧ k < w.heap.size := by
  obtain ⟨cells, h1, _⟩ := h
  exact h1.lt
/-- What is written is another row. -/
theorem Kd.Own_move (h : d.Own e I w base v xs) (hv : ∀ k, v.ownBlock = some k → w'.heap[k]? = w.heap[k]?) (hm : ∀ i, I i → some i ≠ v.ownBlock → i < w.heap.size → w'.heap[i]? = w.heap[i]? ∧ I' i) : d.Own e I' w' base v xs := by
  obtain ⟨cells, h1, h2⟩ := h
  refine ⟨cells, ⟨h1.1, ?_⟩, h2.imp fun p c hp => d.move hp fun i hi hl => ?_⟩
  · rcases h1.2 with hn | ⟨g, cap, cur, rfl, hb, hg, r⟩
    · exact .inl hn
    · exact .inr ⟨g, cap, cur, rfl, hb, by rw [hv g rfl]; exact hg, r⟩
  · obtain ⟨h3, h4⟩ := hm i hi.1 hi.2 hl
    exact ⟨h3, h4, hi.2⟩
theorem Kd.Own_below (h : d.Own e I w base v xs) (hb : Below w.heap.size w w') : d.Own e I w' base v xs :=
  Kd.Own_move h (fun k hk => hb.block k (Kd.Own_lt h k hk).2) fun i hi _ hl => ⟨hb.block i hl, hi⟩
theorem Kd.Own_alloc (h : d.Own e I w base v xs) (o : Obj) : d.Own e I (w.alloc o) base v xs := Kd.Own_below h ((Below.refl _ _).alloc (Nat.le_refl _) o)
/-- Handed on: it reads as the list, and nobody writes it any more. -/
theorem Kd.Own_S (h : d.Own e I w base v xs) (hI : ∀ i, base ≤ i → i < w.heap.size → I i) : d.S I w v xs := by
  obtain ⟨cells, h1, h2⟩ := h
  have hlt := h1.lt
  rcases h1.2 with ⟨rfl, hn⟩ | ⟨g, cap, cur, rfl, hb, hg, hc, hm, _, ht⟩
  · obtain rfl : xs = [] := List.eq_nil_of_length_eq_zero hn
    exact Kd.S_nil
  · obtain ⟨h3, h4⟩ := hlt g rfl
    refine ⟨_, cap, rfl, hc, hm, (by intro h; cases h), .inr ⟨_, _, rfl, hI g h3 h4, h4, fun i x hx => ?_⟩⟩
    have hk := h2.2 i x hx
    refine ⟨_, d.move hk fun k hk hl => ⟨rfl, hk.1⟩, fun j u hu => ?_⟩
    rw [List.getElem?_take] at hu
    split at hu
    · rw [List.getElem?_drop] at hu
      have := h1.cells rfl _ u hu
      rwa [add_plain] at this
    · cases hu
theorem Kd.Own_len (h : d.Own e I w base v xs) : ∃ A c, v = .slice A xs.length c ∧ xs.length ≤ c ∧ c ≤ maxLen ∧ (A = none → c = 0) := by
  obtain ⟨cells, h1, h2⟩ := h
  rcases h1.2 with ⟨rfl, hn⟩ | ⟨g, cap, cur, rfl, hb, hg, hc, hm, _, ht⟩
  · exact ⟨none, 0, by rw [hn], by omega, Nat.zero_le _, fun _ => rfl⟩
  · exact ⟨_, cap, rfl, hc, hm, by intro h; cases h⟩
end

/-- append(s, x...) onto a row of the call's own. -/
theorem wpList_app {P : Program} {w : World} {ops : Array Oper} {rest : List Oper} {o : Oper} {a : Act} {Q : Exit → Act → World → Prop} {α : Type} (hgd : o.guard = none) (s x : Operand) (t : TypeId)
    (ho : o.op = .call { callee := .builtin .append, args := #[s, x], argTypes := #[t, t] })
    (d : Kd α) (I : Nat → Prop) (base : Nat) (e : TypeId) (z : Value) (bytes : Nat) (ht : P.underlying t = some (.slice e)) (hi : (P.info? e).map (fun i => (i.zero, i.size, i.bytes)) = some (some z, d.sz, bytes)) (hz : z.cells.size = d.sz) (hb0 : 0 < bytes)
    (v : Value) (xs : List α) (hs : a.eval s = v) (hown : d.Own e I w base v xs)
    (A : Option Addr) (c : Nat) (ys : List α) (hx : a.eval x = .slice A ys.length c) (hA : A = none → c = 0) (hy : d.C (fun i => I i ∧ some i ≠ v.ownBlock) w A ys)
    (hbytes : (xs.length + ys.length) * bytes ≤ room) (hbase : base ≤ w.heap.size)
    (h : ∀ v' w', d.Own e I w' base v' (xs ++ ys) → w.grownBy w' v.ownBlock → (v'.ownBlock = v.ownBlock ∨ v'.ownBlock = some w.heap.size) → wpList P ops Q rest (a.put o.dst v') w') :
    wpList P ops Q (o :: rest) a w := by
  obtain ⟨i0, hi0, hzz⟩ := Option.map_eq_some_iff.1 hi
  simp only [Prod.mk.injEq] at hzz
  obtain ⟨hz0, hz1, hz2⟩ := hzz
  unfold room at hbytes
  have hlen : xs.length + ys.length ≤ 140737488355328 := Nat.le_trans (Nat.le_mul_of_pos_right _ hb0) hbytes
  have hlt := Kd.Own_lt hown
  obtain ⟨cells, h1, h2⟩ := hown
  cases A with
  | none =>
    obtain rfl : c = 0 := hA rfl
    obtain rfl : ys = [] := by
      rcases hy with h | ⟨_, _, he, _⟩
      · exact h
      · cases he
    refine wpList_append_own_none hgd s x t ho base e i0 d.sz ht hi0 v xs.length cells hs h1 hx ?_
    refine h v w ⟨cells, by simpa using h1, by simpa using h2⟩ ⟨rfl, rfl, rfl, Nat.le_refl _, fun _ _ _ => rfl⟩ (.inl rfl)
  | some ad =>
    obtain ⟨news, k1, k2, k3⟩ := Kd.C_cells hy
    refine wpList_append_own_at _ hgd s x t ho base e i0 z d.sz bytes ht hi0 hz0 hz1 hz2 hz d.pos v xs.length cells hs h1 ad ys.length c news hx k1.1 k2 k3 (by simp only [maxLen]; omega) hbytes hbase ?_
    intro v' w' hown' hg _ hat
    refine h v' w' ⟨cells ++ news, by simpa using hown', ?_⟩ hg hat
    have hne : ∀ i, some i ≠ v.ownBlock → i < w.heap.size → some i ≠ v'.ownBlock := fun i h1 h2 => by
      rcases hat with hat | hat
      · rw [hat]; exact h1
      · rw [hat]; intro he; injection he with he; omega
    exact (h2.append k1).imp fun p cs hp => d.move hp fun i hi hl => ⟨hg.block i hl hi.2, hi.1, hne i hi.2 hl⟩

theorem flat_get {α : Type} (cells : α → List Value) (sz : Nat) (len : ∀ x, (cells x).length = sz) (xs : List α) (k : Nat) (hk : k < xs.length) (j : Nat) (hj : j < sz) :
    (xs.flatMap cells)[k * sz + j]? = (cells xs[k])[j]? := by
  induction xs generalizing k with
  | nil => simp at hk
  | cons x xs ih =>
    rw [List.flatMap_cons]
    cases k with
    | zero => rw [List.getElem?_append_left (by rw [len]; omega)]; simp
    | succ k =>
      rw [List.getElem?_append_right (by rw [len, Nat.succ_mul]; omega), len, show (k + 1) * sz + j - sz = k * sz + j by rw [Nat.succ_mul]; omega, ih k (by simpa using hk)]
      simp
theorem flat_set {α : Type} (cells : α → List Value) (sz : Nat) (len : ∀ x, (cells x).length = sz) (xs : List α) (k : Nat) (hk : k < xs.length) (j : Nat) (u : Value) (x' : α) (hj : j < sz) (h : (cells xs[k]).set j u = cells x') :
    (xs.flatMap cells).set (k * sz + j) u = (xs.set k x').flatMap cells := by
  induction xs generalizing k with
  | nil => simp at hk
  | cons x xs ih =>
    rw [List.flatMap_cons]
    cases k with
    | zero =>
      rw [List.set_append_left _ _ (by rw [len]; omega)]
      simp at h ⊢
      exact h
    | succ k =>
      rw [List.set_append_right _ _ (by rw [len, Nat.succ_mul]; omega), len, show (k + 1) * sz + j - sz = k * sz + j by rw [Nat.succ_mul]; omega, ih k (by simpa using hk) (by simpa using h)]
      simp
theorem flat_len {α : Type} (cells : α → List Value) (sz : Nat) (len : ∀ x, (cells x).length = sz) (xs : List α) : (xs.flatMap cells).length = xs.length * sz := by
  induction xs with
  | nil => simp
  | cons x xs ih => rw [List.flatMap_cons, List.length_append, len, ih, List.length_cons, Nat.succ_mul]; omega

/-- A row in a block from 'base' on, that nobody else holds: its cells. -/
def Fresh (base : Nat) (w : World) (e : TypeId) (A : Option Addr) (l : List Value) : Prop :=
  l = [] ∨ ∃ g cur, A = some ⟨g, 0, none⟩ ∧ base ≤ g ∧ w.heap[g]? = some (.cells cur e (0, 0)) ∧ cur.toList.take l.length = l
theorem Fresh.below {base : Nat} {w w' : World} {e : TypeId} {A : Option Addr} {l : List Value} (h : Fresh base w e A l) (hb : Below w.heap.size w w') : Fresh base w' e A l := by
  rcases h with h | ⟨g, cur, h1, h2, h3, h4⟩
  · exact .inl h
  · exact .inr ⟨g, cur, h1, h2, (hb.block g (blk_lt h3)).trans h3, h4⟩
theorem reps_flat {α : Type} (cells : α → List Value) (sz : Nat) (xs : List α) (cs : List Value) (h : Reps (fun x c => c = cells x) sz xs cs) (len : ∀ x, (cells x).length = sz) : cs = xs.flatMap cells := by
  apply List.ext_getElem?
  intro i
  by_cases hs : sz = 0
  · subst hs
    have h1 : cs = [] := List.eq_nil_of_length_eq_zero (by simpa using h.1)
    have h2 : xs.flatMap cells = [] := by
      apply List.eq_nil_of_length_eq_zero
      rw [flat_len cells 0 len, Nat.mul_zero]
    rw [h1, h2]
  · have hi : i = (i / sz) * sz + i % sz := by have := Nat.div_add_mod i sz; rw [Nat.mul_comm] at this; omega
    have hm : i % sz < sz := Nat.mod_lt _ (by omega)
    by_cases hk : i / sz < xs.length
    · have h2 := h.2 (i / sz) xs[i / sz] (List.getElem?_eq_getElem hk)
      conv => rhs; rw [hi]
      rw [flat_get cells sz len xs _ hk _ hm]
      rw [← h2, List.getElem?_take, if_pos hm, List.getElem?_drop, ← hi]
    · have hge : xs.length * sz ≤ i := by
        have : xs.length ≤ i / sz := by omega
        calc xs.length * sz ≤ (i / sz) * sz := Nat.mul_le_mul_right _ this
          _ ≤ i := Nat.div_mul_le_self _ _
      have hl := flat_len cells sz len xs
      rw [List.getElem?_eq_none (by rw [h.1]; exact hge), List.getElem?_eq_none (by rw [hl]; exact hge)]

theorem Own_fresh {α : Type} {sz : Nat} {cells : α → List Value} {len : ∀ x, (cells x).length = sz} {one pos} {e : TypeId} {I : Nat → Prop} {w : World} {base : Nat} {v : Value} {xs : List α} (h : (Kd.flat sz cells len one pos).Own e I w base v xs) :
    ∃ A c, v = .slice A xs.length c ∧ xs.length ≤ c ∧ c ≤ maxLen ∧ (A = none → c = 0) ∧ Fresh base w e A (xs.flatMap cells) := by
  obtain ⟨A, c, hv, h1, h2, h3⟩ := Kd.Own_len h
  obtain ⟨cs, ho, hr⟩ := h
  have hcs := reps_flat cells sz xs cs hr len
  subst hcs
  refine ⟨A, c, hv, h1, h2, h3, ?_⟩
  rcases ho.2 with ⟨_, hn⟩ | ⟨g, cap, cur, hv', hb, hg, _, _, _, ht⟩
  · obtain rfl : xs = [] := List.eq_nil_of_length_eq_zero hn
    exact .inl rfl
  · rw [hv] at hv'
    injection hv' with hA _ _
    exact .inr ⟨g, cur, hA, hb, hg, by rw [ho.1]; exact ht⟩
theorem Fresh.C {α : Type} {sz : Nat} {cells : α → List Value} {len : ∀ x, (cells x).length = sz} {one pos} {e : TypeId} {I : Nat → Prop} {w : World} {base : Nat} {A : Option Addr} {xs : List α} (h : Fresh base w e A (xs.flatMap cells)) (hI : ∀ i, base ≤ i → i < w.heap.size → I i) :
    (Kd.flat sz cells len one pos).C I w A xs := by
  rcases h with h | ⟨g, cur, rfl, hb, hg, ht⟩
  · have : xs.length * sz = 0 := by rw [← flat_len cells sz len xs, h]; rfl
    rcases Nat.mul_eq_zero.1 this with h0 | h0
    · exact .inl (List.eq_nil_of_length_eq_zero h0)
    · omega
  · refine .inr ⟨g, 0, rfl, hI g hb (blk_lt hg), blk_lt hg, fun i x hx => ⟨_, rfl, fun j u hu => ?_⟩⟩
    obtain ⟨hi, rfl⟩ := List.getElem?_eq_some_iff.1 hx
    have hj : j < sz := by have := (List.getElem?_eq_some_iff.1 hu).1; rw [len] at this; exact this
    have hg2 := flat_get cells sz len xs i hi j hj
    rw [hu, ← ht, List.getElem?_take] at hg2
    split at hg2
    · rw [blk_cell hg, Nat.zero_add]
      simpa [Kd.flat] using hg2
    · cases hg2

theorem Kd.Own_new {α : Type} {d : Kd α} {e : TypeId} {I : Nat → Prop} {w : World} {base : Nat} {v : Value} {xs : List α} (h : d.Own e I w base v xs) : some w.heap.size ≠ v.ownBlock := by
  intro he
  have := (Kd.Own_lt h _ he.symm).2
  omega
/-- append(s, y) of one element whose cells say all, onto a row of the call's own. -/
theorem wpList_app1 {P : Program} {w0 W : World} {ops : Array Oper} {rest : List Oper} {o : Oper} {a : Act} {Q : Exit → Act → World → Prop} {α : Type} (hgd : o.guard = none) (s x : Operand) (t : TypeId)
    (ho : o.op = .call { callee := .builtin .append, args := #[s, x], argTypes := #[t, t] })
    {sz : Nat} {cells : α → List Value} {len : ∀ x, (cells x).length = sz} {one pos} (d : Kd α) (hd : d = Kd.flat sz cells len one pos) (I : Nat → Prop) (base : Nat) (e : TypeId) (z : Value) (bytes : Nat) (ht : P.underlying t = some (.slice e)) (hi : (P.info? e).map (fun i => (i.zero, i.size, i.bytes)) = some (some z, sz, bytes)) (hz : z.cells.size = sz) (hb0 : 0 < bytes)
    (v : Value) (xs : List α) (hs : a.eval s = v) (hown : d.Own e I W base v xs) (hI : I W.heap.size)
    (y : α) (cs : Array Value) (hcs : cs = (cells y).toArray) (nb : Nat) (hx : a.eval x = .slice (some ⟨nb, 0, none⟩) 1 1) (hnb : nb = W.heap.size) (hbytes : (xs.length + 1) * bytes ≤ room) (hbase : base ≤ W.heap.size) (HB : Below base w0 W)
    (h : ∀ v' w', d.Own e I w' base v' (xs ++ [y]) → Below base w0 w' → W.grownBy w' v.ownBlock → wpList P ops Q rest (a.put o.dst v') w') :
    wpList P ops Q (o :: rest) a (W.alloc (.cells cs e)) := by
  subst hd hcs hnb
  have hn := Kd.Own_new hown
  have hlt := Kd.Own_lt hown
  refine wpList_app hgd s x t ho _ I base e z bytes ht hi hz hb0 v xs hs (Kd.Own_alloc hown _) _ 1 [y] hx (by intro h; cases h) ?_ hbytes (by simp; omega) ?_
  · refine Fresh.C (base := W.heap.size) (.inr ⟨W.heap.size, _, rfl, Nat.le_refl _, new_at rfl, by simp⟩) fun i h1 h2 => ?_
    have : i = W.heap.size := by simp at h2; omega
    subst this
    exact ⟨hI, hn⟩
  · intro v' w' h1 hg _
    refine h v' w' h1 ((HB.alloc hbase _).grown hg (by simp; omega) fun k hk => (hlt k hk).1) (World.grownBy.trans (World.grownBy_alloc W _ _) hg)

/-! ### what a call turns: blocks S, and new ones -/
structure Chg (S : List Nat) (w w' : World) : Prop where
  os : w'.os = w.os
  tape : w'.tape = w.tape
  output : w'.output = w.output
  size : w.heap.size ≤ w'.heap.size
  block : ∀ k, k < w.heap.size → k ∉ S → w'.heap[k]? = w.heap[k]?
section
variable {S S' : List Nat} {w w1 w2 : World}
theorem Chg.refl (S : List Nat) (w : World) : Chg S w w := ⟨rfl, rfl, rfl, Nat.le_refl _, fun _ _ _ => rfl⟩
theorem Chg.trans (h : Chg S w w1) (k : Chg S w1 w2) : Chg S w w2 :=
  ⟨k.os.trans h.os, k.tape.trans h.tape, k.output.trans h.output, Nat.le_trans h.size k.size, fun i hi hs => (k.block i (Nat.lt_of_lt_of_le hi h.size) hs).trans (h.block i hi hs)⟩
theorem Chg.mono (h : Chg S w w1) (hs : ∀ i, i ∈ S → i ∈ S') : Chg S' w w1 := ⟨h.os, h.tape, h.output, h.size, fun i hi hn => h.block i hi fun he => hn (hs i he)⟩
theorem Chg.of_below (h : Below w.heap.size w w1) : Chg S w w1 := ⟨h.os, h.tape, h.output, h.size, fun i hi _ => h.block i hi⟩
theorem Chg.below (h : Chg [] w w1) : Below w.heap.size w w1 := ⟨h.os, h.tape, h.output, h.size, fun i hi => h.block i hi (by simp)⟩
/-- Behind a call that turns more: of it what is new counts for nothing. -/
theorem Chg.then (h : Chg S w w1) (k : Chg S' w1 w2) (hs : ∀ i, i ∈ S' → i ∈ S ∨ w.heap.size ≤ i) : Chg S w w2 :=
  ⟨k.os.trans h.os, k.tape.trans h.tape, k.output.trans h.output, Nat.le_trans h.size k.size, fun i hi hn =>
    (k.block i (Nat.lt_of_lt_of_le hi h.size) fun he => by rcases hs i he with h1 | h1; exact hn h1; omega).trans (h.block i hi hn)⟩
theorem Chg.thenB (h : Chg S w w1) (k : Below w1.heap.size w1 w2) : Chg S w w2 := h.then (S' := []) (Chg.of_below k) (fun _ h => by cases h)
theorem Chg.alloc (h : Chg S w w1) (o : Obj) : Chg S w (w1.alloc o) := h.thenB ((Below.refl _ _).alloc (Nat.le_refl _) o)
theorem Chg.drew (h : Chg S w w1) : Chg S w w1.drew := ⟨h.os, h.tape, h.output, h.size, h.block⟩
theorem Chg.drewN (h : Chg S w w1) (n : Nat) : Chg S w (w1.drewN n) := ⟨h.os, h.tape, h.output, h.size, h.block⟩
theorem Chg.setCell (h : Chg S w w1) {p : Addr} (hp : p.block ∈ S ∨ w.heap.size ≤ p.block) (u : Value) : Chg S w (w1.setCell p u) :=
  ⟨h.os, h.tape, h.output, by simpa [World.setCell] using h.size, fun k hk hs => (Below.heap_setCell _ _ _ _ (by rintro rfl; rcases hp with hp | hp; exact hs hp; omega)).trans (h.block k hk hs)⟩
theorem Chg.blk {g : Nat} {o : Obj} (h : Chg S w w1) (hb : w.heap[g]? = some o) (hg : g ∉ S) : w1.heap[g]? = some o := (h.block g (blk_lt hb) hg).trans hb
end
/-! ### the program's data -/
structure Entry where
  inc : Int
  status : Int
  stamp : Int
  load : Int
  drain : Bool
deriving DecidableEq
def Entry.zero : Entry := ⟨0, 0, 0, 0, false⟩
def Entry.val (x : Entry) : Value := .agg #[.int .i64 x.inc, .int .i64 x.status, .int .i64 x.stamp, .int .i64 x.load, .bool x.drain]
def Entry.cells (x : Entry) : List Value := [.int .i64 x.inc, .int .i64 x.status, .int .i64 x.stamp, .int .i64 x.load, .bool x.drain]
theorem Entry.cells_len (x : Entry) : (Entry.cells x).length = 5 := rfl
def kE : Kd Entry := Kd.flat 5 Entry.cells (fun _ => rfl) (fun _ u hu => by simp [Entry.cells] at hu; rcases hu with rfl | rfl | rfl | rfl | rfl <;> rfl) (by decide)
/-- One entry of a row. -/
theorem ent_at {I : Nat → Prop} {w : World} {A : Option Addr} {xs : List Entry} (h : kE.C I w A xs) (i : Nat) (hi : i < xs.length) : ∃ b f, A = some ⟨b, f, none⟩ ∧ I b ∧ b < w.heap.size ∧ w.cell? ⟨b, f + i * 5, none⟩ = some (.int .i64 xs[i].inc) ∧ w.cell? ⟨b, f + i * 5 + 1, none⟩ = some (.int .i64 xs[i].status) ∧
    w.cell? ⟨b, f + i * 5 + 2, none⟩ = some (.int .i64 xs[i].stamp) ∧ w.cell? ⟨b, f + i * 5 + 3, none⟩ = some (.int .i64 xs[i].load) ∧ w.cell? ⟨b, f + i * 5 + 4, none⟩ = some (.bool xs[i].drain) := by
  obtain ⟨b, f, cs, rfl, hI, hl, hk, hc⟩ := Kd.C_get h i hi
  obtain rfl : cs = Entry.cells xs[i] := hk
  have g := fun j u h => by have := hc j u h; rw [← Nat.add_assoc] at this; exact this
  exact ⟨b, f, rfl, hI, hl, g 0 _ rfl, g 1 _ rfl, g 2 _ rfl, g 3 _ rfl, g 4 _ rfl⟩
end Go.Osm
