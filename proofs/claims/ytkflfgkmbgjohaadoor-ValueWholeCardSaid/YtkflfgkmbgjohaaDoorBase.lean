/-
  WHAT IS PROVED HERE: small facts on memory: a world that has grown ('Ext'), a row of cells, a slice that reads as a list. No program is in sight.
-/
import Derived.WalkKit
import Derived.Deep.Quiet
set_option linter.unusedVariables false
set_option linter.unusedSimpArgs false
namespace Go.Proofs.YtkflfgkmbgjohaaDoor
open Go.RowKit

theorem hid {p : Prop} (h : p) : Hid p := h

/-- Nothing that was there has turned. -/
abbrev Ext (w w' : World) : Prop := Below w.heap.size w w'

theorem Ext.refl (w : World) : Ext w w := Below.refl _ w
theorem Ext.trans {a b c : World} (h : Ext a b) (k : Ext b c) : Ext a c := Below.trans h (k.mono h.size)
theorem Ext.alloc (w : World) (o : Obj) : Ext w (w.alloc o) := (Below.refl _ _).alloc (Nat.le_refl _) _
theorem Ext.drew (w : World) : Ext w w.drew := (Below.refl _ _).drew
theorem Ext.drewN (w : World) (n : Nat) : Ext w (w.drewN n) := ⟨rfl, rfl, rfl, Nat.le_refl _, fun _ _ => rfl⟩
theorem Ext.allocR {w w' : World} (h : Ext w w') (o : Obj) : Ext w (w'.alloc o) := Ext.trans h (Ext.alloc _ _)
theorem Ext.drewR {w w' : World} (h : Ext w w') : Ext w w'.drew := Ext.trans h (Ext.drew _)

theorem Ext.drewNR {w w' : World} (h : Ext w w') (n : Nat) : Ext w (w'.drewN n) := Ext.trans h (Ext.drewN _ _)

theorem lt_of_cell {w : World} {p : Addr} {v : Value} (h : w.cell? p = some v) : p.block < w.heap.size := by
  unfold World.cell? at h
  by_cases hlt : p.block < w.heap.size
  · exact hlt
  · rw [Array.getElem?_eq_none (by omega)] at h; simp at h

theorem Ext.cell {w w' : World} (h : Ext w w') {p : Addr} {v : Value} (hc : w.cell? p = some v) : w'.cell? p = some v := by
  rw [Below.cell h (lt_of_cell hc)]; exact hc

/-- The cells from offset o on, in block b, hold the list. -/
def CellsAt (w : World) (b o : Nat) (l : List Value) : Prop := ∀ j (h : j < l.length), w.cell? ⟨b, o + j, none⟩ = some l[j]

theorem CellsAt.ext {w w' : World} {b o : Nat} {l : List Value} (h : CellsAt w b o l) (hx : Ext w w') : CellsAt w' b o l :=
  fun j hj => hx.cell (h j hj)

/-- A slice value that reads as a list of elements of n cells each; R says when cells are an element. -/
structure SliceOf {α : Type} (n : Nat) (R : World → α → List Value → Prop) (w : World) (v : Value) (xs : List α) : Prop where
  out : ∃ a cap, v = .slice a xs.length cap ∧ xs.length ≤ cap ∧ cap ≤ maxLen ∧ (a = none → cap = 0) ∧ (∀ i (_ : i < xs.length), ∃ b off, a = some ⟨b, off, none⟩ ∧ ∃ l, l.length = n ∧ R w xs[i] l ∧ CellsAt w b (off + i * n) l)

/-- What keeps over a growth of the world. -/
def Keeps {α : Type} (R : World → α → List Value → Prop) : Prop := ∀ w w' x l, Ext w w' → R w x l → R w' x l

theorem SliceOf.ext {α : Type} {n : Nat} {R : World → α → List Value → Prop} {w w' : World} {v : Value} {xs : List α} (h : SliceOf n R w v xs) (hR : Keeps R) (hx : Ext w w') : SliceOf n R w' v xs := by
  obtain ⟨a, cap, h1, h2, h3, h4, h5⟩ := h.out
  exact ⟨a, cap, h1, h2, h3, h4, fun i hi => by
    obtain ⟨b, off, h6, l, h7, h8, h9⟩ := h5 i hi
    exact ⟨b, off, h6, l, h7, hR _ _ _ _ hx h8, h9.ext hx⟩⟩

/-- The two kinds of slices. -/
theorem SliceOf.cases {α : Type} {n : Nat} {R : World → α → List Value → Prop} {w : World} {v : Value} {xs : List α} (h : SliceOf n R w v xs) :
    (xs = [] ∧ ∃ a cap, v = .slice a 0 cap ∧ cap ≤ maxLen ∧ (a = none → cap = 0)) ∨
    (0 < xs.length ∧ ∃ b off cap, v = .slice (some ⟨b, off, none⟩) xs.length cap ∧ xs.length ≤ cap ∧ cap ≤ maxLen ∧ ∀ i (_ : i < xs.length), ∃ l, l.length = n ∧ R w xs[i] l ∧ CellsAt w b (off + i * n) l) := by
  obtain ⟨a, cap, h1, h2, h3, h4, h5⟩ := h.out
  by_cases h0 : xs.length = 0
  · have : xs = [] := List.length_eq_zero_iff.1 h0
    subst this
    exact Or.inl ⟨rfl, a, cap, h1, h3, h4⟩
  · obtain ⟨b, off, h6, l, h7, h8, h9⟩ := h5 0 (by omega)
    subst h6
    refine Or.inr ⟨by omega, b, off, cap, h1, h2, h3, fun i hi => ?_⟩
    obtain ⟨b', off', h6', l', h'⟩ := h5 i hi
    simp only [Option.some.injEq, Addr.mk.injEq, and_true] at h6'
    obtain ⟨rfl, rfl⟩ := h6'
    exact ⟨l', h'⟩

theorem SliceOf.of {α : Type} {n : Nat} {R : World → α → List Value → Prop} {w : World} {b off cap : Nat} {xs : List α} (h2 : xs.length ≤ cap) (h3 : cap ≤ maxLen) (h : ∀ i (_ : i < xs.length), ∃ l, l.length = n ∧ R w xs[i] l ∧ CellsAt w b (off + i * n) l) :
    SliceOf n R w (.slice (some ⟨b, off, none⟩) xs.length cap) xs :=
  ⟨_, cap, rfl, h2, h3, (by simp), fun i hi => ⟨b, off, rfl, h i hi⟩⟩

theorem SliceOf.nil {α : Type} {n : Nat} {R : World → α → List Value → Prop} {w : World} : SliceOf n R w (.slice none 0 0) ([] : List α) :=
  ⟨none, 0, rfl, by simp, by simp, by simp, fun i hi => by simp at hi⟩

/-- A beginning of a slice (the capacity stays). -/
theorem SliceOf.take {α : Type} {n : Nat} {R : World → α → List Value → Prop} {w : World} {b off len cap : Nat} {xs : List α} (h : SliceOf n R w (.slice (some ⟨b, off, none⟩) len cap) xs) (k : Nat) (hk : k ≤ xs.length) :
    SliceOf n R w (.slice (some ⟨b, off, none⟩) k cap) (xs.take k) := by
  have hl : (xs.take k).length = k := by simp; omega
  rcases h.cases with ⟨rfl, a, cap', h1, h2, h3⟩ | ⟨h0, b', off', cap', h1, h2, h3, h4⟩
  · simp only [Value.slice.injEq] at h1
    obtain ⟨rfl, rfl, rfl⟩ := h1
    simp at hk
    subst hk
    exact ⟨_, cap, rfl, by simp, h2, by simp, fun i hi => by simp at hi⟩
  · simp only [Value.slice.injEq, Option.some.injEq, Addr.mk.injEq, and_true] at h1
    obtain ⟨⟨rfl, rfl⟩, rfl, rfl⟩ := h1
    refine ⟨_, cap, by rw [hl], by omega, h3, by simp, fun i hi => ⟨b, off, rfl, ?_⟩⟩
    obtain ⟨l, h5, h6, h7⟩ := h4 i (by omega)
    exact ⟨l, h5, by simpa using h6, h7⟩

/-- The cells of a block that has just been made. -/
theorem new_cells (W : World) (c : Array Value) (t : TypeId) (n : Nat) (hn : n = W.heap.size) : ∀ (j : Nat) u, c.toList[j]? = some u → (W.alloc (.cells c t)).cell? ((⟨n, 0, none⟩ : Addr).add j) = some u := by
  intro j u h
  subst hn
  have e : ((⟨W.heap.size, 0, none⟩ : Addr).add j) = ⟨W.heap.size, j, none⟩ := by
    unfold Addr.add
    by_cases hj : j = 0
    · simp [hj]
    · simp [hj]
  rw [e, World.cell?_alloc_new]
  simpa using h

/-- A call of function f is entered. -/
def Enters (P : Program) (f : FuncId) : Prop := ∀ (args : Array Value) (w : World), (callFunc f args).run P w = .ok (.enter f args) w

theorem enters_of {P : Program} {f : FuncId} {fn : Func} (hf : P.funcs[f]? = some fn) (hname : (fn.name == "runtime.NumGoroutine") = false) (hb : fn.body.isNone = false) : Enters P f := by
  intro args w
  simp only [callFunc, program, Sem.run, bind, Sem.bind, hf, hname, hb, pure, Bool.false_eq_true, if_false]

theorem ret_int {k : IntKind} {a b : Int} (h : a = b) : Ending.returned (.int k a) = .returned (.int k b) := by rw [h]
theorem ret_bool {a b : Bool} (h : a = b) : Ending.returned (.bool a) = .returned (.bool b) := by rw [h]
theorem ret_two {a b c d : Value} (h : a = c) (k : b = d) : Ending.returned (.tuple #[a, b]) = .returned (.tuple #[c, d]) := by rw [h, k]

end Go.Proofs.YtkflfgkmbgjohaaDoor
