/-
  WHAT IS PROVED HERE: how an argument that is read as data lies in memory: integers, bools, texts, structs, slices of whatever is so read. Over any program.
-/
import Derived.Test.YtkflfgkmbgjohaaDoorBase
import Derived.ProofKit
import Derived.Deep.Slices
import Derived.SizedLaws
set_option linter.unusedVariables false
set_option linter.unusedSimpArgs false
namespace Go.Proofs.YtkflfgkmbgjohaaDoor
open Go.RowKit Go.ChangeShapes Go.WideShapes Go.Deep

/-- Whatever cells are read at type t ARE an element, as R says, if each part is within the form's reach. -/
def Opens {α : Type} (P : Program) (t : TypeId) (n : Nat) (R : World → α → List Value → Prop) : Prop :=
  P.cellsOf t = n ∧ ∀ {H : Type} (enc : TypeId × Value → H) (w : World) (spare : Nat → Bool) (held : Bool) (fuel : Nat) (cs : List Value) (x : DataW H × List MemPlace),
    DataW.trod enc P w 0 spare held fuel t cs = some x → (∀ m ∈ x.1.weights P t, m ≤ reachBytes) → ∃ y, R w y cs

def stringOk (_ : World) (s : ByteArray) (l : List Value) : Prop := l = [.string s] ∧ s.size ≤ reachBytes
def boolOk (_ : World) (b : Bool) (l : List Value) : Prop := l = [.bool b]
def intIs (k : IntKind) (_ : World) (n : Int) (l : List Value) : Prop := l = [.int k n] ∧ (Lit.int k n).wf = true
/-- A slice as one cell. -/
def sliceOk {α : Type} (n bytes : Nat) (R : World → α → List Value → Prop) (w : World) (xs : List α) (l : List Value) : Prop := ∃ v, l = [v] ∧ SliceOf n R w v xs ∧ xs.length * bytes ≤ reachBytes
/-- A slice of which its length alone is asked. -/
def lenOk (bytes : Nat) (_ : World) (n : Nat) (l : List Value) : Prop := ∃ a cap, l = [.slice a n cap] ∧ n ≤ cap ∧ cap ≤ maxLen ∧ n * bytes ≤ reachBytes

theorem opens_string {P : Program} {t : TypeId} (ht : P.underlying t = some .string) (hc : P.cellsOf t = 1) : Opens P t 1 stringOk :=
  ⟨hc, fun enc w spare held fuel cs x h hw => by
    obtain ⟨s, rfl, rfl, _⟩ := DataW.trod_string ht h
    refine ⟨s, rfl, ?_⟩
    have := hw s.data.toList.length (by simp [DataW.weights])
    simpa using this⟩
theorem opens_bool {P : Program} {t : TypeId} (ht : P.underlying t = some .bool) (hc : P.cellsOf t = 1) : Opens P t 1 boolOk :=
  ⟨hc, fun enc w spare held fuel cs x h _ => by
    obtain ⟨s, rfl, rfl⟩ := DataW.trod_bool ht h
    exact ⟨s, rfl⟩⟩
theorem opens_int {P : Program} {t : TypeId} {k : IntKind} (ht : P.underlying t = some (.int k)) (hc : P.cellsOf t = 1) : Opens P t 1 (intIs k) :=
  ⟨hc, fun enc w spare held fuel cs x h _ => by
    obtain ⟨n, rfl, rfl, hw⟩ := DataW.trod_int ht h
    exact ⟨n, rfl, hw⟩⟩

theorem addr_plain {w : World} {a : Addr} {v : Value} (h : w.cell? a = some v) : a = ⟨a.block, a.off, none⟩ := by
  obtain ⟨b, o, s⟩ := a
  cases s with
  | none => rfl
  | some k =>
    unfold World.cell? at h
    split at h
    · simp at h
    · simp at h
theorem add_eq (b o j : Nat) : (⟨b, o, none⟩ : Addr).add j = ⟨b, o + j, none⟩ := by
  unfold Addr.add
  by_cases hj : j = 0
  · simp [hj]
  · simp [hj]

theorem weights_elem {H : Type} {P : Program} {e : TypeId} {l : List (DataW H)} {d : DataW H} (h : d ∈ l) : ∀ m ∈ d.weights P e, m ∈ DataW.weightsAll P e l := by
  intro m hm
  induction l with
  | nil => simp at h
  | cons x l ih =>
    simp only [DataW.weightsAll, List.mem_append]
    rcases List.mem_cons.1 h with rfl | h
    · exact Or.inl hm
    · exact Or.inr (ih h)

theorem opens_slice {P : Program} {α : Type} {t e : TypeId} {n bytes : Nat} {R : World → α → List Value → Prop} (ht : P.underlying t = some (.slice e)) (hc : P.cellsOf t = 1) (hn : 0 < n) (hb : P.bytesOf e = bytes) (he : Opens P e n R) : Opens P t 1 (sliceOk n bytes R) := by
  refine ⟨hc, fun enc w spare held fuel cs x h hw => ?_⟩
  rcases open_slice ht h with ⟨rfl, rfl⟩ | ⟨a, len, cap, m, k, D, Pl, rfl, _, hl, hm, hmm, rfl, hx⟩
  · exact ⟨[], _, rfl, SliceOf.nil, by simp⟩
  have hlm : len ≤ m := by rw [hmm]; split <;> omega
  have hwl := hw ((((List.range len).map D).length + ((List.range (m - len)).map fun j => D (len + j)).length) * P.bytesOf e) (by simp [DataW.weights, ht])
  simp only [List.length_map, List.length_range, hb] at hwl
  have hel : ∀ i, i < len → ∃ y cs', w.cells? 0 (a.add (i * n)) n = some cs' ∧ R w y cs' := by
    intro i hi
    obtain ⟨cs', h1, h2⟩ := hx i (by omega)
    rw [he.1] at h1
    obtain ⟨y, hy⟩ := he.2 enc w spare held k cs' _ h2 (fun q hq => hw q (by
      simp only [DataW.weights, ht, List.mem_cons, List.mem_append]
      exact Or.inr (Or.inl (weights_elem (List.mem_map.2 ⟨i, List.mem_range.2 hi, rfl⟩) q hq))))
    exact ⟨y, cs', h1, hy⟩
  by_cases h0 : len = 0
  · subst h0
    exact ⟨[], _, rfl, ⟨some a, cap, rfl, by simp, hm, by simp, fun i hi => by simp at hi⟩, by simp⟩
  · obtain ⟨b, off, rfl⟩ : ∃ b off, a = ⟨b, off, none⟩ := by
      obtain ⟨y, cs', h1, _⟩ := hel 0 (by omega)
      obtain ⟨_, h2, h3⟩ := World.cells?_some h1
      have h4 := h3 0 hn
      rw [Nat.zero_mul, add_add] at h4
      have : cs'[0]? = some (cs'[0]'(by omega)) := List.getElem?_eq_getElem (by omega)
      rw [this] at h4
      have h5 : a.add (0 + 0) = a := by simp [Addr.add]
      rw [h5] at h4
      exact ⟨_, _, addr_plain h4⟩
    have hch : ∀ i : Fin len, ∃ y, ∃ cs', w.cells? 0 ((⟨b, off, none⟩ : Addr).add (i.val * n)) n = some cs' ∧ R w y cs' := fun i => hel i.val i.isLt
    let f : Fin len → α := fun i => Classical.choose (hch i)
    have hf : ∀ i : Fin len, ∃ cs', w.cells? 0 ((⟨b, off, none⟩ : Addr).add (i.val * n)) n = some cs' ∧ R w (f i) cs' := fun i => Classical.choose_spec (hch i)
    have hlen : (List.ofFn f).length = len := by simp
    refine ⟨List.ofFn f, _, rfl, ⟨some ⟨b, off, none⟩, cap, by rw [hlen], by omega, hm, by simp, fun i hi => ⟨b, off, rfl, ?_⟩⟩, ?_⟩
    · obtain ⟨cs', h1, h2⟩ := hf ⟨i, by omega⟩
      obtain ⟨_, h3, h4⟩ := World.cells?_some h1
      refine ⟨cs', h3, by simpa using h2, fun j hj => ?_⟩
      have h5 := h4 j (by omega)
      rw [add_add, add_eq, List.getElem?_eq_getElem hj] at h5
      simpa [Nat.add_assoc] using h5
    · rw [hlen]
      refine Nat.le_trans (Nat.mul_le_mul_right _ ?_) hwl
      omega

theorem opens_len {P : Program} {t e : TypeId} {bytes : Nat} (ht : P.underlying t = some (.slice e)) (hc : P.cellsOf t = 1) (hb : P.bytesOf e = bytes) : Opens P t 1 (lenOk bytes) := by
  refine ⟨hc, fun enc w spare held fuel cs x h hw => ?_⟩
  rcases open_slice ht h with ⟨rfl, rfl⟩ | ⟨a, len, cap, m, k, D, Pl, rfl, _, hl, hm, hmm, rfl, hx⟩
  · exact ⟨0, none, 0, rfl, by simp, by simp, by simp⟩
  have hlm : len ≤ m := by rw [hmm]; split <;> omega
  have hwl := hw ((((List.range len).map D).length + ((List.range (m - len)).map fun j => D (len + j)).length) * P.bytesOf e) (by simp [DataW.weights, ht])
  simp only [List.length_map, List.length_range, hb] at hwl
  exact ⟨len, _, _, rfl, hl, hm, Nat.le_trans (Nat.mul_le_mul_right _ (by omega)) hwl⟩

/-- A struct's fields: each is an element, by its own cells. -/
theorem opens_fields {P : Program} {t : TypeId} {fs : Array Field} (ht : P.underlying t = some (.struct fs)) {H : Type} {enc : TypeId × Value → H} {w : World} {spare : Nat → Bool} {held : Bool} {fuel : Nat} {cs : List Value} {x : DataW H × List MemPlace}
    (h : DataW.trod enc P w 0 spare held fuel t cs = some x) (hw : ∀ m ∈ x.1.weights P t, m ≤ reachBytes) :
    cs.length = P.cellsOf t ∧ ∀ (i : Nat) (f : Field), fs[i]? = some f → ∀ {α : Type} (n : Nat) (R : World → α → List Value → Prop), Opens P f.type n R → ∃ y, R w y ((cs.drop f.offset).take n) := by
  obtain ⟨xs, k, _, rfl, hl, hlen, hf⟩ := DataW.trod_struct ht h
  refine ⟨hl, fun i f hi α n R hR => ?_⟩
  have h1 := hf i f hi
  have hlt : i < xs.length := by rw [hlen]; exact (Array.getElem?_eq_some_iff.1 hi).1
  rw [List.getElem?_eq_getElem hlt, hR.1] at h1
  refine hR.2 enc w spare held k _ _ h1 (fun m hm => hw m ?_)
  simp only [DataW.weights, ht]
  refine DataW.weights_mem_each (j := i) (t := f.type) (d := xs[i].1) ?_ ?_ m hm
  · simp [hi]
  · simp [hlt]

/-- An argument. -/
theorem Opens.arg {P : Program} {α : Type} {t : TypeId} {n : Nat} {R : World → α → List Value → Prop} (hR : Opens P t n R) {H : Type} {enc : TypeId × Value → H} {w : World} {spare : Nat → Bool} {held : Bool} {v : Value} {d : DataW H} {ps : List MemPlace}
    (h : DataW.Trod enc P w 0 spare held t v d ps) (hw : ∀ m ∈ d.weights P t, m ≤ reachBytes) : ∃ y, R w y v.cells.toList := by
  obtain ⟨fuel, hf⟩ := h
  exact hR.2 enc w spare held fuel _ _ hf hw
theorem reach_arg {H : Type} {P : Program} {ts : List TypeId} {ds : List (DataW H)} (h : (DataW.weightsEach P ts ds).all (· ≤ reachBytes) = true) {j : Nat} {t : TypeId} {d : DataW H} (ht : ts[j]? = some t) (hd : ds[j]? = some d) : ∀ m ∈ d.weights P t, m ≤ reachBytes := fun m hm => by
  have := List.all_eq_true.1 h _ (DataW.weights_mem_each ht hd m hm)
  simpa using this
end Go.Proofs.YtkflfgkmbgjohaaDoor
