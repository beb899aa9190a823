/-
  WHAT IS PROVED HERE: the document's answers on schemas as plain Lean functions, and small facts on them. No program is in sight.
-/
import Derived.Test.YtgelmhcbiffghaaDoorName11
namespace Go.Proofs.YtgelmhcbiffghaaDoor
open Go.RowKit

/-- The place of the first one that has it; -1: there is none. -/
def idxOf {α : Type} (p : α → Bool) (s : List α) : Int := match s.findIdx? p with | some k => k | none => -1
theorem idxOf_of_at {α : Type} {p : α → Bool} {s : List α} {k : Nat} (h : k < s.length) (hp : p s[k] = true) (hn : ∀ j (hj : j < s.length), j < k → p s[j] = false) : idxOf p s = k := by
  unfold idxOf
  have : s.findIdx? p = some k := by rw [List.findIdx?_eq_some_iff_getElem]; exact ⟨h, hp, fun j hj => by simpa using hn j (by omega) hj⟩
  rw [this]
theorem idxOf_none {α : Type} {p : α → Bool} {s : List α} (hn : ∀ j (hj : j < s.length), p s[j] = false) : idxOf p s = -1 := by
  unfold idxOf
  have : s.findIdx? p = none := by
    rw [List.findIdx?_eq_none_iff]; intro x hx
    obtain ⟨j, hj, rfl⟩ := List.mem_iff_getElem.1 hx
    exact hn j hj
  rw [this]
theorem idxOf_cases {α : Type} (p : α → Bool) (s : List α) : (idxOf p s = -1 ∧ s.any p = false ∧ ∀ j (hj : j < s.length), p s[j] = false) ∨ (∃ k : Nat, ∃ h : k < s.length, idxOf p s = k ∧ p s[k] = true ∧ s.any p = true ∧ ∀ j (hj : j < s.length), j < k → p s[j] = false) := by
  cases h : s.findIdx? p with
  | none =>
    left
    rw [List.findIdx?_eq_none_iff] at h
    refine ⟨by simp [idxOf, List.findIdx?_eq_none_iff.2 h], by rw [List.any_eq_false]; intro x hx; simp [h x hx], fun j hj => h _ (List.getElem_mem hj)⟩
  | some k =>
    right
    have h' := h
    rw [List.findIdx?_eq_some_iff_getElem] at h
    obtain ⟨hk, hp, hn⟩ := h
    exact ⟨k, hk, by simp [idxOf, h'], hp, List.any_eq_true.2 ⟨_, List.getElem_mem hk, hp⟩, fun j hj hjk => by simpa using hn j hjk⟩
theorem idxOf_bd {α : Type} (p : α → Bool) (s : List α) : -1 ≤ idxOf p s ∧ idxOf p s < s.length := by
  rcases idxOf_cases p s with ⟨h, _⟩ | ⟨k, hk, h, _⟩ <;> rw [h] <;> omega
theorem idxOf_any {α : Type} (p : α → Bool) (s : List α) : decide (0 ≤ idxOf p s) = s.any p := by
  rcases idxOf_cases p s with ⟨h, h2, _⟩ | ⟨k, hk, h, _, h2, _⟩ <;> rw [h, h2] <;> simp

/-- The first error of some. -/
def firstE : Nat → (Nat → Int) → Int
  | 0, _ => 0
  | n + 1, f => if firstE n f ≠ 0 then firstE n f else f n
theorem firstE_zero {n : Nat} {f : Nat → Int} (h : ∀ j, j < n → f j = 0) : firstE n f = 0 := by
  induction n with
  | zero => rfl
  | succ n ih => simp [firstE, ih (fun j hj => h j (by omega)), h n (by omega)]
theorem firstE_at {n k : Nat} {f : Nat → Int} (hk : k < n) (h : ∀ j, j < k → f j = 0) (he : f k ≠ 0) : firstE n f = f k := by
  induction n with
  | zero => omega
  | succ n ih =>
    by_cases hkn : k < n
    · have := ih hkn; simp [firstE, this, he]
    · have : k = n := by omega
      subst this
      simp [firstE, firstE_zero h]
theorem firstE_eq_zero {n : Nat} {f : Nat → Int} : firstE n f = 0 ↔ ∀ j, j < n → f j = 0 := by
  constructor
  · intro h
    induction n with
    | zero => intro j hj; omega
    | succ n ih =>
      simp only [firstE] at h
      by_cases h0 : firstE n f = 0
      · simp [h0] at h
        intro j hj
        by_cases hjn : j < n
        · exact ih h0 j hjn
        · have : j = n := by omega
          subst this; exact h
      · simp [h0] at h
  · exact firstE_zero
theorem firstE_congr {n : Nat} {f g : Nat → Int} (h : ∀ j, j < n → f j = g j) : firstE n f = firstE n g := by
  induction n with
  | zero => rfl
  | succ n ih => simp [firstE, ih (fun j hj => h j (by omega)), h n (by omega)]

def sameC (c x : Col) : Bool := x.name.toList == c.name.toList
def sameS (c x : Sm) : Bool := x.col == c.col && x.by_ == c.by_
def sameT (n : ByteArray) (x : Tbl) : Bool := x.name.toList == n.toList
def numCol (c : Col) : Bool := c.kind == 0 && c.typ == 1

instance : Inhabited Col := ⟨⟨ByteArray.empty, 0, 0, false⟩⟩
instance : Inhabited Frn := ⟨⟨0, 0, 0⟩⟩
instance : Inhabited Sm := ⟨⟨0, 0, 0⟩⟩
instance : Inhabited Tbl := ⟨⟨ByteArray.empty, [], [], 0, [], []⟩⟩

def badKind (c : Col) : Bool := !nameL c.name.toList || decide (c.kind < 0) || decide (c.kind > 4)
def badType (c : Col) : Bool := (c.typ != 1 && c.typ != 2) || ((c.kind == 2 || c.kind == 3) && c.typ == 2) || (c.kind == 4 && c.typ == 1)
/-- Of a column, some others ahead. -/
def colErr (ahead : List Col) (c : Col) : Int :=
  if badKind c then 1 else if ahead.any (sameC c) then 5 else if badType c then 6 else if c.null && decide (c.kind > 1) then 1 else 0
/-- Is there such a column, but the key? -/
def isCol (t : Tbl) (col : Int) : Bool := decide (1 ≤ col) && decide (col < t.cols.length)
def colAt (t : Tbl) (col : Int) : Col := t.cols.getD col.toNat default
def uniqErr (t : Tbl) (k : Nat) : Int :=
  if !isCol t (t.uniq.getD k 0) then 4 else if decide (0 < k) && decide (t.uniq.getD k 0 ≤ t.uniq.getD (k - 1) 0) then 1 else if !numCol (colAt t (t.uniq.getD k 0)) then 6 else 0
def frnErr (n : Nat) (t : Tbl) (k : Nat) : Int :=
  if !isCol t (t.frn.getD k default).col || decide ((t.frn.getD k default).tab < 0) || decide ((n : Int) ≤ (t.frn.getD k default).tab) then 4
  else if (decide (0 < k) && decide ((t.frn.getD k default).col ≤ (t.frn.getD (k - 1) default).col)) || decide ((t.frn.getD k default).act < 0) || decide (2 < (t.frn.getD k default).act) then 1
  else if !numCol (colAt t (t.frn.getD k default).col) || ((t.frn.getD k default).act == 2 && !(colAt t (t.frn.getD k default).col).null) then 6 else 0
def smErr (t : Tbl) (k : Nat) : Int :=
  if !isCol t (t.sums.getD k default).col || !isCol t (t.sums.getD k default).by_ then 4
  else if (t.sums.getD k default).col == (t.sums.getD k default).by_ || decide ((t.sums.getD k default).max < 0) || decide (1099511627776 < (t.sums.getD k default).max) then 1
  else if !numCol (colAt t (t.sums.getD k default).col) || !numCol (colAt t (t.sums.getD k default).by_) then 6
  else if (t.sums.take k).any (sameS (t.sums.getD k default)) then 5 else 0
def colsErr (t : Tbl) : Int := firstE t.cols.length fun k => colErr (t.cols.take k) (t.cols.getD k default)
def keyErr (t : Tbl) : Int := if !numCol (t.cols.getD 0 default) || (t.cols.getD 0 default).null then 6 else 0
def boundErr (t : Tbl) : Int := if decide (t.cols.length < 1) || decide (16 < max t.cols.length (max t.checks (max t.uniq.length (max t.frn.length t.sums.length)))) then 2 else 0
def nameErr (s : List Tbl) (k : Nat) : Int := if !nameL (s.getD k default).name.toList then 1 else if (s.take k).any (sameT (s.getD k default).name) then 5 else 0
/-- All that is asked of a table, one behind the other. -/
def lookErr (s : List Tbl) (k : Nat) : Nat → Int
  | 0 => nameErr s k
  | 1 => boundErr (s.getD k default)
  | 2 => colsErr (s.getD k default)
  | 3 => keyErr (s.getD k default)
  | 4 => firstE (s.getD k default).uniq.length (uniqErr (s.getD k default))
  | 5 => firstE (s.getD k default).frn.length (frnErr s.length (s.getD k default))
  | _ => firstE (s.getD k default).sums.length (smErr (s.getD k default))
def tabErr (s : List Tbl) (k : Nat) : Int := firstE 7 (lookErr s k)
/-- Why a schema may not be; 0: it may. -/
def rightF (s : List Tbl) : Int := if decide (s.length < 1) || decide (16 < s.length) then 2 else firstE s.length (tabErr s)

/-! the elements in memory -/
theorem tbl_at {w : World} {a : Option Addr} {cap len : Nat} {s : List Tbl} (h : SliceOf 6 tblOk w (.slice a len cap) s) {k : Nat} (hk : k < s.length) :
    ∃ b off vc vu ac cc vf vs, a = some ⟨b, off, none⟩ ∧ w.cell? ⟨b, off + k * 6, none⟩ = some (.string s[k].name) ∧ w.cell? ⟨b, off + k * 6 + 1, none⟩ = some vc ∧ w.cell? ⟨b, off + k * 6 + 2, none⟩ = some vu ∧
      w.cell? ⟨b, off + k * 6 + 3, none⟩ = some (.slice ac s[k].checks cc) ∧ w.cell? ⟨b, off + k * 6 + 4, none⟩ = some vf ∧ w.cell? ⟨b, off + k * 6 + 5, none⟩ = some vs ∧
      tblOk w s[k] [.string s[k].name, vc, vu, .slice ac s[k].checks cc, vf, vs] ∧ s[k].name.size ≤ maxLen := by
  obtain ⟨a', cap', h1, h2, h3, h4, h5⟩ := h.out
  simp only [Value.slice.injEq] at h1
  obtain ⟨rfl, rfl, rfl⟩ := h1
  obtain ⟨b, off, rfl, l, hl, hR, hc⟩ := h5 k hk
  obtain ⟨vc, vu, ac, cc, vf, vs, rfl, hn, _⟩ := hR.out
  exact ⟨b, off, vc, vu, ac, cc, vf, vs, rfl, hc 0 (by simp), hc 1 (by simp), hc 2 (by simp), hc 3 (by simp), hc 4 (by simp), hc 5 (by simp), hR, hn⟩
theorem col_at {w : World} {a : Option Addr} {cap len : Nat} {s : List Col} (h : SliceOf 4 colOk w (.slice a len cap) s) {k : Nat} (hk : k < s.length) :
    ∃ b off, a = some ⟨b, off, none⟩ ∧ w.cell? ⟨b, off + k * 4, none⟩ = some (.string s[k].name) ∧ w.cell? ⟨b, off + k * 4 + 1, none⟩ = some (.int .i64 s[k].kind) ∧ w.cell? ⟨b, off + k * 4 + 2, none⟩ = some (.int .i64 s[k].typ) ∧
      w.cell? ⟨b, off + k * 4 + 3, none⟩ = some (.bool s[k].null) ∧ s[k].name.size ≤ maxLen ∧ i64 s[k].kind ∧ i64 s[k].typ := by
  obtain ⟨a', cap', h1, h2, h3, h4, h5⟩ := h.out
  simp only [Value.slice.injEq] at h1
  obtain ⟨rfl, rfl, rfl⟩ := h1
  obtain ⟨b, off, rfl, l, hl, ⟨rfl, hn, h7, h8⟩, hc⟩ := h5 k hk
  exact ⟨b, off, rfl, hc 0 (by simp [Col.val]), hc 1 (by simp [Col.val]), hc 2 (by simp [Col.val]), hc 3 (by simp [Col.val]), hn, h7, h8⟩
theorem frn_at {w : World} {a : Option Addr} {cap len : Nat} {s : List Frn} (h : SliceOf 3 frnOk w (.slice a len cap) s) {k : Nat} (hk : k < s.length) :
    ∃ b off, a = some ⟨b, off, none⟩ ∧ w.cell? ⟨b, off + k * 3, none⟩ = some (.int .i64 s[k].col) ∧ w.cell? ⟨b, off + k * 3 + 1, none⟩ = some (.int .i64 s[k].tab) ∧ w.cell? ⟨b, off + k * 3 + 2, none⟩ = some (.int .i64 s[k].act) ∧ i64 s[k].col ∧ i64 s[k].tab ∧ i64 s[k].act := by
  obtain ⟨a', cap', h1, h2, h3, h4, h5⟩ := h.out
  simp only [Value.slice.injEq] at h1
  obtain ⟨rfl, rfl, rfl⟩ := h1
  obtain ⟨b, off, rfl, l, hl, ⟨rfl, hn⟩, hc⟩ := h5 k hk
  exact ⟨b, off, rfl, hc 0 (by simp [Frn.val]), hc 1 (by simp [Frn.val]), hc 2 (by simp [Frn.val]), hn⟩
theorem sm_at {w : World} {a : Option Addr} {cap len : Nat} {s : List Sm} (h : SliceOf 3 smOk w (.slice a len cap) s) {k : Nat} (hk : k < s.length) :
    ∃ b off, a = some ⟨b, off, none⟩ ∧ w.cell? ⟨b, off + k * 3, none⟩ = some (.int .i64 s[k].col) ∧ w.cell? ⟨b, off + k * 3 + 1, none⟩ = some (.int .i64 s[k].by_) ∧ w.cell? ⟨b, off + k * 3 + 2, none⟩ = some (.int .i64 s[k].max) ∧ i64 s[k].col ∧ i64 s[k].by_ ∧ i64 s[k].max := by
  obtain ⟨a', cap', h1, h2, h3, h4, h5⟩ := h.out
  simp only [Value.slice.injEq] at h1
  obtain ⟨rfl, rfl, rfl⟩ := h1
  obtain ⟨b, off, rfl, l, hl, ⟨rfl, hn⟩, hc⟩ := h5 k hk
  exact ⟨b, off, rfl, hc 0 (by simp [Sm.val]), hc 1 (by simp [Sm.val]), hc 2 (by simp [Sm.val]), hn⟩
theorem int_at {w : World} {a : Option Addr} {cap len : Nat} {s : List Int} (h : SliceOf 1 intOk w (.slice a len cap) s) {k : Nat} (hk : k < s.length) :
    ∃ b off, a = some ⟨b, off, none⟩ ∧ w.cell? ⟨b, off + k, none⟩ = some (.int .i64 s[k]) ∧ i64 s[k] := by
  obtain ⟨a', cap', h1, h2, h3, h4, h5⟩ := h.out
  simp only [Value.slice.injEq] at h1
  obtain ⟨rfl, rfl, rfl⟩ := h1
  obtain ⟨b, off, rfl, l, hl, ⟨rfl, hn⟩, hc⟩ := h5 k hk
  exact ⟨b, off, rfl, by simpa using hc 0 (by simp), hn⟩
/-- The value's own form. -/
theorem SliceOf.form {α : Type} {n : Nat} {R : World → α → List Value → Prop} {w : World} {v : Value} {xs : List α} (h : SliceOf n R w v xs) : ∃ a cap, v = .slice a xs.length cap ∧ xs.length ≤ cap ∧ xs.length ≤ 9223372036854775807 ∧ cap ≤ 9223372036854775807 := by
  obtain ⟨a, cap, h1, h2, h3, _⟩ := h.out
  unfold maxLen at h3
  exact ⟨a, cap, h1, h2, by omega, by omega⟩
end Go.Proofs.YtgelmhcbiffghaaDoor
