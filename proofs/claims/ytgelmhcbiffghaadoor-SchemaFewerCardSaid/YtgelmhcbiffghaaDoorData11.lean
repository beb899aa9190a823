/-
  WHAT IS PROVED HERE: how a schema's parts lie in memory, and that this keeps while the world grows.
-/
import Derived.Test.YtgelmhcbiffghaaDoorBase
namespace Go.Proofs.YtgelmhcbiffghaaDoor
open Go.RowKit

structure Col where
  name : ByteArray
  kind : Int
  typ : Int
  null : Bool
structure Frn where
  col : Int
  tab : Int
  act : Int
structure Sm where
  col : Int
  by_ : Int
  max : Int
structure Tbl where
  name : ByteArray
  cols : List Col
  uniq : List Int
  checks : Nat
  frn : List Frn
  sums : List Sm

def i64 (n : Int) : Prop := -9223372036854775808 ≤ n ∧ n ≤ 9223372036854775807

def Col.val (c : Col) : List Value := [.string c.name, .int .i64 c.kind, .int .i64 c.typ, .bool c.null]
def Frn.val (c : Frn) : List Value := [.int .i64 c.col, .int .i64 c.tab, .int .i64 c.act]
def Sm.val (c : Sm) : List Value := [.int .i64 c.col, .int .i64 c.by_, .int .i64 c.max]

def colOk (_ : World) (c : Col) (l : List Value) : Prop := l = c.val ∧ c.name.size ≤ maxLen ∧ i64 c.kind ∧ i64 c.typ
def intOk (_ : World) (n : Int) (l : List Value) : Prop := l = [.int .i64 n] ∧ i64 n
def frnOk (_ : World) (c : Frn) (l : List Value) : Prop := l = c.val ∧ i64 c.col ∧ i64 c.tab ∧ i64 c.act
def smOk (_ : World) (c : Sm) (l : List Value) : Prop := l = c.val ∧ i64 c.col ∧ i64 c.by_ ∧ i64 c.max

/-- The six cells of a table. -/
structure tblOk (w : World) (t : Tbl) (l : List Value) : Prop where
  out : ∃ vc vu a cap vf vs, l = [.string t.name, vc, vu, .slice a t.checks cap, vf, vs] ∧ t.name.size ≤ maxLen ∧ t.checks ≤ maxLen ∧
    SliceOf 4 colOk w vc t.cols ∧ SliceOf 1 intOk w vu t.uniq ∧ SliceOf 3 frnOk w vf t.frn ∧ SliceOf 3 smOk w vs t.sums

theorem keeps_col : Keeps colOk := fun _ _ _ _ _ h => h
theorem keeps_int : Keeps intOk := fun _ _ _ _ _ h => h
theorem keeps_frn : Keeps frnOk := fun _ _ _ _ _ h => h
theorem keeps_sm : Keeps smOk := fun _ _ _ _ _ h => h
theorem keeps_tbl : Keeps tblOk := fun _ _ _ _ hx h => by
  obtain ⟨vc, vu, a, cap, vf, vs, h1, h2, h3, h4, h5, h6, h7⟩ := h.out
  exact ⟨vc, vu, a, cap, vf, vs, h1, h2, h3, h4.ext keeps_col hx, h5.ext keeps_int hx, h6.ext keeps_frn hx, h7.ext keeps_sm hx⟩

/-- A table as a value. -/
def TblV (w : World) (v : Value) (t : Tbl) : Prop := ∃ l, v = .agg l.toArray ∧ tblOk w t l
/-- A schema as a value. -/
def SchV (w : World) (v : Value) (s : List Tbl) : Prop := ∃ u, v = .agg #[u] ∧ SliceOf 6 tblOk w u s
end Go.Proofs.YtgelmhcbiffghaaDoor
