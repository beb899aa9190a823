/-
  WHAT IS PROVED HERE: the schema that the statements' live question is about.
-/
import Derived.Test.YtgelmhcbiffghaaDoorKids11
namespace Go.Proofs.YtgelmhcbiffghaaDoor
open Go.RowKit

def bId : ByteArray := ⟨#[105, 100]⟩
def bN : ByteArray := ⟨#[110]⟩
def bC : ByteArray := ⟨#[99]⟩
def bG : ByteArray := ⟨#[103]⟩
def bA : ByteArray := ⟨#[97]⟩
def bB : ByteArray := ⟨#[98]⟩
def cId : Col := ⟨⟨#[105, 100]⟩, 0, 1, false⟩
def cN : Col := ⟨⟨#[110]⟩, 0, 1, true⟩
def cC : Col := ⟨⟨#[99]⟩, 4, 2, false⟩
def cG : Col := ⟨⟨#[103]⟩, 0, 1, false⟩
def tA : Tbl := ⟨⟨#[97]⟩, [cId, cN, cG], [], 0, [], [⟨1, 2, 9⟩]⟩
def tB : Tbl := ⟨⟨#[98]⟩, [cId, cN, cC], [1], 0, [⟨1, 0, 2⟩], []⟩

theorem CellsAt.new (w : World) (l : List Value) (t : TypeId) (b : Nat) (hb : b = w.heap.size) : CellsAt (w.alloc (.cells l.toArray t)) b 0 l := by
  subst hb
  intro j hj
  rw [Nat.zero_add, World.cell?_alloc_new]
  simp [hj]
theorem CellsAt.allocR {w : World} {b o : Nat} {l : List Value} (h : CellsAt w b o l) (x : Obj) : CellsAt (w.alloc x) b o l := h.ext (Ext.alloc _ _)

theorem CellsAt.part {w : World} {b : Nat} {l : List Value} (h : CellsAt w b 0 l) (o : Nat) (m : List Value) (hm : ∀ j, j < m.length → l[o + j]? = m[j]?) : CellsAt w b (0 + o) m := by
  intro j hj
  have e := hm j hj
  rw [List.getElem?_eq_getElem hj] at e
  obtain ⟨h1, h2⟩ := List.getElem?_eq_some_iff.1 e
  have := h (o + j) h1
  rw [h2] at this
  simpa [Nat.add_assoc] using this

theorem small {b : ByteArray} (h : b.size ≤ 100) : b.size ≤ maxLen := by unfold maxLen; omega
/-- A slice over a block that is known whole. -/
theorem SliceOf.rows {α : Type} {n : Nat} {R : World → α → List Value → Prop} {w : World} {b : Nat} {l : List Value} {xs : List α} (hc : CellsAt w b 0 l) (rows : List (List Value)) (_ : rows.length = xs.length) (hm : xs.length ≤ maxLen)
    (h : ∀ i (hi : i < xs.length), (rows.getD i []).length = n ∧ R w xs[i] (rows.getD i []) ∧ ∀ j, j < n → l[i * n + j]? = (rows.getD i [])[j]?) : SliceOf n R w (.slice (some ⟨b, 0, none⟩) xs.length xs.length) xs :=
  SliceOf.of (Nat.le_refl _) hm fun i hi => by
    obtain ⟨h1, h2, h3⟩ := h i hi
    exact ⟨_, h1, h2, hc.part _ _ (fun j hj => h3 j (by omega))⟩

theorem cols3 {w : World} {b : Nat} {x y z : Col} (hc : CellsAt w b 0 (x.val ++ y.val ++ z.val)) (hx : x.name.size ≤ maxLen ∧ i64 x.kind ∧ i64 x.typ) (hy : y.name.size ≤ maxLen ∧ i64 y.kind ∧ i64 y.typ) (hz : z.name.size ≤ maxLen ∧ i64 z.kind ∧ i64 z.typ) : SliceOf 4 colOk w (.slice (some ⟨b, 0, none⟩) 3 3) [x, y, z] :=
  SliceOf.rows (xs := [x, y, z]) hc [x.val, y.val, z.val] rfl (by simp [maxLen]) (fun i hi => by
    match i, hi with
    | 0, _ => exact ⟨rfl, ⟨rfl, hx⟩, fun j hj => by match j, hj with | 0, _ => rfl | 1, _ => rfl | 2, _ => rfl | 3, _ => rfl⟩
    | 1, _ => exact ⟨rfl, ⟨rfl, hy⟩, fun j hj => by match j, hj with | 0, _ => rfl | 1, _ => rfl | 2, _ => rfl | 3, _ => rfl⟩
    | 2, _ => exact ⟨rfl, ⟨rfl, hz⟩, fun j hj => by match j, hj with | 0, _ => rfl | 1, _ => rfl | 2, _ => rfl | 3, _ => rfl⟩)
theorem int1 {w : World} {b : Nat} {x : Int} (hc : CellsAt w b 0 [.int .i64 x]) (hx : i64 x) : SliceOf 1 intOk w (.slice (some ⟨b, 0, none⟩) 1 1) [x] :=
  SliceOf.rows (xs := [x]) hc [[.int .i64 x]] rfl (by simp [maxLen]) (fun i hi => by
    match i, hi with
    | 0, _ => exact ⟨rfl, ⟨rfl, hx⟩, fun j hj => by match j, hj with | 0, _ => rfl⟩)
theorem frn1 {w : World} {b : Nat} {x : Frn} (hc : CellsAt w b 0 x.val) (hx : i64 x.col ∧ i64 x.tab ∧ i64 x.act) : SliceOf 3 frnOk w (.slice (some ⟨b, 0, none⟩) 1 1) [x] :=
  SliceOf.rows (xs := [x]) hc [x.val] rfl (by simp [maxLen]) (fun i hi => by
    match i, hi with
    | 0, _ => exact ⟨rfl, ⟨rfl, hx⟩, fun j hj => by match j, hj with | 0, _ => rfl | 1, _ => rfl | 2, _ => rfl⟩)
theorem sm1 {w : World} {b : Nat} {x : Sm} (hc : CellsAt w b 0 x.val) (hx : i64 x.col ∧ i64 x.by_ ∧ i64 x.max) : SliceOf 3 smOk w (.slice (some ⟨b, 0, none⟩) 1 1) [x] :=
  SliceOf.rows (xs := [x]) hc [x.val] rfl (by simp [maxLen]) (fun i hi => by
    match i, hi with
    | 0, _ => exact ⟨rfl, ⟨rfl, hx⟩, fun j hj => by match j, hj with | 0, _ => rfl | 1, _ => rfl | 2, _ => rfl⟩)
theorem tbl2 {w : World} {b : Nat} {x y : Tbl} {x0 x1 x2 x3 x4 x5 y0 y1 y2 y3 y4 y5 : Value} (hc : CellsAt w b 0 [x0, x1, x2, x3, x4, x5, y0, y1, y2, y3, y4, y5]) (hx : tblOk w x [x0, x1, x2, x3, x4, x5]) (hy : tblOk w y [y0, y1, y2, y3, y4, y5]) : SliceOf 6 tblOk w (.slice (some ⟨b, 0, none⟩) 2 2) [x, y] :=
  SliceOf.rows (xs := [x, y]) hc [[x0, x1, x2, x3, x4, x5], [y0, y1, y2, y3, y4, y5]] rfl (by simp [maxLen]) (fun i hi => by
    match i, hi with
    | 0, _ => exact ⟨rfl, hx, fun j hj => by match j, hj with | 0, _ => rfl | 1, _ => rfl | 2, _ => rfl | 3, _ => rfl | 4, _ => rfl | 5, _ => rfl⟩
    | 1, _ => exact ⟨rfl, hy, fun j hj => by match j, hj with | 0, _ => rfl | 1, _ => rfl | 2, _ => rfl | 3, _ => rfl | 4, _ => rfl | 5, _ => rfl⟩)

set_option maxHeartbeats 1000000 in
theorem some_any (w : World) : Calls Tryd.prog 19 #[] w fun e w' => ∃ v, e = .returned (.agg #[v]) ∧ SliceOf 6 tblOk w' v [tA, tB] ∧ Ext w w' := by
  go_enter Tryd.func19, Tryd.ntmps19
  go_wp2
  refine bodyPost_ret (v := .agg #[.slice (some ⟨w.heap.size + 9, 0, none⟩) 2 2]) (by simp [results, Tryd.results19, go_sem]) rfl ⟨_, rfl, ?_, ?_⟩
  · refine tbl2 (by exact (CellsAt.new _ _ _ _ (by simp))) ?_ ?_
    · refine ⟨_, _, _, _, _, _, rfl, small (by decide), by simp [tA], ?_, SliceOf.nil, SliceOf.nil, ?_⟩
      · exact cols3 (x := cId) (y := cN) (z := cG) (by exact (((CellsAt.new _ _ _ _ (by simp)).allocR _).allocR _)) ⟨small (by decide), by simp [cId, i64], by simp [cId, i64]⟩ ⟨small (by decide), by simp [cN, i64], by simp [cN, i64]⟩ ⟨small (by decide), by simp [cG, i64], by simp [cG, i64]⟩
      · exact sm1 (x := ⟨1, 2, 9⟩) (by exact ((CellsAt.new _ _ _ _ (by simp)).allocR _)) (by simp [i64])
    · refine ⟨_, _, _, _, _, _, rfl, small (by decide), by simp [tB], ?_, ?_, ?_, SliceOf.nil⟩
      · exact cols3 (x := cId) (y := cN) (z := cC) (by exact (((((((CellsAt.new _ _ _ _ (by simp)).allocR _).allocR _).allocR _).allocR _).allocR _).allocR _)) ⟨small (by decide), by simp [cId, i64], by simp [cId, i64]⟩ ⟨small (by decide), by simp [cN, i64], by simp [cN, i64]⟩ ⟨small (by decide), by simp [cC, i64], by simp [cC, i64]⟩
      · exact int1 (by exact ((((((CellsAt.new _ _ _ _ (by simp)).allocR _).allocR _).allocR _).allocR _).allocR _)) (by simp [i64])
      · exact frn1 (x := ⟨1, 0, 2⟩) (by exact (((((CellsAt.new _ _ _ _ (by simp)).allocR _).allocR _).allocR _).allocR _)) (by simp [i64])
  · repeat (first | exact Ext.refl _ | apply Ext.allocR)
end Go.Proofs.YtgelmhcbiffghaaDoor
