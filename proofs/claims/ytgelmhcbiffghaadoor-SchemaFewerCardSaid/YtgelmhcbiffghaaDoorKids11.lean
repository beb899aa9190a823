/-
  WHAT IS PROVED HERE: what schema.Foreign and schema.Kids answer.
-/
import Derived.Test.YtgelmhcbiffghaaDoorAsk11
import Derived.Laws.ResultCell
namespace Go.Proofs.YtgelmhcbiffghaaDoor
open Go.RowKit

def frnIs (l : List Frn) (col : Int) : Bool := l.any (fun f => f.col == col)
def frnOf (l : List Frn) (col : Int) : Frn := (l.find? (fun f => f.col == col)).getD ⟨0, 0, 0⟩
theorem frn_none {l : List Frn} {col : Int} (h : ∀ j (hj : j < l.length), l[j].col ≠ col) : frnIs l col = false ∧ frnOf l col = ⟨0, 0, 0⟩ := by
  have h' : ∀ x ∈ l, ¬ (x.col == col) = true := fun x hx => by
    obtain ⟨j, hj, rfl⟩ := List.mem_iff_getElem.1 hx
    simpa using h j hj
  constructor
  · rw [frnIs, List.any_eq_false]; exact h'
  · rw [frnOf, List.find?_eq_none.2 h']; rfl
theorem frn_some {l : List Frn} {col : Int} {k : Nat} (hk : k < l.length) (hc : l[k].col = col) (h : ∀ j (hj : j < l.length), j < k → l[j].col ≠ col) : frnIs l col = true ∧ frnOf l col = l[k] := by
  constructor
  · rw [frnIs, List.any_eq_true]; exact ⟨l[k], List.getElem_mem hk, by simpa using hc⟩
  · have : l.find? (fun f => f.col == col) = some l[k] := by
      rw [List.find?_eq_some_iff_getElem]
      exact ⟨by simpa using hc, k, hk, rfl, fun j hj => by simpa using h j (by omega) hj⟩
    rw [frnOf, this]; rfl

set_option maxHeartbeats 800000 in
theorem Foreign_any (t : Tbl) (l : List Value) (col : Int) (w : World) (h : tblOk w t l) :
    Calls Tryd.prog 17 #[.agg l.toArray, .int .i64 col] w fun e w' => e = .returned (.tuple #[.agg (frnOf t.frn col).val.toArray, .bool (frnIs t.frn col)]) ∧ Ext w w' := by
  obtain ⟨vc, vu, ak, ck, vf, vs, rfl, _, _, _, _, h6, _⟩ := h.out
  obtain ⟨af, cf, rfl, _, hlen, _⟩ := h6.form
  have HF := hid h6
  clear h6 h
  go_enter Tryd.func17, Tryd.ntmps17
  go_wp2
  go_loopw [11] (fun i wr => ∃ k : Nat, k ≤ t.frn.length ∧ i = .int .i64 k ∧ Ext w wr ∧ wr.cell? ⟨w.heap.size + 1, 0, none⟩ = some (.int .i64 0) ∧ wr.cell? ⟨w.heap.size + 1, 1, none⟩ = some (.int .i64 0) ∧ wr.cell? ⟨w.heap.size + 1, 2, none⟩ = some (.int .i64 0) ∧ (∀ j, wr.frozen? ⟨w.heap.size + 1, j, none⟩ = false) ∧ Hid (∀ j (hj : j < t.frn.length), j < k → t.frn[j].col ≠ col)) (fun i _ => t.frn.length - (intOf i).toNat)
  case atStart => exact ⟨0, Nat.zero_le _, rfl, (Ext.alloc _ _).allocR _, by simp [go_sem], by simp [go_sem], by simp [go_sem], fun j => by simp [go_sem], fun j _ h => absurd h (Nat.not_lt_zero _)⟩
  case round =>
    obtain ⟨k, hk, rfl, hx, r0, r1, r2, fz, hp⟩ := hrel
    by_cases hlt : k < t.frn.length
    · obtain ⟨b, off, rfl, g0, g1, g2, _⟩ := frn_at (HF.out.ext keeps_frn hx) hlt
      have hb : b < wr.heap.size := lt_of_cell g0
      have hb2 : w.heap.size + 1 < wr.heap.size := lt_of_cell r0
      have f0 := fz 0
      have f1 := fz 1
      have f2 := fz 2
      by_cases hc : t.frn[k].col = col
      · have hc' : (t.frn[k].col == col) = true := by simpa using hc
        have HC := hid hc
        clear hc fz
        go_wp2
        refine bodyPost_ret (v := .tuple #[.agg #[.int .i64 t.frn[k].col, .int .i64 t.frn[k].tab, .int .i64 t.frn[k].act], .bool true]) (by simp [results, Tryd.results17, go_sem, r0, r1, r2, hb2]) rfl ⟨?_, ?_⟩
        · obtain ⟨q1, q2⟩ := frn_some hlt HC.out hp.out
          rw [q1, q2]; rfl
        · repeat' (first | exact hx | apply Ext.allocR | (refine Below.setCell ?_ (Nat.le_succ _) _))
      · have hc' : (t.frn[k].col == col) = false := by simpa using hc
        have FZ := hid fz
        clear fz
        go_wp2
        go_roundw
        case rel => exact ⟨k + 1, by omega, by go_num, hx.allocR _, by simp [go_sem, hb2, r0], by simp [go_sem, hb2, r1], by simp [go_sem, hb2, r2], fun j => by rw [← FZ.out j]; simp [go_sem, hb2], fun j hj hjk => by
          rcases Nat.lt_succ_iff_lt_or_eq.1 hjk with h | rfl
          · exact hp.out j hj h
          · exact hc⟩
        case measure => simp [intOf]; omega
    · have f0 := fz 0
      have f1 := fz 1
      have f2 := fz 2
      clear fz
      go_wp2
      refine bodyPost_ret (v := .tuple #[.agg #[.int .i64 0, .int .i64 0, .int .i64 0], .bool false]) (by simp [results, Tryd.results17, go_sem, r0, r1, r2]) rfl ⟨?_, ?_⟩
      · obtain ⟨q1, q2⟩ := frn_none (fun j hj => hp.out j hj (by omega))
        rw [q1, q2]; rfl
      · exact ((hx.setCell (by simp) _).setCell (by simp) _).setCell (by simp) _

theorem tbl_at2 {w : World} {a : Option Addr} {cap len : Nat} {s : List Tbl} (h : SliceOf 6 tblOk w (.slice a len cap) s) {k : Nat} (hk : k < s.length) :
    ∃ b off ac cc au cu ak ck af cf am cs, a = some ⟨b, off, none⟩ ∧ b < w.heap.size ∧ w.cell? ⟨b, off + k * 6, none⟩ = some (.string s[k].name) ∧ w.cell? ⟨b, off + k * 6 + 1, none⟩ = some (.slice ac s[k].cols.length cc) ∧ w.cell? ⟨b, off + k * 6 + 2, none⟩ = some (.slice au s[k].uniq.length cu) ∧
      w.cell? ⟨b, off + k * 6 + 3, none⟩ = some (.slice ak s[k].checks ck) ∧ w.cell? ⟨b, off + k * 6 + 4, none⟩ = some (.slice af s[k].frn.length cf) ∧ w.cell? ⟨b, off + k * 6 + 5, none⟩ = some (.slice am s[k].sums.length cs) ∧
      tblOk w s[k] [.string s[k].name, .slice ac s[k].cols.length cc, .slice au s[k].uniq.length cu, .slice ak s[k].checks ck, .slice af s[k].frn.length cf, .slice am s[k].sums.length cs] ∧ s[k].name.size ≤ maxLen ∧
      SliceOf 4 colOk w (.slice ac s[k].cols.length cc) s[k].cols ∧ SliceOf 1 intOk w (.slice au s[k].uniq.length cu) s[k].uniq ∧ SliceOf 3 frnOk w (.slice af s[k].frn.length cf) s[k].frn ∧ SliceOf 3 smOk w (.slice am s[k].sums.length cs) s[k].sums ∧ s[k].checks ≤ maxLen := by
  obtain ⟨b, off, vc, vu, ac, cc, vf, vs, rfl, e0, e1, e2, e3, e4, e5, hR, hn⟩ := tbl_at h hk
  have hR' := hR
  obtain ⟨vc', vu', ak, ck, vf', vs', hl, _, hck, h4, h5, h6, h7⟩ := hR.out
  simp only [List.cons.injEq, Value.slice.injEq, and_true, true_and] at hl
  obtain ⟨rfl, rfl, _, rfl, rfl⟩ := hl
  obtain ⟨ac1, cc1, rfl, _⟩ := h4.form
  obtain ⟨ac2, cc2, rfl, _⟩ := h5.form
  obtain ⟨ac3, cc3, rfl, _⟩ := h6.form
  obtain ⟨ac4, cc4, rfl, _⟩ := h7.form
  exact ⟨b, off, _, _, _, _, _, _, _, _, _, _, rfl, lt_of_cell e0, e0, e1, e2, e3, e4, e5, hR', hn, h4, h5, h6, h7, hck⟩

/-- The kids among the first i foreign keys of table k. -/
def kidsRow (fs : List Frn) (table : Int) (k i : Nat) : List (Nat × Nat) := (List.range i).filterMap fun j => if (fs.getD j default).tab == table then some (k, j) else none
def kidsTo (s : List Tbl) (table : Int) (k : Nat) : List (Nat × Nat) := (List.range k).flatMap fun j => kidsRow (s.getD j default).frn table j (s.getD j default).frn.length
def kidsF (s : List Tbl) (table : Int) : List (Nat × Nat) := kidsTo s table s.length
def frnCount (s : List Tbl) (k : Nat) : Nat := ((List.range k).map fun j => (s.getD j default).frn.length).sum
theorem kidsRow_len (fs : List Frn) (table : Int) (k i : Nat) : (kidsRow fs table k i).length ≤ i := by
  have := List.length_filterMap_le (fun j => if (fs.getD j default).tab == table then some (k, j) else none) (List.range i)
  simpa [kidsRow] using this
theorem kidsRow_succ (fs : List Frn) (table : Int) (k i : Nat) : kidsRow fs table k (i + 1) = kidsRow fs table k i ++ (if (fs.getD i default).tab == table then [(k, i)] else []) := by
  unfold kidsRow
  rw [List.range_succ, List.filterMap_append]
  congr 1
  simp only [List.filterMap_cons, List.filterMap_nil]
  split <;> simp_all
theorem kidsTo_succ (s : List Tbl) (table : Int) (k : Nat) : kidsTo s table (k + 1) = kidsTo s table k ++ kidsRow (s.getD k default).frn table k (s.getD k default).frn.length := by
  unfold kidsTo
  rw [List.range_succ, List.flatMap_append]
  simp
theorem frnCount_succ (s : List Tbl) (k : Nat) : frnCount s (k + 1) = frnCount s k + (s.getD k default).frn.length := by
  unfold frnCount
  rw [List.range_succ]
  simp
theorem kidsTo_len (s : List Tbl) (table : Int) (k : Nat) : (kidsTo s table k).length ≤ frnCount s k := by
  induction k with
  | zero => simp [kidsTo, frnCount]
  | succ k ih =>
    rw [kidsTo_succ, frnCount_succ, List.length_append]
    have := kidsRow_len (s.getD k default).frn table k (s.getD k default).frn.length
    omega
theorem frnCount_le (s : List Tbl) {j k : Nat} (h : j ≤ k) : frnCount s j ≤ frnCount s k := by
  induction k with
  | zero => have : j = 0 := by omega
            subst this; exact Nat.le_refl _
  | succ k ih =>
    by_cases hj : j ≤ k
    · rw [frnCount_succ]; have := ih hj; omega
    · have : j = k + 1 := by omega
      subst this; exact Nat.le_refl _

def pairCells (l : List (Nat × Nat)) : List Value := l.flatMap fun p => [.int .i64 p.1, .int .i64 p.2]
theorem pairCells_len (l : List (Nat × Nat)) : (pairCells l).length = l.length * 2 := by
  induction l with
  | nil => rfl
  | cons a l ih => show (pairCells l).length + 1 + 1 = (l.length + 1) * 2; omega
theorem pairCells_append (a b : List (Nat × Nat)) : pairCells (a ++ b) = pairCells a ++ pairCells b := by simp [pairCells]
theorem pairCells_at (l : List (Nat × Nat)) (i : Nat) (h : i < l.length) : (pairCells l)[i * 2]? = some (.int .i64 l[i].1) ∧ (pairCells l)[i * 2 + 1]? = some (.int .i64 l[i].2) := by
  induction l generalizing i with
  | nil => simp at h
  | cons a l ih =>
    cases i with
    | zero => simp [pairCells]
    | succ i =>
      have := ih i (by simpa using h)
      have e1 : (i + 1) * 2 = i * 2 + 2 := by omega
      have e2 : (i + 1) * 2 + 1 = i * 2 + 1 + 2 := by omega
      rw [e1]
      simpa [pairCells] using this

theorem info48 : (Tryd.prog.info? 48).map (fun i => (i.zero, i.size, i.bytes)) = some (some (.agg #[.int .i64 0, .int .i64 0]), 2, 16) := by kernel_rfl

/-- The list of kids as it grows. -/
structure KidsOwn (B : Nat) (w : World) (v : Value) (l : List (Nat × Nat)) : Prop where
  own : w.ownsRow B 48 2 v l.length (pairCells l)
def pairOk (_ : World) (p : Nat × Nat) (l : List Value) : Prop := l = [.int .i64 p.1, .int .i64 p.2]
theorem KidsOwn.slice {B : Nat} {w : World} {v : Value} {l : List (Nat × Nat)} (h : KidsOwn B w v l) : SliceOf 2 pairOk w v l := by
  rcases h.own.2 with ⟨rfl, hn⟩ | ⟨g, cap, cur, rfl, _, hg, hn, hm, hs, ht⟩
  · have : l = [] := List.length_eq_zero_iff.1 hn
    subst this
    exact SliceOf.nil
  · refine SliceOf.of hn hm (fun i hi => ⟨_, rfl, rfl, fun j hj => ?_⟩)
    have hc := h.own.cellAt (i * 2 + j) (by simp at hj; omega)
    obtain ⟨p0, p1⟩ := pairCells_at l i hi
    match j, hj with
    | 0, _ => simpa [p0] using hc
    | 1, _ => simpa [p1] using hc
theorem KidsOwn.alloc {B : Nat} {w : World} {v : Value} {l : List (Nat × Nat)} (h : KidsOwn B w v l) (o : Obj) : KidsOwn B (w.alloc o) v l := ⟨h.own.alloc o⟩

set_option maxHeartbeats 1000000 in
theorem Kids_any (v : Value) (s : List Tbl) (table : Int) (w : World) (hv : SliceOf 6 tblOk w v s) (hcnt : frnCount s s.length ≤ 1000000) :
    Calls Tryd.prog 18 #[.agg #[v], .int .i64 table] w fun e w' => ∃ u, e = .returned u ∧ SliceOf 2 pairOk w' u (kidsF s table) ∧ Ext w w' := by
  obtain ⟨a, cap, rfl, _, hlen, _⟩ := hv.form
  have HV := hid hv
  clear hv
  obtain ⟨i0, hi, hz0, hz1, hz2⟩ := info_parts info48
  have HI := hid (And.intro hi (And.intro hz0 (And.intro hz1 hz2)))
  clear hi hz0 hz1 hz2
  have HCN := hid hcnt
  clear hcnt
  go_enter Tryd.func18, Tryd.ntmps18
  go_wp2
  have x0 := hid (Ext.alloc w (.cells #[.slice a s.length cap] 26))
  generalize w.alloc (.cells #[.slice a s.length cap] 26) = w0 at *
  go_loopw [5, 13] (fun o i wr => ∃ k : Nat, k ≤ s.length ∧ i = .int .i64 k ∧ Ext w wr ∧ KidsOwn w.heap.size wr o (kidsTo s table k)) (fun _ i _ => s.length - (intOf i).toNat)
  case atStart => exact ⟨0, Nat.zero_le _, rfl, x0.out, ⟨World.ownsRow_nil _ _ _ _⟩⟩
  case round =>
    obtain ⟨k, hk, rfl, hx, hown⟩ := hrel
    by_cases hlt : k < s.length
    · obtain ⟨b, off, ac, cc, au, cu, ak, ck, af, cf, am, cs, rfl, hb, e0, e1, e2, e3, e4, e5, hR, _, _, _, h6, _⟩ := tbl_at2 HV.out hlt
      replace e0 := hx.cell e0
      replace e1 := hx.cell e1
      replace e2 := hx.cell e2
      replace e3 := hx.cell e3
      replace e4 := hx.cell e4
      replace e5 := hx.cell e5
      replace hb := lt_of_cell e0
      have hlenf : s[k].frn.length ≤ 9223372036854775807 := by obtain ⟨_, _, _, _, h, _⟩ := h6.form; exact h
      have HG := hid (getD_at hlt (default : Tbl))
      have H6 := hid h6
      have HO := hid hown
      clear h6 hR hown
      go_wp2
      obtain ⟨wo, rfl⟩ : ∃ wo : World, wo = wr := ⟨_, rfl⟩
      have HW := hid (show Ext wo (wo.alloc (.cells #[.string s[k].name, .slice ac s[k].cols.length cc, .slice au s[k].uniq.length cu, .slice ak s[k].checks ck, .slice af s[k].frn.length cf, .slice am s[k].sums.length cs] 36)) from Ext.alloc _ _)
      have HO1 := hid (HO.out.alloc (.cells #[.string s[k].name, .slice ac s[k].cols.length cc, .slice au s[k].uniq.length cu, .slice ak s[k].checks ck, .slice af s[k].frn.length cf, .slice am s[k].sums.length cs] 36))
      generalize wo.alloc (.cells #[.string s[k].name, .slice ac s[k].cols.length cc, .slice au s[k].uniq.length cu, .slice ak s[k].checks ck, .slice af s[k].frn.length cf, .slice am s[k].sums.length cs] 36) = w1 at *
      clear e0 e1 e2 e3 e4 e5
      go_loopw [5, 21] (fun o i wi => ∃ m : Nat, m ≤ s[k].frn.length ∧ i = .int .i64 m ∧ Below w.heap.size w wi ∧ Ext w wi ∧ KidsOwn w.heap.size wi o (kidsTo s table k ++ kidsRow s[k].frn table k m)) (fun _ i _ => s[k].frn.length - (intOf i).toNat)
      case atStart => exact ⟨0, Nat.zero_le _, rfl, hx.trans HW.out, hx.trans HW.out, by simpa [kidsRow] using HO1.out⟩
      case round =>
        obtain ⟨m, hm, rfl, hy, _, hown⟩ := hrel
        by_cases hml : m < s[k].frn.length
        · obtain ⟨b2, o2, rfl, g0, g1, g2, _⟩ := frn_at (H6.out.ext keeps_frn hy) hml
          have hb2 : b2 < wr.heap.size := lt_of_cell g0
          have HG2 := hid (getD_at hml (default : Frn))
          have HO := hid hown
          clear hown
          by_cases ht : s[k].frn[m].tab = table
          · have ht' : (s[k].frn[m].tab == table) = true := by simpa using ht
            have HT := hid ht'
            clear ht
            have hsz : w.heap.size ≤ wr.heap.size := hy.size
            have HL := hid (show (kidsTo s table k ++ kidsRow s[k].frn table k m).length ≤ 1000000 from by
              have := HCN.out
              have h1 := kidsTo_len s table k
              have h2 := kidsRow_len s[k].frn table k m
              have h3 := frnCount_le s (show k + 1 ≤ s.length by omega)
              rw [frnCount_succ, HG.out] at h3
              rw [List.length_append]
              omega)
            go_wp2_with (first | (at_builtin; go_must (refine wpList_append_own _ rfl _ _ 46 rfl w.heap.size 48 i0 (.agg #[.int .i64 0, .int .i64 0]) 2 16 Tryd.underlying46 HI.out.1 HI.out.2.1 HI.out.2.2.1 HI.out.2.2.2 rfl (by decide) _ _ _ rfl ((HO.out.alloc _).alloc _).own ⟨wr.heap.size + 1, 0, none⟩ 1 1 [.int .i64 k, .int .i64 m] rfl rfl ?c1 ?c2 ?c3 ?c4 ?c5 ?_)))
            case c1 => exact new_cells _ #[.int .i64 k, .int .i64 m] _ _ (by simp)
            case c2 => intro u hu; simp only [List.mem_cons, List.not_mem_nil, or_false] at hu; rcases hu with rfl | rfl <;> rfl
            case c3 => have := HL.out; unfold maxLen; omega
            case c4 => have := HL.out; omega
            case c5 => simp; omega
            intro v' w2 hown2 hgrow _
            have hy2 : Ext w w2 := by
              refine ((Ext.allocR (Ext.allocR hy _) _)).grown hgrow (by simp; omega) (fun q hq => ?_)
              exact (HO.out.own.lt q hq).1
            have HO2 := hid (show KidsOwn w.heap.size w2 v' (kidsTo s table k ++ kidsRow s[k].frn table k (m + 1)) from ⟨by
              rw [kidsRow_succ, HG2.out, HT.out, if_pos rfl, ← List.append_assoc, pairCells_append, List.length_append, List.length_append]
              exact hown2⟩)
            clear hown2 hgrow
            go_wp2
            go_roundw
            case rel => exact ⟨m + 1, by omega, by go_num, hy2, hy2, HO2.out⟩
            case measure => simp [intOf]; omega
          · have ht' : (s[k].frn[m].tab == table) = false := by simpa using ht
            have HT := hid ht'
            clear ht
            go_wp2
            go_roundw
            case rel => exact ⟨m + 1, by omega, by go_num, Ext.allocR hy _, Ext.allocR hy _, by rw [kidsRow_succ, HG2.out, HT.out]; simpa using HO.out.alloc _⟩
            case measure => simp [intOf]; omega
        · go_wp2
          go_roundw
          case rel =>
            have : m = s[k].frn.length := by omega
            subst this
            exact ⟨k + 1, by omega, by go_num, hy, by rw [kidsTo_succ, HG.out]; exact hown⟩
          case measure => simp [intOf]; omega
    · go_wp2
      go_ret
      have : k = s.length := by omega
      subst this
      exact ⟨_, rfl, hown.slice, hx⟩
end Go.Proofs.YtgelmhcbiffghaaDoor
