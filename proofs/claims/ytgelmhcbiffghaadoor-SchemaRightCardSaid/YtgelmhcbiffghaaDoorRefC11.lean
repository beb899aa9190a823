/-
  WHAT IS PROVED HERE: what the document's asks of a schema's parts answer.
-/
import Derived.Test.YtgelmhcbiffghaaDoorRefA11
import Derived.Test.YtgelmhcbiffghaaDoorRefB11
import Derived.Test.YtgelmhcbiffghaaDoorSum11
import Derived.Deep.QuietTactic
import Derived.BigQuiet
import Derived.IntWalk
import Derived.Deep.RegionHeld3
namespace Go.Proofs.YtgelmhcbiffghaaDoor
open Go.RowKit

set_option maxHeartbeats 2000000 in
theorem RefSum (t : Tbl) (l : List Value) (k : Nat) (w : World) (h : tblOk w t l) (hk : k < t.sums.length) :
    Calls Tryd.prog 67 #[.agg l.toArray, .int .i64 k] w fun e w' => e = .returned (.int .i64 (smErr t k)) ∧ Ext w w' := by
  have HT := hid h
  obtain ⟨vc, vu, ak, ck, vf, vs, rfl, hnm, _, hC, hU, hF, hS⟩ := h.out
  obtain ⟨ac, cc, rfl, _, hlc, _⟩ := hC.form
  obtain ⟨au, cu, rfl, _, hlu, _⟩ := hU.form
  obtain ⟨af, cf, rfl, _, hlf, _⟩ := hF.form
  obtain ⟨am, cs, rfl, _, hls, _⟩ := hS.form
  obtain ⟨bf, of, rfl, g0, g1, g2, _⟩ := sm_at hS hk
  have hbf : bf < w.heap.size := lt_of_cell g0
  have HS := hid hS
  have hg := smErr_eq t k _ (getD_at hk default)
  clear h hC hU hF hS
  have hk64 : (k : Int) < 9223372036854775807 := by omega
  generalize hu : t.sums[k] = x at *
  obtain ⟨col, by_, mx⟩ := x
  dsimp only at *
  have Hg := hid hg
  clear hu hg
  have HN := hid (fun c w' (hx : Ext w w') => RefNumber t _ c w' (keeps_tbl _ _ _ _ hx HT.out))
  cases hic : isCol t col
  · have HI := hid hic
    clear hic
    cases hjc : isCol t by_
    all_goals
      have HJ := hid hjc
      clear hjc
      go_enter Tryd.func67, Tryd.ntmps67
      go_wp2_with fail
      refine (HN.out col _ ((Ext.alloc _ _).allocR _)).mono ?_
      rintro e w1 ⟨rfl, hx1⟩
      rw [HI.out]
      have x1 : Ext w w1 := ((Ext.alloc _ _).allocR _).trans hx1
      have TT := hid (show ∀ w', Ext w1 w' → (w'.cell? ⟨w.heap.size, 0, none⟩ = some (.string t.name) ∧ w'.cell? ⟨w.heap.size, 1, none⟩ = some (.slice ac t.cols.length cc) ∧ w'.cell? ⟨w.heap.size, 2, none⟩ = some (.slice au t.uniq.length cu) ∧ w'.cell? ⟨w.heap.size, 3, none⟩ = some (.slice ak t.checks ck) ∧ w'.cell? ⟨w.heap.size, 4, none⟩ = some (.slice af t.frn.length cf) ∧ w'.cell? ⟨w.heap.size, 5, none⟩ = some (.slice (some ⟨bf, of, none⟩) t.sums.length cs) ∧ w'.cell? ⟨w.heap.size + 1, 0, none⟩ = some (.int .i64 col) ∧ w'.cell? ⟨w.heap.size + 1, 1, none⟩ = some (.int .i64 by_) ∧ w'.cell? ⟨w.heap.size + 1, 2, none⟩ = some (.int .i64 mx)) from fun w' h => ⟨h.cell (hx1.cell (by simp [go_sem])), h.cell (hx1.cell (by simp [go_sem])), h.cell (hx1.cell (by simp [go_sem])), h.cell (hx1.cell (by simp [go_sem])), h.cell (hx1.cell (by simp [go_sem])), h.cell (hx1.cell (by simp [go_sem])), h.cell (hx1.cell (by simp [go_sem])), h.cell (hx1.cell (by simp [go_sem])), h.cell (hx1.cell (by simp [go_sem]))⟩)
      obtain ⟨t0, t1, t2, t3, t4, t5, f0, f1, f2⟩ := TT.out w1 (Ext.refl _)
      go_wp2_with fail
      refine (HN.out by_ _ x1).mono ?_
      rintro e w2 ⟨rfl, hx2⟩
      rw [HJ.out]
      have x2 := x1.trans hx2
      clear t0 t1 t2 t3 t4 t5 f0 f1 f2
      obtain ⟨t0, t1, t2, t3, t4, t5, f0, f1, f2⟩ := TT.out w2 hx2
      go_wp2_with fail
      go_ret
      exact ⟨ret_int (by rw [Hg.out, HI.out]; rfl), x2⟩
  have HI := hid hic
  clear hic
  cases hjc : isCol t by_
  · have HJ := hid hjc
    clear hjc
    go_enter Tryd.func67, Tryd.ntmps67
    go_wp2_with fail
    refine (HN.out col _ ((Ext.alloc _ _).allocR _)).mono ?_
    rintro e w1 ⟨rfl, hx1⟩
    rw [HI.out]
    have x1 : Ext w w1 := ((Ext.alloc _ _).allocR _).trans hx1
    have TT := hid (show ∀ w', Ext w1 w' → (w'.cell? ⟨w.heap.size, 0, none⟩ = some (.string t.name) ∧ w'.cell? ⟨w.heap.size, 1, none⟩ = some (.slice ac t.cols.length cc) ∧ w'.cell? ⟨w.heap.size, 2, none⟩ = some (.slice au t.uniq.length cu) ∧ w'.cell? ⟨w.heap.size, 3, none⟩ = some (.slice ak t.checks ck) ∧ w'.cell? ⟨w.heap.size, 4, none⟩ = some (.slice af t.frn.length cf) ∧ w'.cell? ⟨w.heap.size, 5, none⟩ = some (.slice (some ⟨bf, of, none⟩) t.sums.length cs) ∧ w'.cell? ⟨w.heap.size + 1, 0, none⟩ = some (.int .i64 col) ∧ w'.cell? ⟨w.heap.size + 1, 1, none⟩ = some (.int .i64 by_) ∧ w'.cell? ⟨w.heap.size + 1, 2, none⟩ = some (.int .i64 mx)) from fun w' h => ⟨h.cell (hx1.cell (by simp [go_sem])), h.cell (hx1.cell (by simp [go_sem])), h.cell (hx1.cell (by simp [go_sem])), h.cell (hx1.cell (by simp [go_sem])), h.cell (hx1.cell (by simp [go_sem])), h.cell (hx1.cell (by simp [go_sem])), h.cell (hx1.cell (by simp [go_sem])), h.cell (hx1.cell (by simp [go_sem])), h.cell (hx1.cell (by simp [go_sem]))⟩)
    obtain ⟨t0, t1, t2, t3, t4, t5, f0, f1, f2⟩ := TT.out w1 (Ext.refl _)
    go_wp2_with fail
    refine (HN.out by_ _ x1).mono ?_
    rintro e w2 ⟨rfl, hx2⟩
    rw [HJ.out]
    have x2 := x1.trans hx2
    clear t0 t1 t2 t3 t4 t5 f0 f1 f2
    obtain ⟨t0, t1, t2, t3, t4, t5, f0, f1, f2⟩ := TT.out w2 hx2
    go_wp2_with fail
    go_ret
    exact ⟨ret_int (by rw [Hg.out, HI.out, HJ.out]; rfl), x2⟩
  have HJ := hid hjc
  clear hjc
  have HA : Hid (smErr t k = smE false (col == by_ || decide (mx < 0) || decide (1099511627776 < mx)) (!numCol (colAt t col) || !numCol (colAt t by_)) ((t.sums.take k).any (sameS ⟨col, by_, mx⟩))) := by
    unfold Hid
    rw [Hg.out, HI.out, HJ.out]
    rfl
  by_cases hq : col = by_
  · have hq' : (col == by_) = true := by simpa using hq
    have Hq := hid hq
    clear hq
    go_enter Tryd.func67, Tryd.ntmps67
    go_wp2_with fail
    refine (HN.out col _ ((Ext.alloc _ _).allocR _)).mono ?_
    rintro e w1 ⟨rfl, hx1⟩
    rw [HI.out]
    have x1 : Ext w w1 := ((Ext.alloc _ _).allocR _).trans hx1
    have TT := hid (show ∀ w', Ext w1 w' → (w'.cell? ⟨w.heap.size, 0, none⟩ = some (.string t.name) ∧ w'.cell? ⟨w.heap.size, 1, none⟩ = some (.slice ac t.cols.length cc) ∧ w'.cell? ⟨w.heap.size, 2, none⟩ = some (.slice au t.uniq.length cu) ∧ w'.cell? ⟨w.heap.size, 3, none⟩ = some (.slice ak t.checks ck) ∧ w'.cell? ⟨w.heap.size, 4, none⟩ = some (.slice af t.frn.length cf) ∧ w'.cell? ⟨w.heap.size, 5, none⟩ = some (.slice (some ⟨bf, of, none⟩) t.sums.length cs) ∧ w'.cell? ⟨w.heap.size + 1, 0, none⟩ = some (.int .i64 col) ∧ w'.cell? ⟨w.heap.size + 1, 1, none⟩ = some (.int .i64 by_) ∧ w'.cell? ⟨w.heap.size + 1, 2, none⟩ = some (.int .i64 mx)) from fun w' h => ⟨h.cell (hx1.cell (by simp [go_sem])), h.cell (hx1.cell (by simp [go_sem])), h.cell (hx1.cell (by simp [go_sem])), h.cell (hx1.cell (by simp [go_sem])), h.cell (hx1.cell (by simp [go_sem])), h.cell (hx1.cell (by simp [go_sem])), h.cell (hx1.cell (by simp [go_sem])), h.cell (hx1.cell (by simp [go_sem])), h.cell (hx1.cell (by simp [go_sem]))⟩)
    obtain ⟨t0, t1, t2, t3, t4, t5, f0, f1, f2⟩ := TT.out w1 (Ext.refl _)
    go_wp2_with fail
    refine (HN.out by_ _ x1).mono ?_
    rintro e w2 ⟨rfl, hx2⟩
    rw [HJ.out]
    have x2 := x1.trans hx2
    clear t0 t1 t2 t3 t4 t5 f0 f1 f2
    obtain ⟨t0, t1, t2, t3, t4, t5, f0, f1, f2⟩ := TT.out w2 hx2
    go_wp2_with fail
    go_ret
    exact ⟨ret_int (by rw [HA.out]; simp [smE, Hq.out]), x2⟩
  have hq' : (col == by_) = false := by simpa using hq
  by_cases hm : mx < 0
  · have hm' : decide (mx < 0) = true := by simpa using hm
    go_enter Tryd.func67, Tryd.ntmps67
    go_wp2_with fail
    refine (HN.out col _ ((Ext.alloc _ _).allocR _)).mono ?_
    rintro e w1 ⟨rfl, hx1⟩
    rw [HI.out]
    have x1 : Ext w w1 := ((Ext.alloc _ _).allocR _).trans hx1
    have TT := hid (show ∀ w', Ext w1 w' → (w'.cell? ⟨w.heap.size, 0, none⟩ = some (.string t.name) ∧ w'.cell? ⟨w.heap.size, 1, none⟩ = some (.slice ac t.cols.length cc) ∧ w'.cell? ⟨w.heap.size, 2, none⟩ = some (.slice au t.uniq.length cu) ∧ w'.cell? ⟨w.heap.size, 3, none⟩ = some (.slice ak t.checks ck) ∧ w'.cell? ⟨w.heap.size, 4, none⟩ = some (.slice af t.frn.length cf) ∧ w'.cell? ⟨w.heap.size, 5, none⟩ = some (.slice (some ⟨bf, of, none⟩) t.sums.length cs) ∧ w'.cell? ⟨w.heap.size + 1, 0, none⟩ = some (.int .i64 col) ∧ w'.cell? ⟨w.heap.size + 1, 1, none⟩ = some (.int .i64 by_) ∧ w'.cell? ⟨w.heap.size + 1, 2, none⟩ = some (.int .i64 mx)) from fun w' h => ⟨h.cell (hx1.cell (by simp [go_sem])), h.cell (hx1.cell (by simp [go_sem])), h.cell (hx1.cell (by simp [go_sem])), h.cell (hx1.cell (by simp [go_sem])), h.cell (hx1.cell (by simp [go_sem])), h.cell (hx1.cell (by simp [go_sem])), h.cell (hx1.cell (by simp [go_sem])), h.cell (hx1.cell (by simp [go_sem])), h.cell (hx1.cell (by simp [go_sem]))⟩)
    obtain ⟨t0, t1, t2, t3, t4, t5, f0, f1, f2⟩ := TT.out w1 (Ext.refl _)
    go_wp2_with fail
    refine (HN.out by_ _ x1).mono ?_
    rintro e w2 ⟨rfl, hx2⟩
    rw [HJ.out]
    have x2 := x1.trans hx2
    clear t0 t1 t2 t3 t4 t5 f0 f1 f2
    obtain ⟨t0, t1, t2, t3, t4, t5, f0, f1, f2⟩ := TT.out w2 hx2
    go_wp2_with fail
    go_ret
    exact ⟨ret_int (by rw [HA.out]; simp [smE, hm]), x2⟩
  have hm' : decide (mx < 0) = false := by simpa using hm
  by_cases hn : 1099511627776 < mx
  · have hn' : decide (1099511627776 < mx) = true := by simpa using hn
    go_enter Tryd.func67, Tryd.ntmps67
    go_wp2_with fail
    refine (HN.out col _ ((Ext.alloc _ _).allocR _)).mono ?_
    rintro e w1 ⟨rfl, hx1⟩
    rw [HI.out]
    have x1 : Ext w w1 := ((Ext.alloc _ _).allocR _).trans hx1
    have TT := hid (show ∀ w', Ext w1 w' → (w'.cell? ⟨w.heap.size, 0, none⟩ = some (.string t.name) ∧ w'.cell? ⟨w.heap.size, 1, none⟩ = some (.slice ac t.cols.length cc) ∧ w'.cell? ⟨w.heap.size, 2, none⟩ = some (.slice au t.uniq.length cu) ∧ w'.cell? ⟨w.heap.size, 3, none⟩ = some (.slice ak t.checks ck) ∧ w'.cell? ⟨w.heap.size, 4, none⟩ = some (.slice af t.frn.length cf) ∧ w'.cell? ⟨w.heap.size, 5, none⟩ = some (.slice (some ⟨bf, of, none⟩) t.sums.length cs) ∧ w'.cell? ⟨w.heap.size + 1, 0, none⟩ = some (.int .i64 col) ∧ w'.cell? ⟨w.heap.size + 1, 1, none⟩ = some (.int .i64 by_) ∧ w'.cell? ⟨w.heap.size + 1, 2, none⟩ = some (.int .i64 mx)) from fun w' h => ⟨h.cell (hx1.cell (by simp [go_sem])), h.cell (hx1.cell (by simp [go_sem])), h.cell (hx1.cell (by simp [go_sem])), h.cell (hx1.cell (by simp [go_sem])), h.cell (hx1.cell (by simp [go_sem])), h.cell (hx1.cell (by simp [go_sem])), h.cell (hx1.cell (by simp [go_sem])), h.cell (hx1.cell (by simp [go_sem])), h.cell (hx1.cell (by simp [go_sem]))⟩)
    obtain ⟨t0, t1, t2, t3, t4, t5, f0, f1, f2⟩ := TT.out w1 (Ext.refl _)
    go_wp2_with fail
    refine (HN.out by_ _ x1).mono ?_
    rintro e w2 ⟨rfl, hx2⟩
    rw [HJ.out]
    have x2 := x1.trans hx2
    clear t0 t1 t2 t3 t4 t5 f0 f1 f2
    obtain ⟨t0, t1, t2, t3, t4, t5, f0, f1, f2⟩ := TT.out w2 hx2
    go_wp2_with fail
    go_ret
    exact ⟨ret_int (by rw [HA.out]; simp [smE, hn]), x2⟩
  have hn' : decide (1099511627776 < mx) = false := by simpa using hn
  cases hnu : numCol (colAt t col)
  · have Hnu := hid hnu
    clear hnu
    go_enter Tryd.func67, Tryd.ntmps67
    go_wp2_with fail
    refine (HN.out col _ ((Ext.alloc _ _).allocR _)).mono ?_
    rintro e w1 ⟨rfl, hx1⟩
    rw [HI.out]
    have x1 : Ext w w1 := ((Ext.alloc _ _).allocR _).trans hx1
    have TT := hid (show ∀ w', Ext w1 w' → (w'.cell? ⟨w.heap.size, 0, none⟩ = some (.string t.name) ∧ w'.cell? ⟨w.heap.size, 1, none⟩ = some (.slice ac t.cols.length cc) ∧ w'.cell? ⟨w.heap.size, 2, none⟩ = some (.slice au t.uniq.length cu) ∧ w'.cell? ⟨w.heap.size, 3, none⟩ = some (.slice ak t.checks ck) ∧ w'.cell? ⟨w.heap.size, 4, none⟩ = some (.slice af t.frn.length cf) ∧ w'.cell? ⟨w.heap.size, 5, none⟩ = some (.slice (some ⟨bf, of, none⟩) t.sums.length cs) ∧ w'.cell? ⟨w.heap.size + 1, 0, none⟩ = some (.int .i64 col) ∧ w'.cell? ⟨w.heap.size + 1, 1, none⟩ = some (.int .i64 by_) ∧ w'.cell? ⟨w.heap.size + 1, 2, none⟩ = some (.int .i64 mx)) from fun w' h => ⟨h.cell (hx1.cell (by simp [go_sem])), h.cell (hx1.cell (by simp [go_sem])), h.cell (hx1.cell (by simp [go_sem])), h.cell (hx1.cell (by simp [go_sem])), h.cell (hx1.cell (by simp [go_sem])), h.cell (hx1.cell (by simp [go_sem])), h.cell (hx1.cell (by simp [go_sem])), h.cell (hx1.cell (by simp [go_sem])), h.cell (hx1.cell (by simp [go_sem]))⟩)
    obtain ⟨t0, t1, t2, t3, t4, t5, f0, f1, f2⟩ := TT.out w1 (Ext.refl _)
    go_wp2_with fail
    refine (HN.out by_ _ x1).mono ?_
    rintro e w2 ⟨rfl, hx2⟩
    rw [HJ.out]
    have x2 := x1.trans hx2
    clear t0 t1 t2 t3 t4 t5 f0 f1 f2
    obtain ⟨t0, t1, t2, t3, t4, t5, f0, f1, f2⟩ := TT.out w2 hx2
    rw [Hnu.out]
    go_wp2_with fail
    go_ret
    exact ⟨ret_int (by rw [HA.out]; simp [smE, hq, hm, hn, Hnu.out]), x2⟩
  have Hnu := hid hnu
  clear hnu
  cases hnb : numCol (colAt t by_)
  · have Hnb := hid hnb
    clear hnb
    go_enter Tryd.func67, Tryd.ntmps67
    go_wp2_with fail
    refine (HN.out col _ ((Ext.alloc _ _).allocR _)).mono ?_
    rintro e w1 ⟨rfl, hx1⟩
    rw [HI.out]
    have x1 : Ext w w1 := ((Ext.alloc _ _).allocR _).trans hx1
    have TT := hid (show ∀ w', Ext w1 w' → (w'.cell? ⟨w.heap.size, 0, none⟩ = some (.string t.name) ∧ w'.cell? ⟨w.heap.size, 1, none⟩ = some (.slice ac t.cols.length cc) ∧ w'.cell? ⟨w.heap.size, 2, none⟩ = some (.slice au t.uniq.length cu) ∧ w'.cell? ⟨w.heap.size, 3, none⟩ = some (.slice ak t.checks ck) ∧ w'.cell? ⟨w.heap.size, 4, none⟩ = some (.slice af t.frn.length cf) ∧ w'.cell? ⟨w.heap.size, 5, none⟩ = some (.slice (some ⟨bf, of, none⟩) t.sums.length cs) ∧ w'.cell? ⟨w.heap.size + 1, 0, none⟩ = some (.int .i64 col) ∧ w'.cell? ⟨w.heap.size + 1, 1, none⟩ = some (.int .i64 by_) ∧ w'.cell? ⟨w.heap.size + 1, 2, none⟩ = some (.int .i64 mx)) from fun w' h => ⟨h.cell (hx1.cell (by simp [go_sem])), h.cell (hx1.cell (by simp [go_sem])), h.cell (hx1.cell (by simp [go_sem])), h.cell (hx1.cell (by simp [go_sem])), h.cell (hx1.cell (by simp [go_sem])), h.cell (hx1.cell (by simp [go_sem])), h.cell (hx1.cell (by simp [go_sem])), h.cell (hx1.cell (by simp [go_sem])), h.cell (hx1.cell (by simp [go_sem]))⟩)
    obtain ⟨t0, t1, t2, t3, t4, t5, f0, f1, f2⟩ := TT.out w1 (Ext.refl _)
    go_wp2_with fail
    refine (HN.out by_ _ x1).mono ?_
    rintro e w2 ⟨rfl, hx2⟩
    rw [HJ.out]
    have x2 := x1.trans hx2
    clear t0 t1 t2 t3 t4 t5 f0 f1 f2
    obtain ⟨t0, t1, t2, t3, t4, t5, f0, f1, f2⟩ := TT.out w2 hx2
    rw [Hnu.out, Hnb.out]
    go_wp2_with fail
    go_ret
    exact ⟨ret_int (by rw [HA.out]; simp [smE, hq, hm, hn, Hnu.out, Hnb.out]), x2⟩
  have Hnb := hid hnb
  clear hnb
  go_enter Tryd.func67, Tryd.ntmps67
  go_wp2_with fail
  refine (HN.out col _ ((Ext.alloc _ _).allocR _)).mono ?_
  rintro e w1 ⟨rfl, hx1⟩
  rw [HI.out]
  have x1 : Ext w w1 := ((Ext.alloc _ _).allocR _).trans hx1
  have TT := hid (show ∀ w', Ext w1 w' → (w'.cell? ⟨w.heap.size, 0, none⟩ = some (.string t.name) ∧ w'.cell? ⟨w.heap.size, 1, none⟩ = some (.slice ac t.cols.length cc) ∧ w'.cell? ⟨w.heap.size, 2, none⟩ = some (.slice au t.uniq.length cu) ∧ w'.cell? ⟨w.heap.size, 3, none⟩ = some (.slice ak t.checks ck) ∧ w'.cell? ⟨w.heap.size, 4, none⟩ = some (.slice af t.frn.length cf) ∧ w'.cell? ⟨w.heap.size, 5, none⟩ = some (.slice (some ⟨bf, of, none⟩) t.sums.length cs) ∧ w'.cell? ⟨w.heap.size + 1, 0, none⟩ = some (.int .i64 col) ∧ w'.cell? ⟨w.heap.size + 1, 1, none⟩ = some (.int .i64 by_) ∧ w'.cell? ⟨w.heap.size + 1, 2, none⟩ = some (.int .i64 mx)) from fun w' h => ⟨h.cell (hx1.cell (by simp [go_sem])), h.cell (hx1.cell (by simp [go_sem])), h.cell (hx1.cell (by simp [go_sem])), h.cell (hx1.cell (by simp [go_sem])), h.cell (hx1.cell (by simp [go_sem])), h.cell (hx1.cell (by simp [go_sem])), h.cell (hx1.cell (by simp [go_sem])), h.cell (hx1.cell (by simp [go_sem])), h.cell (hx1.cell (by simp [go_sem]))⟩)
  obtain ⟨t0, t1, t2, t3, t4, t5, f0, f1, f2⟩ := TT.out w1 (Ext.refl _)
  go_wp2_with fail
  refine (HN.out by_ _ x1).mono ?_
  rintro e w2 ⟨rfl, hx2⟩
  rw [HJ.out]
  have x2 := x1.trans hx2
  clear t0 t1 t2 t3 t4 t5 f0 f1 f2
  obtain ⟨t0, t1, t2, t3, t4, t5, f0, f1, f2⟩ := TT.out w2 hx2
  rw [Hnu.out, Hnb.out]
  go_wp2_with fail
  clear t0 t1 t2 t3 t4 t5 f0 f1 f2 g0 g1 g2
  go_loopw [10] (fun i wr => ∃ m : Nat, m ≤ k ∧ i = .int .i64 m ∧ Ext w2 wr ∧ Hid (∀ j (hj : j < t.sums.length), j < m → sameS ⟨col, by_, mx⟩ t.sums[j] = false)) (fun i _ => k - (intOf i).toNat)
  case atStart => exact ⟨0, Nat.zero_le _, rfl, Ext.refl _, fun j _ h => absurd h (Nat.not_lt_zero _)⟩
  case round =>
    obtain ⟨m, hmk, rfl, hx, hp⟩ := hrel
    by_cases hlt : m < k
    · obtain ⟨_, _, h0, g0, g1, _⟩ := sm_at (HS.out.ext keeps_sm (x2.trans hx)) (show m < t.sums.length by omega)
      cases h0
      obtain ⟨t0, t1, t2, t3, t4, t5, f0, f1, f2⟩ := TT.out wr (hx2.trans hx)
      have m0 : (m : Int) < (t.sums.length : Int) := by omega
      clear t0 t1 t2 t3 t4 f2
      cases hs1 : (t.sums[m].col == col)
      · have HS1 := hid hs1
        go_wp2_with fail
        go_quiet (fail)
        go_wp2_with fail
        go_roundw
        case rel => exact ⟨m + 1, by omega, by go_num, hx.drewNR _, fun j hj hjm => by
          rcases Nat.lt_succ_iff_lt_or_eq.1 hjm with h | rfl
          · exact hp.out j hj h
          · simp [sameS, HS1.out]⟩
        case measure => simp [intOf]; omega
      · have HS1 := hid hs1
        cases hs2 : (t.sums[m].by_ == by_)
        · have HS2 := hid hs2
          go_wp2_with fail
          go_quiet (fail)
          go_wp2_with fail
          go_roundw
          case rel => exact ⟨m + 1, by omega, by go_num, hx.drewNR _, fun j hj hjm => by
            rcases Nat.lt_succ_iff_lt_or_eq.1 hjm with h | rfl
            · exact hp.out j hj h
            · simp [sameS, HS2.out]⟩
          case measure => simp [intOf]; omega
        · have HS2 := hid hs2
          go_wp2_with fail
          go_quiet (fail)
          go_wp2_with fail
          go_ret
          exact ⟨ret_int (by rw [HA.out, any_take_true (p := sameS ⟨col, by_, mx⟩) (show m < t.sums.length by omega) hlt (by simp [sameS, HS1.out, HS2.out])]; simp [smE, hq, hm, hn, Hnu.out, Hnb.out]), (x2.trans hx).drewNR _⟩
    · go_wp2_with fail
      go_ret
      exact ⟨ret_int (by rw [HA.out, any_take (by omega) (fun j hj hjk => hp.out j hj (by omega))]; simp [smE, hq, hm, hn, Hnu.out, Hnb.out]), x2.trans hx⟩
end Go.Proofs.YtgelmhcbiffghaaDoor
