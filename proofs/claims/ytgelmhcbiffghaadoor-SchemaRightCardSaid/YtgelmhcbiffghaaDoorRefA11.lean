/-
  WHAT IS PROVED HERE: what the document's asks of a schema's parts answer.
-/
import Derived.Test.YtgelmhcbiffghaaDoorUnq11
import Derived.Test.YtgelmhcbiffghaaDoorFrn11
import Derived.Deep.QuietTactic
import Derived.BigQuiet
import Derived.IntWalk
import Derived.Deep.RegionHeld3
namespace Go.Proofs.YtgelmhcbiffghaaDoor
open Go.RowKit

theorem ret_bools {a b c d : Bool} (h : a = c) (k : b = d) : Ending.returned (.tuple #[.bool a, .bool b]) = .returned (.tuple #[.bool c, .bool d]) := by rw [h, k]
set_option maxHeartbeats 800000 in
theorem RefNumber (t : Tbl) (l : List Value) (col : Int) (w : World) (h : tblOk w t l) :
    Calls Tryd.prog 76 #[.agg l.toArray, .int .i64 col] w fun e w' => e = .returned (.tuple #[.bool (isCol t col), .bool (isCol t col && numCol (colAt t col))]) ∧ Ext w w' := by
  obtain ⟨vc, vu, ak, ck, vf, vs, rfl, hnm, _, hC, hU, hF, hS⟩ := h.out
  obtain ⟨ac, cc, rfl, _, hlc, _⟩ := hC.form
  obtain ⟨au, cu, rfl, _, hlu, _⟩ := hU.form
  obtain ⟨af, cf, rfl, _, hlf, _⟩ := hF.form
  obtain ⟨am, cs, rfl, _, hls, _⟩ := hS.form
  have HC := hid hC
  clear h hC hU hF hS
  by_cases h1 : col < 1
  · have h1' : decide (col < 1) = true := by simpa using h1
    have HI : Hid (isCol t col = false) := by unfold Hid isCol; simp; omega
    go_enter Tryd.func76, Tryd.ntmps76
    go_wp2_with fail
    go_ret2
    exact ⟨ret_bools (by rw [HI.out]) (by rw [HI.out]; rfl), Ext.alloc _ _⟩
  have h1' : decide (col < 1) = false := by simpa using h1
  by_cases h2 : (t.cols.length : Int) ≤ col
  · have h2' : decide ((t.cols.length : Int) ≤ col) = true := by simpa using h2
    have HI : Hid (isCol t col = false) := by unfold Hid isCol; simp; omega
    go_enter Tryd.func76, Tryd.ntmps76
    go_wp2_with fail
    go_ret2
    exact ⟨ret_bools (by rw [HI.out]) (by rw [HI.out]; rfl), Ext.alloc _ _⟩
  have h2' : decide ((t.cols.length : Int) ≤ col) = false := by simpa using h2
  have HI : Hid (isCol t col = true) := by unfold Hid isCol; simp; omega
  obtain ⟨b1, b2, b3, b4⟩ := isCol_bd HI.out
  obtain ⟨bc, oc, rfl, c0, c1, c2, c3, _⟩ := col_at HC.out b3
  have hbc : bc < w.heap.size := lt_of_cell c0
  have HA := hid (colAt_at b3)
  have c4 : 0 ≤ col := by omega
  clear b4
  cases hk : (t.cols[col.toNat].kind == 0)
  all_goals
    have HK := hid hk
    go_enter Tryd.func76, Tryd.ntmps76
    go_wp2_with fail
    go_quiet (fail)
    go_wp2_with fail
    go_ret2
    exact ⟨ret_bools (by rw [HI.out]) (by rw [HI.out, HA.out]; unfold numCol; rw [HK.out]; rfl), (Ext.alloc _ _).drewNR _⟩

set_option maxHeartbeats 1000000 in
theorem RefUnique (t : Tbl) (l : List Value) (k : Nat) (w : World) (h : tblOk w t l) (hk : k < t.uniq.length) :
    Calls Tryd.prog 65 #[.agg l.toArray, .int .i64 k] w fun e w' => e = .returned (.int .i64 (uniqErr t k)) ∧ Ext w w' := by
  have HT := hid h
  obtain ⟨vc, vu, ak, ck, vf, vs, rfl, hnm, _, hC, hU, hF, hS⟩ := h.out
  obtain ⟨ac, cc, rfl, _, hlc, _⟩ := hC.form
  obtain ⟨au, cu, rfl, _, hlu, _⟩ := hU.form
  obtain ⟨af, cf, rfl, _, hlf, _⟩ := hF.form
  obtain ⟨am, cs, rfl, _, hls, _⟩ := hS.form
  obtain ⟨bu, ou, rfl, g0, hi⟩ := int_at hU hk
  have hbu : bu < w.heap.size := lt_of_cell g0
  have HU := hid hU
  have hg := hid (getD_at hk 0)
  clear h hC hU hF hS
  have HN := hid (fun w' (hx : Ext w w') => RefNumber t _ t.uniq[k] w' (keeps_tbl _ _ _ _ hx HT.out))
  have x1 := Ext.alloc w (.cells #[.string t.name, .slice ac t.cols.length cc, .slice (some ⟨bu, ou, none⟩) t.uniq.length cu, .slice ak t.checks ck, .slice af t.frn.length cf, .slice am t.sums.length cs] 36)
  have TF := hid (show ∀ w', Ext (w.alloc (.cells #[.string t.name, .slice ac t.cols.length cc, .slice (some ⟨bu, ou, none⟩) t.uniq.length cu, .slice ak t.checks ck, .slice af t.frn.length cf, .slice am t.sums.length cs] 36)) w' → (w'.cell? ⟨w.heap.size, 0, none⟩ = some (.string t.name) ∧ w'.cell? ⟨w.heap.size, 1, none⟩ = some (.slice ac t.cols.length cc) ∧ w'.cell? ⟨w.heap.size, 2, none⟩ = some (.slice (some ⟨bu, ou, none⟩) t.uniq.length cu) ∧ w'.cell? ⟨w.heap.size, 3, none⟩ = some (.slice ak t.checks ck) ∧ w'.cell? ⟨w.heap.size, 4, none⟩ = some (.slice af t.frn.length cf) ∧ w'.cell? ⟨w.heap.size, 5, none⟩ = some (.slice am t.sums.length cs)) from fun w' h => ⟨h.cell (by simp [go_sem]), h.cell (by simp [go_sem]), h.cell (by simp [go_sem]), h.cell (by simp [go_sem]), h.cell (by simp [go_sem]), h.cell (by simp [go_sem])⟩)
  have hk64 : (k : Int) < 9223372036854775807 := by omega
  generalize hu : t.uniq[k] = u at *
  have Hu := hid hu
  clear hu
  cases hic : isCol t u
  all_goals
    have HI := hid hic
    clear hic
    go_enter Tryd.func65, Tryd.ntmps65
    go_wp2_with fail
    obtain ⟨t0, t1, t2, t3, t4, t5⟩ := TF.out _ (Ext.refl _)
    replace g0 := x1.cell g0
    generalize w.alloc (.cells #[.string t.name, .slice ac t.cols.length cc, .slice (some ⟨bu, ou, none⟩) t.uniq.length cu, .slice ak t.checks ck, .slice af t.frn.length cf, .slice am t.sums.length cs] 36) = w1 at *
    go_region_held3 (fun w' => w'.cell? ⟨w.heap.size, 0, none⟩ = some (.string t.name) ∧ w'.cell? ⟨w.heap.size, 1, none⟩ = some (.slice ac t.cols.length cc) ∧ w'.cell? ⟨w.heap.size, 2, none⟩ = some (.slice (some ⟨bu, ou, none⟩) t.uniq.length cu) ∧ w'.cell? ⟨w.heap.size, 3, none⟩ = some (.slice ak t.checks ck) ∧ w'.cell? ⟨w.heap.size, 4, none⟩ = some (.slice af t.frn.length cf) ∧ w'.cell? ⟨w.heap.size, 5, none⟩ = some (.slice am t.sums.length cs) ∧ w'.cell? ⟨bu, ou + k, none⟩ = some (.int .i64 u)) (first | go_keep | exact ⟨hx2.cell t0, hx2.cell t1, hx2.cell t2, hx2.cell t3, hx2.cell t4, hx2.cell t5, hx2.cell g0⟩) (first | (go_at_call 76; refine (HN.out _ ?_).mono ?_; exact x1.drewR; rintro e w' ⟨rfl, hx2⟩))
    rw [HI.out]
  · go_wp2_with fail
    go_ret
    exact ⟨ret_int (by simp only [uniqErr, hg.out, HI.out]; rfl), x1.drewR.trans hx2⟩
  · have y2 := (Ext.drew w1).trans hx2
    replace t2 := y2.cell t2
    replace g0 := y2.cell g0
    by_cases hk0 : k < 1
    · have k0 : decide (0 < (k : Int)) = false := by simp; omega
      have k0' : decide (0 < k) = false := by simp; omega
      cases hnu : numCol (colAt t u)
      all_goals
        have Hnu := hid hnu
        clear hnu
        go_wp2_with fail
        go_quiet (fail)
        go_wp2_with fail
        go_ret
        exact ⟨ret_int (by simp only [uniqErr, hg.out, HI.out, Hnu.out, show ¬ 0 < k by omega]; rfl), (x1.drewR.trans hx2).drewNR _⟩
    · obtain ⟨_, _, h0, p0, _⟩ := int_at HU.out (show k - 1 < t.uniq.length by omega)
      cases h0
      have Hp := hid (getD_at (show k - 1 < t.uniq.length by omega) 0)
      generalize t.uniq[k - 1] = p at *
      replace p0 := (x1.trans y2).cell p0
      have k0 : decide (0 < (k : Int)) = true := by simp; omega
      have k0' : decide (0 < k) = true := by simp; omega
      have k1 : 0 ≤ (k : Int) - 1 := by omega
      have k3 : IntKind.i64.wrap ((k : Int) - 1) = (k : Int) - 1 := IntWalk.i64_in _ (by omega)
      have k4 : 1 ≤ (k : Int) := by omega
      have k5 : (k : Int) - 1 < (t.uniq.length : Int) := by omega
      have k2 : ((k : Int) - 1).toNat = k - 1 := by omega
      by_cases hup : u ≤ p
      · have hup' : decide (u ≤ p) = true := by simpa using hup
        go_wp2_with fail
        go_quiet (fail)
        go_wp2_with fail
        go_ret
        exact ⟨ret_int (by simp only [uniqErr, hg.out, Hp.out, HI.out, hup', show 0 < k by omega]; rfl), (x1.drewR.trans hx2).drewNR _⟩
      · have hup' : decide (u ≤ p) = false := by simpa using hup
        cases hnu : numCol (colAt t u)
        all_goals
          have Hnu := hid hnu
          clear hnu
          go_wp2_with fail
          go_quiet (fail)
          go_wp2_with fail
          go_ret
          exact ⟨ret_int (by simp only [uniqErr, hg.out, Hp.out, HI.out, hup', Hnu.out, show 0 < k by omega]; rfl), (x1.drewR.trans hx2).drewNR _⟩

set_option maxHeartbeats 2000000 in
theorem RefForeign (t : Tbl) (l : List Value) (sa : Option Addr) (n scap k : Nat) (w : World) (h : tblOk w t l) (hk : k < t.frn.length) :
    Calls Tryd.prog 66 #[.agg #[.slice sa n scap], .agg l.toArray, .int .i64 k] w fun e w' => e = .returned (.int .i64 (frnErr n t k)) ∧ Ext w w' := by
  have HT := hid h
  obtain ⟨vc, vu, ak, ck, vf, vs, rfl, hnm, _, hC, hU, hF, hS⟩ := h.out
  obtain ⟨ac, cc, rfl, _, hlc, _⟩ := hC.form
  obtain ⟨au, cu, rfl, _, hlu, _⟩ := hU.form
  obtain ⟨af, cf, rfl, _, hlf, _⟩ := hF.form
  obtain ⟨am, cs, rfl, _, hls, _⟩ := hS.form
  obtain ⟨bf, of, rfl, g0, g1, g2, _⟩ := frn_at hF hk
  have hbf : bf < w.heap.size := lt_of_cell g0
  have HF := hid hF
  have HC := hid hC
  have hg := frnErr_eq n t k _ (getD_at hk default)
  clear h hC hU hF hS
  have hk64 : (k : Int) < 9223372036854775807 := by omega
  generalize hu : t.frn[k] = fr at *
  obtain ⟨col, tab, act⟩ := fr
  dsimp only at *
  have Hg := hid hg
  clear hu hg
  have HN := hid (fun w' (hx : Ext w w') => RefNumber t _ col w' (keeps_tbl _ _ _ _ hx HT.out))
  cases hic : isCol t col
  · have HI := hid hic
    clear hic
    go_enter Tryd.func66, Tryd.ntmps66
    go_wp2_with fail
    refine (HN.out _ ((Ext.alloc _ _).allocR _ |>.allocR _)).mono ?_
    rintro e w1 ⟨rfl, hx1⟩
    rw [HI.out]
    have x1 : Ext w w1 := (((Ext.alloc _ _).allocR _).allocR _).trans hx1
    have s0 : w1.cell? ⟨w.heap.size, 0, none⟩ = some (.slice sa n scap) := hx1.cell (by simp [go_sem])
    have t1 : w1.cell? ⟨w.heap.size + 1, 1, none⟩ = some (.slice ac t.cols.length cc) := hx1.cell (by simp [go_sem])
    have t4 : w1.cell? ⟨w.heap.size + 1, 4, none⟩ = some (.slice (some ⟨bf, of, none⟩) t.frn.length cf) := hx1.cell (by simp [go_sem])
    have f0 : w1.cell? ⟨w.heap.size + 1 + 1, 0, none⟩ = some (.int .i64 col) := hx1.cell (by simp [go_sem])
    have f1 : w1.cell? ⟨w.heap.size + 1 + 1, 1, none⟩ = some (.int .i64 tab) := hx1.cell (by simp [go_sem])
    have f2 : w1.cell? ⟨w.heap.size + 1 + 1, 2, none⟩ = some (.int .i64 act) := hx1.cell (by simp [go_sem])
    go_wp2_with fail
    go_ret
    exact ⟨ret_int (by rw [Hg.out, HI.out]; rfl), x1⟩
  have HI := hid hic
  obtain ⟨b1, b2, b3, b4⟩ := isCol_bd hic
  obtain ⟨bc, oc, rfl, c0, c1, c2, c3, _⟩ := col_at HC.out b3
  have hbc : bc < w.heap.size := lt_of_cell c0
  have HCA := hid (colAt_at b3)
  clear hic b4 c0 c1 c2
  by_cases ht0 : tab < 0
  · have ht0' : decide (tab < 0) = true := by simpa using ht0
    go_enter Tryd.func66, Tryd.ntmps66
    go_wp2_with fail
    refine (HN.out _ ((Ext.alloc _ _).allocR _ |>.allocR _)).mono ?_
    rintro e w1 ⟨rfl, hx1⟩
    rw [HI.out]
    have x1 : Ext w w1 := (((Ext.alloc _ _).allocR _).allocR _).trans hx1
    have s0 : w1.cell? ⟨w.heap.size, 0, none⟩ = some (.slice sa n scap) := hx1.cell (by simp [go_sem])
    have t1 : w1.cell? ⟨w.heap.size + 1, 1, none⟩ = some (.slice (some ⟨bc, oc, none⟩) t.cols.length cc) := hx1.cell (by simp [go_sem])
    have t4 : w1.cell? ⟨w.heap.size + 1, 4, none⟩ = some (.slice (some ⟨bf, of, none⟩) t.frn.length cf) := hx1.cell (by simp [go_sem])
    have f0 : w1.cell? ⟨w.heap.size + 1 + 1, 0, none⟩ = some (.int .i64 col) := hx1.cell (by simp [go_sem])
    have f1 : w1.cell? ⟨w.heap.size + 1 + 1, 1, none⟩ = some (.int .i64 tab) := hx1.cell (by simp [go_sem])
    have f2 : w1.cell? ⟨w.heap.size + 1 + 1, 2, none⟩ = some (.int .i64 act) := hx1.cell (by simp [go_sem])
    go_wp2_with fail
    go_ret
    exact ⟨ret_int (by rw [Hg.out]; simp [frnE, ht0]), x1⟩
  have ht0' : decide (tab < 0) = false := by simpa using ht0
  by_cases ht1 : (n : Int) ≤ tab
  · have ht1' : decide ((n : Int) ≤ tab) = true := by simpa using ht1
    go_enter Tryd.func66, Tryd.ntmps66
    go_wp2_with fail
    refine (HN.out _ ((Ext.alloc _ _).allocR _ |>.allocR _)).mono ?_
    rintro e w1 ⟨rfl, hx1⟩
    rw [HI.out]
    have x1 : Ext w w1 := (((Ext.alloc _ _).allocR _).allocR _).trans hx1
    have s0 : w1.cell? ⟨w.heap.size, 0, none⟩ = some (.slice sa n scap) := hx1.cell (by simp [go_sem])
    have t1 : w1.cell? ⟨w.heap.size + 1, 1, none⟩ = some (.slice (some ⟨bc, oc, none⟩) t.cols.length cc) := hx1.cell (by simp [go_sem])
    have t4 : w1.cell? ⟨w.heap.size + 1, 4, none⟩ = some (.slice (some ⟨bf, of, none⟩) t.frn.length cf) := hx1.cell (by simp [go_sem])
    have f0 : w1.cell? ⟨w.heap.size + 1 + 1, 0, none⟩ = some (.int .i64 col) := hx1.cell (by simp [go_sem])
    have f1 : w1.cell? ⟨w.heap.size + 1 + 1, 1, none⟩ = some (.int .i64 tab) := hx1.cell (by simp [go_sem])
    have f2 : w1.cell? ⟨w.heap.size + 1 + 1, 2, none⟩ = some (.int .i64 act) := hx1.cell (by simp [go_sem])
    go_wp2_with fail
    go_ret
    exact ⟨ret_int (by rw [Hg.out]; simp [frnE, ht1]), x1⟩
  have ht1' : decide ((n : Int) ≤ tab) = false := by simpa using ht1
  have key : ∀ q : Bool, q = (decide (0 < k) && decide (col ≤ (t.frn.getD (k - 1) default).col)) → Hid (frnErr n t k = frnE false (q || decide (act < 0) || decide (2 < act)) (!numCol (colAt t col) || (act == 2 && !(colAt t col).null))) := fun q hq => by
    unfold Hid
    rw [Hg.out, HI.out, ht0', ht1', hq]
    rfl
  by_cases hk0 : k < 1
  · have HQ := key false (by simp; omega)
    have k0 : decide (0 < (k : Int)) = false := by simp; omega
    have k0' : decide (0 < k) = false := by simp; omega
    clear key
    by_cases ha : act < 0
    · have ha' : decide (act < 0) = true := by simpa using ha
      go_enter Tryd.func66, Tryd.ntmps66
      go_wp2_with fail
      refine (HN.out _ ((Ext.alloc _ _).allocR _ |>.allocR _)).mono ?_
      rintro e w1 ⟨rfl, hx1⟩
      rw [HI.out]
      have x1 : Ext w w1 := (((Ext.alloc _ _).allocR _).allocR _).trans hx1
      have s0 : w1.cell? ⟨w.heap.size, 0, none⟩ = some (.slice sa n scap) := hx1.cell (by simp [go_sem])
      have t1 : w1.cell? ⟨w.heap.size + 1, 1, none⟩ = some (.slice (some ⟨bc, oc, none⟩) t.cols.length cc) := hx1.cell (by simp [go_sem])
      have t4 : w1.cell? ⟨w.heap.size + 1, 4, none⟩ = some (.slice (some ⟨bf, of, none⟩) t.frn.length cf) := hx1.cell (by simp [go_sem])
      have f0 : w1.cell? ⟨w.heap.size + 1 + 1, 0, none⟩ = some (.int .i64 col) := hx1.cell (by simp [go_sem])
      have f1 : w1.cell? ⟨w.heap.size + 1 + 1, 1, none⟩ = some (.int .i64 tab) := hx1.cell (by simp [go_sem])
      have f2 : w1.cell? ⟨w.heap.size + 1 + 1, 2, none⟩ = some (.int .i64 act) := hx1.cell (by simp [go_sem])
      go_wp2_with fail
      go_quiet (fail)
      go_wp2_with fail
      go_ret
      exact ⟨ret_int (by rw [HQ.out]; simp [frnE, ha]), x1.drewNR _⟩
    have ha' : decide (act < 0) = false := by simpa using ha
    by_cases ha2 : 2 < act
    · have ha2' : decide (2 < act) = true := by simpa using ha2
      go_enter Tryd.func66, Tryd.ntmps66
      go_wp2_with fail
      refine (HN.out _ ((Ext.alloc _ _).allocR _ |>.allocR _)).mono ?_
      rintro e w1 ⟨rfl, hx1⟩
      rw [HI.out]
      have x1 : Ext w w1 := (((Ext.alloc _ _).allocR _).allocR _).trans hx1
      have s0 : w1.cell? ⟨w.heap.size, 0, none⟩ = some (.slice sa n scap) := hx1.cell (by simp [go_sem])
      have t1 : w1.cell? ⟨w.heap.size + 1, 1, none⟩ = some (.slice (some ⟨bc, oc, none⟩) t.cols.length cc) := hx1.cell (by simp [go_sem])
      have t4 : w1.cell? ⟨w.heap.size + 1, 4, none⟩ = some (.slice (some ⟨bf, of, none⟩) t.frn.length cf) := hx1.cell (by simp [go_sem])
      have f0 : w1.cell? ⟨w.heap.size + 1 + 1, 0, none⟩ = some (.int .i64 col) := hx1.cell (by simp [go_sem])
      have f1 : w1.cell? ⟨w.heap.size + 1 + 1, 1, none⟩ = some (.int .i64 tab) := hx1.cell (by simp [go_sem])
      have f2 : w1.cell? ⟨w.heap.size + 1 + 1, 2, none⟩ = some (.int .i64 act) := hx1.cell (by simp [go_sem])
      go_wp2_with fail
      go_quiet (fail)
      go_wp2_with fail
      go_ret
      exact ⟨ret_int (by rw [HQ.out]; simp [frnE, ha2]), x1.drewNR _⟩
    have ha2' : decide (2 < act) = false := by simpa using ha2
    cases hnu : numCol (colAt t col)
    · have Hnu := hid hnu
      clear hnu
      go_enter Tryd.func66, Tryd.ntmps66
      go_wp2_with fail
      refine (HN.out _ ((Ext.alloc _ _).allocR _ |>.allocR _)).mono ?_
      rintro e w1 ⟨rfl, hx1⟩
      rw [HI.out]
      have x1 : Ext w w1 := (((Ext.alloc _ _).allocR _).allocR _).trans hx1
      have s0 : w1.cell? ⟨w.heap.size, 0, none⟩ = some (.slice sa n scap) := hx1.cell (by simp [go_sem])
      have t1 : w1.cell? ⟨w.heap.size + 1, 1, none⟩ = some (.slice (some ⟨bc, oc, none⟩) t.cols.length cc) := hx1.cell (by simp [go_sem])
      have t4 : w1.cell? ⟨w.heap.size + 1, 4, none⟩ = some (.slice (some ⟨bf, of, none⟩) t.frn.length cf) := hx1.cell (by simp [go_sem])
      have f0 : w1.cell? ⟨w.heap.size + 1 + 1, 0, none⟩ = some (.int .i64 col) := hx1.cell (by simp [go_sem])
      have f1 : w1.cell? ⟨w.heap.size + 1 + 1, 1, none⟩ = some (.int .i64 tab) := hx1.cell (by simp [go_sem])
      have f2 : w1.cell? ⟨w.heap.size + 1 + 1, 2, none⟩ = some (.int .i64 act) := hx1.cell (by simp [go_sem])
      rw [Hnu.out]
      go_wp2_with fail
      go_quiet (fail)
      go_wp2_with fail
      go_ret
      exact ⟨ret_int (by rw [HQ.out]; simp [frnE, ha, ha2, Hnu.out]), x1.drewNR _⟩
    · have Hnu := hid hnu
      clear hnu
      by_cases h2 : act = 2
      · have h2' : (act == 2) = true := by simpa using h2
        have H2 := hid h2
        clear h2
        cases hnl : (t.cols[col.toNat]).null
        all_goals
          have Hnl := hid hnl
          clear hnl
          go_enter Tryd.func66, Tryd.ntmps66
          go_wp2_with fail
          refine (HN.out _ ((Ext.alloc _ _).allocR _ |>.allocR _)).mono ?_
          rintro e w1 ⟨rfl, hx1⟩
          rw [HI.out]
          have x1 : Ext w w1 := (((Ext.alloc _ _).allocR _).allocR _).trans hx1
          have s0 : w1.cell? ⟨w.heap.size, 0, none⟩ = some (.slice sa n scap) := hx1.cell (by simp [go_sem])
          have t1 : w1.cell? ⟨w.heap.size + 1, 1, none⟩ = some (.slice (some ⟨bc, oc, none⟩) t.cols.length cc) := hx1.cell (by simp [go_sem])
          have t4 : w1.cell? ⟨w.heap.size + 1, 4, none⟩ = some (.slice (some ⟨bf, of, none⟩) t.frn.length cf) := hx1.cell (by simp [go_sem])
          have f0 : w1.cell? ⟨w.heap.size + 1 + 1, 0, none⟩ = some (.int .i64 col) := hx1.cell (by simp [go_sem])
          have f1 : w1.cell? ⟨w.heap.size + 1 + 1, 1, none⟩ = some (.int .i64 tab) := hx1.cell (by simp [go_sem])
          have f2 : w1.cell? ⟨w.heap.size + 1 + 1, 2, none⟩ = some (.int .i64 act) := hx1.cell (by simp [go_sem])
          rw [Hnu.out]
          have c3' := x1.cell c3
          rw [Hnl.out] at c3'
          go_wp2_with fail
          go_quiet (fail)
          go_wp2_with fail
          go_ret
          exact ⟨ret_int (by rw [HQ.out]; simp [frnE, Hnu.out, show (colAt t col).null = _ from (congrArg Col.null HCA.out).trans Hnl.out, H2.out]), x1.drewNR _⟩
      · have h2' : (act == 2) = false := by simpa using h2
        go_enter Tryd.func66, Tryd.ntmps66
        go_wp2_with fail
        refine (HN.out _ ((Ext.alloc _ _).allocR _ |>.allocR _)).mono ?_
        rintro e w1 ⟨rfl, hx1⟩
        rw [HI.out]
        have x1 : Ext w w1 := (((Ext.alloc _ _).allocR _).allocR _).trans hx1
        have s0 : w1.cell? ⟨w.heap.size, 0, none⟩ = some (.slice sa n scap) := hx1.cell (by simp [go_sem])
        have t1 : w1.cell? ⟨w.heap.size + 1, 1, none⟩ = some (.slice (some ⟨bc, oc, none⟩) t.cols.length cc) := hx1.cell (by simp [go_sem])
        have t4 : w1.cell? ⟨w.heap.size + 1, 4, none⟩ = some (.slice (some ⟨bf, of, none⟩) t.frn.length cf) := hx1.cell (by simp [go_sem])
        have f0 : w1.cell? ⟨w.heap.size + 1 + 1, 0, none⟩ = some (.int .i64 col) := hx1.cell (by simp [go_sem])
        have f1 : w1.cell? ⟨w.heap.size + 1 + 1, 1, none⟩ = some (.int .i64 tab) := hx1.cell (by simp [go_sem])
        have f2 : w1.cell? ⟨w.heap.size + 1 + 1, 2, none⟩ = some (.int .i64 act) := hx1.cell (by simp [go_sem])
        rw [Hnu.out]
        go_wp2_with fail
        go_quiet (fail)
        go_wp2_with fail
        go_ret
        exact ⟨ret_int (by rw [HQ.out]; simp [frnE, ha, ha2, Hnu.out, h2]), x1.drewNR _⟩
  · obtain ⟨_, _, h0, p0, _⟩ := frn_at HF.out (show k - 1 < t.frn.length by omega)
    cases h0
    have Hp := hid (getD_at (show k - 1 < t.frn.length by omega) (default : Frn))
    generalize t.frn[k - 1] = p at *
    have k0 : decide (0 < (k : Int)) = true := by simp; omega
    have k0' : decide (0 < k) = true := by simp; omega
    have k1 : 0 ≤ (k : Int) - 1 := by omega
    have k3 : IntKind.i64.wrap ((k : Int) - 1) = (k : Int) - 1 := IntWalk.i64_in _ (by omega)
    have k4 : 1 ≤ (k : Int) := by omega
    have k5 : (k : Int) - 1 < (t.frn.length : Int) := by omega
    have k2 : ((k : Int) - 1).toNat = k - 1 := by omega
    by_cases hup : col ≤ p.col
    · have HQ := key true (by rw [Hp.out]; simp; omega)
      have hup' : decide (col ≤ p.col) = true := by simpa using hup
      clear key
      go_enter Tryd.func66, Tryd.ntmps66
      go_wp2_with fail
      refine (HN.out _ ((Ext.alloc _ _).allocR _ |>.allocR _)).mono ?_
      rintro e w1 ⟨rfl, hx1⟩
      rw [HI.out]
      have x1 : Ext w w1 := (((Ext.alloc _ _).allocR _).allocR _).trans hx1
      have s0 : w1.cell? ⟨w.heap.size, 0, none⟩ = some (.slice sa n scap) := hx1.cell (by simp [go_sem])
      have t1 : w1.cell? ⟨w.heap.size + 1, 1, none⟩ = some (.slice (some ⟨bc, oc, none⟩) t.cols.length cc) := hx1.cell (by simp [go_sem])
      have t4 : w1.cell? ⟨w.heap.size + 1, 4, none⟩ = some (.slice (some ⟨bf, of, none⟩) t.frn.length cf) := hx1.cell (by simp [go_sem])
      have f0 : w1.cell? ⟨w.heap.size + 1 + 1, 0, none⟩ = some (.int .i64 col) := hx1.cell (by simp [go_sem])
      have f1 : w1.cell? ⟨w.heap.size + 1 + 1, 1, none⟩ = some (.int .i64 tab) := hx1.cell (by simp [go_sem])
      have f2 : w1.cell? ⟨w.heap.size + 1 + 1, 2, none⟩ = some (.int .i64 act) := hx1.cell (by simp [go_sem])
      have p0' := x1.cell p0
      go_wp2_with fail
      go_quiet (fail)
      go_wp2_with fail
      go_ret
      exact ⟨ret_int (by rw [HQ.out]; simp [frnE]), x1.drewNR _⟩
    · have HQ := key false (by rw [Hp.out]; simp; omega)
      have hup' : decide (col ≤ p.col) = false := by simpa using hup
      clear key
      by_cases ha : act < 0
      · have ha' : decide (act < 0) = true := by simpa using ha
        go_enter Tryd.func66, Tryd.ntmps66
        go_wp2_with fail
        refine (HN.out _ ((Ext.alloc _ _).allocR _ |>.allocR _)).mono ?_
        rintro e w1 ⟨rfl, hx1⟩
        rw [HI.out]
        have x1 : Ext w w1 := (((Ext.alloc _ _).allocR _).allocR _).trans hx1
        have s0 : w1.cell? ⟨w.heap.size, 0, none⟩ = some (.slice sa n scap) := hx1.cell (by simp [go_sem])
        have t1 : w1.cell? ⟨w.heap.size + 1, 1, none⟩ = some (.slice (some ⟨bc, oc, none⟩) t.cols.length cc) := hx1.cell (by simp [go_sem])
        have t4 : w1.cell? ⟨w.heap.size + 1, 4, none⟩ = some (.slice (some ⟨bf, of, none⟩) t.frn.length cf) := hx1.cell (by simp [go_sem])
        have f0 : w1.cell? ⟨w.heap.size + 1 + 1, 0, none⟩ = some (.int .i64 col) := hx1.cell (by simp [go_sem])
        have f1 : w1.cell? ⟨w.heap.size + 1 + 1, 1, none⟩ = some (.int .i64 tab) := hx1.cell (by simp [go_sem])
        have f2 : w1.cell? ⟨w.heap.size + 1 + 1, 2, none⟩ = some (.int .i64 act) := hx1.cell (by simp [go_sem])
        have p0' := x1.cell p0
        go_wp2_with fail
        go_quiet (fail)
        go_wp2_with fail
        go_ret
        exact ⟨ret_int (by rw [HQ.out]; simp [frnE, ha]), x1.drewNR _⟩
      have ha' : decide (act < 0) = false := by simpa using ha
      by_cases ha2 : 2 < act
      · have ha2' : decide (2 < act) = true := by simpa using ha2
        go_enter Tryd.func66, Tryd.ntmps66
        go_wp2_with fail
        refine (HN.out _ ((Ext.alloc _ _).allocR _ |>.allocR _)).mono ?_
        rintro e w1 ⟨rfl, hx1⟩
        rw [HI.out]
        have x1 : Ext w w1 := (((Ext.alloc _ _).allocR _).allocR _).trans hx1
        have s0 : w1.cell? ⟨w.heap.size, 0, none⟩ = some (.slice sa n scap) := hx1.cell (by simp [go_sem])
        have t1 : w1.cell? ⟨w.heap.size + 1, 1, none⟩ = some (.slice (some ⟨bc, oc, none⟩) t.cols.length cc) := hx1.cell (by simp [go_sem])
        have t4 : w1.cell? ⟨w.heap.size + 1, 4, none⟩ = some (.slice (some ⟨bf, of, none⟩) t.frn.length cf) := hx1.cell (by simp [go_sem])
        have f0 : w1.cell? ⟨w.heap.size + 1 + 1, 0, none⟩ = some (.int .i64 col) := hx1.cell (by simp [go_sem])
        have f1 : w1.cell? ⟨w.heap.size + 1 + 1, 1, none⟩ = some (.int .i64 tab) := hx1.cell (by simp [go_sem])
        have f2 : w1.cell? ⟨w.heap.size + 1 + 1, 2, none⟩ = some (.int .i64 act) := hx1.cell (by simp [go_sem])
        have p0' := x1.cell p0
        go_wp2_with fail
        go_quiet (fail)
        go_wp2_with fail
        go_ret
        exact ⟨ret_int (by rw [HQ.out]; simp [frnE, ha2]), x1.drewNR _⟩
      have ha2' : decide (2 < act) = false := by simpa using ha2
      cases hnu : numCol (colAt t col)
      · have Hnu := hid hnu
        clear hnu
        go_enter Tryd.func66, Tryd.ntmps66
        go_wp2_with fail
        refine (HN.out _ ((Ext.alloc _ _).allocR _ |>.allocR _)).mono ?_
        rintro e w1 ⟨rfl, hx1⟩
        rw [HI.out]
        have x1 : Ext w w1 := (((Ext.alloc _ _).allocR _).allocR _).trans hx1
        have s0 : w1.cell? ⟨w.heap.size, 0, none⟩ = some (.slice sa n scap) := hx1.cell (by simp [go_sem])
        have t1 : w1.cell? ⟨w.heap.size + 1, 1, none⟩ = some (.slice (some ⟨bc, oc, none⟩) t.cols.length cc) := hx1.cell (by simp [go_sem])
        have t4 : w1.cell? ⟨w.heap.size + 1, 4, none⟩ = some (.slice (some ⟨bf, of, none⟩) t.frn.length cf) := hx1.cell (by simp [go_sem])
        have f0 : w1.cell? ⟨w.heap.size + 1 + 1, 0, none⟩ = some (.int .i64 col) := hx1.cell (by simp [go_sem])
        have f1 : w1.cell? ⟨w.heap.size + 1 + 1, 1, none⟩ = some (.int .i64 tab) := hx1.cell (by simp [go_sem])
        have f2 : w1.cell? ⟨w.heap.size + 1 + 1, 2, none⟩ = some (.int .i64 act) := hx1.cell (by simp [go_sem])
        rw [Hnu.out]
        have p0' := x1.cell p0
        go_wp2_with fail
        go_quiet (fail)
        go_wp2_with fail
        go_ret
        exact ⟨ret_int (by rw [HQ.out]; simp [frnE, ha, ha2, Hnu.out]), x1.drewNR _⟩
      · have Hnu := hid hnu
        clear hnu
        by_cases h2 : act = 2
        · have h2' : (act == 2) = true := by simpa using h2
          have H2 := hid h2
          clear h2
          cases hnl : (t.cols[col.toNat]).null
          all_goals
            have Hnl := hid hnl
            clear hnl
            go_enter Tryd.func66, Tryd.ntmps66
            go_wp2_with fail
            refine (HN.out _ ((Ext.alloc _ _).allocR _ |>.allocR _)).mono ?_
            rintro e w1 ⟨rfl, hx1⟩
            rw [HI.out]
            have x1 : Ext w w1 := (((Ext.alloc _ _).allocR _).allocR _).trans hx1
            have s0 : w1.cell? ⟨w.heap.size, 0, none⟩ = some (.slice sa n scap) := hx1.cell (by simp [go_sem])
            have t1 : w1.cell? ⟨w.heap.size + 1, 1, none⟩ = some (.slice (some ⟨bc, oc, none⟩) t.cols.length cc) := hx1.cell (by simp [go_sem])
            have t4 : w1.cell? ⟨w.heap.size + 1, 4, none⟩ = some (.slice (some ⟨bf, of, none⟩) t.frn.length cf) := hx1.cell (by simp [go_sem])
            have f0 : w1.cell? ⟨w.heap.size + 1 + 1, 0, none⟩ = some (.int .i64 col) := hx1.cell (by simp [go_sem])
            have f1 : w1.cell? ⟨w.heap.size + 1 + 1, 1, none⟩ = some (.int .i64 tab) := hx1.cell (by simp [go_sem])
            have f2 : w1.cell? ⟨w.heap.size + 1 + 1, 2, none⟩ = some (.int .i64 act) := hx1.cell (by simp [go_sem])
            rw [Hnu.out]
            have c3' := x1.cell c3
            rw [Hnl.out] at c3'
            have p0' := x1.cell p0
            go_wp2_with fail
            go_quiet (fail)
            go_wp2_with fail
            go_ret
            exact ⟨ret_int (by rw [HQ.out]; simp [frnE, Hnu.out, show (colAt t col).null = _ from (congrArg Col.null HCA.out).trans Hnl.out, H2.out]), x1.drewNR _⟩
        · have h2' : (act == 2) = false := by simpa using h2
          go_enter Tryd.func66, Tryd.ntmps66
          go_wp2_with fail
          refine (HN.out _ ((Ext.alloc _ _).allocR _ |>.allocR _)).mono ?_
          rintro e w1 ⟨rfl, hx1⟩
          rw [HI.out]
          have x1 : Ext w w1 := (((Ext.alloc _ _).allocR _).allocR _).trans hx1
          have s0 : w1.cell? ⟨w.heap.size, 0, none⟩ = some (.slice sa n scap) := hx1.cell (by simp [go_sem])
          have t1 : w1.cell? ⟨w.heap.size + 1, 1, none⟩ = some (.slice (some ⟨bc, oc, none⟩) t.cols.length cc) := hx1.cell (by simp [go_sem])
          have t4 : w1.cell? ⟨w.heap.size + 1, 4, none⟩ = some (.slice (some ⟨bf, of, none⟩) t.frn.length cf) := hx1.cell (by simp [go_sem])
          have f0 : w1.cell? ⟨w.heap.size + 1 + 1, 0, none⟩ = some (.int .i64 col) := hx1.cell (by simp [go_sem])
          have f1 : w1.cell? ⟨w.heap.size + 1 + 1, 1, none⟩ = some (.int .i64 tab) := hx1.cell (by simp [go_sem])
          have f2 : w1.cell? ⟨w.heap.size + 1 + 1, 2, none⟩ = some (.int .i64 act) := hx1.cell (by simp [go_sem])
          rw [Hnu.out]
          have p0' := x1.cell p0
          go_wp2_with fail
          go_quiet (fail)
          go_wp2_with fail
          go_ret
          exact ⟨ret_int (by rw [HQ.out]; simp [frnE, ha, ha2, Hnu.out, h2]), x1.drewNR _⟩
end Go.Proofs.YtgelmhcbiffghaaDoor
