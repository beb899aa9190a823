/-
  WHAT IS PROVED HERE: what each of schema's looks at a table answers.
-/
import Derived.Test.YtgelmhcbiffghaaDoorCols11
import Derived.Test.YtgelmhcbiffghaaDoorFrn11
import Derived.Test.YtgelmhcbiffghaaDoorSum11
import Derived.Deep.RegionHeld3
namespace Go.Proofs.YtgelmhcbiffghaaDoor
open Go.RowKit

theorem below_self {s : List Tbl} {k : Nat} (hk : k < s.length) : decide (maxZ (idxOf (sameT s[k].name) s) < k) = (s.take k).any (sameT s[k].name) := by
  rcases idxOf_cases (sameT s[k].name) s with ⟨h1, _, h3⟩ | ⟨j, hj, h1, h2, _, h3⟩
  · have := h3 k hk
    simp [sameT] at this
  · rw [h1, Bool.eq_iff_iff]
    simp only [decide_eq_true_eq, List.any_eq_true]
    constructor
    · intro h
      have hjk : j < k := by simp [maxZ] at h; omega
      exact ⟨s[j], by rw [List.mem_take_iff_getElem]; exact ⟨j, by omega, rfl⟩, h2⟩
    · rintro ⟨x, hx, hp⟩
      rw [List.mem_take_iff_getElem] at hx
      obtain ⟨i, hi, rfl⟩ := hx
      have hji : ¬ i < j := fun hij => by have := h3 i (by omega) hij; rw [this] at hp; simp at hp
      simp [maxZ]; omega

set_option maxHeartbeats 800000 in
theorem look1 (v : Value) (s : List Tbl) (k : Nat) (w : World) (hv : SliceOf 6 tblOk w v s) (hk : k < s.length) :
    Calls Tryd.prog 36 #[.agg #[v], .int .i64 k] w fun e w' => e = .returned (.int .i64 (nameErr s k)) ∧ Ext w w' := by
  have HV := hid hv
  obtain ⟨a, cap, rfl, _, hlen, _⟩ := hv.form
  obtain ⟨b, off, vc, vu, ac, cc, vf, vs, rfl, e0, e1, e2, e3, e4, e5, hR, hn⟩ := tbl_at hv hk
  have Hname := hid (fun w => Name_any s[k].name w hn)
  have HB := hid (below_self hk)
  have hbd := idxOf_bd (sameT s[k].name) s
  have hb : b < w.heap.size := lt_of_cell e0
  have hg := hid (getD_at hk (default : Tbl))
  clear hv hR hn e1 e2 e3 e4 e5
  cases hnm : nameL s[k].name.toList
  · have Hn := hid hnm
    clear hnm
    go_enter Tryd.func36, Tryd.ntmps36
    go_wp2_with fail
    refine (Hname.out _).mono ?_
    rintro e w1 ⟨rfl, hx1⟩
    rw [Hn.out]
    go_wp2_with fail
    go_ret
    exact ⟨ret_int (by simp only [nameErr, hg.out, Hn.out]; rfl), Ext.trans (Ext.alloc _ _) hx1⟩
  · have Hn := hid hnm
    clear hnm
    have Htab := hid (fun w' (hx : Ext w w') => Table_any _ s s[k].name w' (HV.out.ext keeps_tbl hx))
    have HNN : Hid (nameErr s k = if (s.take k).any (sameT s[k].name) then 5 else 0) := by unfold Hid; simp only [nameErr, hg.out, Hn.out]; rfl
    cases han : (s.take k).any (sameT s[k].name)
    all_goals
      have Han := hid han
      clear han
      have hlt := HB.out
      rw [Han.out] at hlt
      go_enter Tryd.func36, Tryd.ntmps36
      go_wp2_with fail
      refine (Hname.out _).mono ?_
      rintro e w1 ⟨rfl, hx1⟩
      rw [Hn.out]
      have x1 : Ext w w1 := Ext.trans (Ext.alloc _ _) hx1
      have f0 : w1.cell? ⟨w.heap.size, 0, none⟩ = some (.slice (some ⟨b, off, none⟩) s.length cap) := hx1.cell (by simp [go_sem])
      replace e0 := x1.cell e0
      go_wp2_with fail
      go_region_held3 (fun w' => w'.cell? ⟨w.heap.size, 0, none⟩ = some (.slice (some ⟨b, off, none⟩) s.length cap) ∧ w'.cell? ⟨b, off + k * 6, none⟩ = some (.string s[k].name)) (first | go_keep | exact ⟨hx2.cell f0, hx2.cell e0⟩) (first | (go_at_call 15; refine (Htab.out _ ?_).mono ?_; exact x1.trans (Ext.drew _); rintro e w' ⟨rfl, hx2⟩))
      go_wp2_with fail
      go_ret
      exact ⟨ret_int (by rw [HNN.out, Han.out]; rfl), x1.drewR.trans hx2⟩

def max5 (a b c d e : Nat) : Int := ((max a (max b (max c (max d e))) : Nat) : Int)
theorem run_max5 {P : Program} (w : World) (ts : Array TypeId) (t : TypeId) (a b c d e : Nat) : (Builtin.max_ ts t #[.int .i64 a, .int .i64 b, .int .i64 c, .int .i64 d, .int .i64 e]).run P w = .ok (.int .i64 (max5 a b c d e)) w := by
  simp [Builtin.max_, Builtin.max2, max5]
  split <;> split <;> split <;> split <;> omega
set_option maxHeartbeats 800000 in
theorem look2 (v : Value) (s : List Tbl) (k : Nat) (w : World) (hv : SliceOf 6 tblOk w v s) (hk : k < s.length) :
    Calls Tryd.prog 37 #[.agg #[v], .int .i64 k] w fun e w' => e = .returned (.int .i64 (boundErr (s.getD k default))) ∧ Ext w w' := by
  obtain ⟨a, cap, rfl, _, hlen, _⟩ := hv.form
  obtain ⟨b, off, vc, vu, ac, cc, vf, vs, rfl, e0, e1, e2, e3, e4, e5, hR, hn⟩ := tbl_at hv hk
  have hb : b < w.heap.size := lt_of_cell e0
  have hg := hid (getD_at hk (default : Tbl))
  obtain ⟨vc', vu', ak, ck, vf', vs', hl, _, _, h4, h5, h6, h7⟩ := hR.out
  simp only [List.cons.injEq, Value.slice.injEq, and_true, true_and] at hl
  obtain ⟨rfl, rfl, _, rfl, rfl⟩ := hl
  obtain ⟨ac1, cc1, rfl, _, l1, _⟩ := h4.form
  obtain ⟨ac2, cc2, rfl, _, l2, _⟩ := h5.form
  obtain ⟨ac3, cc3, rfl, _, l3, _⟩ := h6.form
  obtain ⟨ac4, cc4, rfl, _, l4, _⟩ := h7.form
  clear hv hR hn h4 h5 h6 h7
  have HE : Hid (boundErr (s.getD k default) = if decide (s[k].cols.length < 1) || decide (16 < max s[k].cols.length (max s[k].checks (max s[k].uniq.length (max s[k].frn.length s[k].sums.length)))) then 2 else 0) := by unfold Hid; rw [hg.out]; rfl
  generalize s[k].cols.length = n1 at *
  generalize s[k].checks = n2 at *
  generalize s[k].uniq.length = n3 at *
  generalize s[k].frn.length = n4 at *
  generalize s[k].sums.length = n5 at *
  by_cases h0 : n1 < 1
  · have h0' : decide ((n1 : Int) < 1) = true := by simp; omega
    go_enter Tryd.func37, Tryd.ntmps37
    go_wp2_with fail
    go_ret
    exact ⟨ret_int (by rw [HE.out]; simp [h0]), by repeat (first | exact Ext.refl _ | apply Ext.allocR)⟩
  · have h0' : decide ((n1 : Int) < 1) = false := by simp; omega
    have hmx := fun w ts t => run_max5 (P := Tryd.prog) w ts t n1 n2 n3 n4 n5
    by_cases hb16 : 16 < max n1 (max n2 (max n3 (max n4 n5)))
    · have h16 : decide (16 < max5 n1 n2 n3 n4 n5) = true := by unfold max5; simp only [decide_eq_true_eq]; omega
      have HB := hid hb16
      clear hb16
      go_enter Tryd.func37, Tryd.ntmps37
      go_wp2_with fail
      go_ret
      exact ⟨ret_int (by rw [HE.out]; simp only [HB.out]; simp), by repeat (first | exact Ext.refl _ | apply Ext.allocR)⟩
    · have h16 : decide (16 < max5 n1 n2 n3 n4 n5) = false := by unfold max5; simp only [decide_eq_false_iff_not]; omega
      have HB := hid hb16
      clear hb16
      go_enter Tryd.func37, Tryd.ntmps37
      go_wp2_with fail
      go_ret
      exact ⟨ret_int (by rw [HE.out]; simp only [HB.out, h0]; simp), by repeat (first | exact Ext.refl _ | apply Ext.allocR)⟩

set_option maxHeartbeats 400000 in
theorem look3 (v : Value) (s : List Tbl) (k : Nat) (w : World) (hv : SliceOf 6 tblOk w v s) (hk : k < s.length) :
    Calls Tryd.prog 38 #[.agg #[v], .int .i64 k] w fun e w' => e = .returned (.int .i64 (colsErr (s.getD k default))) ∧ Ext w w' := by
  obtain ⟨a, cap, rfl, _, hlen, _⟩ := hv.form
  obtain ⟨b, off, vc, vu, ac, cc, vf, vs, rfl, e0, e1, e2, e3, e4, e5, hR, hn⟩ := tbl_at hv hk
  have HC := hid (columns_any _ _ _ (keeps_tbl _ _ _ _ (Ext.alloc w (.cells #[.slice (some ⟨b, off, none⟩) s.length cap] 26)) hR))
  have hb : b < w.heap.size := lt_of_cell e0
  have hg := hid (getD_at hk (default : Tbl))
  clear hv hR hn
  go_enter Tryd.func38, Tryd.ntmps38
  go_wp2_with fail
  refine HC.out.mono ?_
  rintro e w1 ⟨rfl, hx1⟩
  go_wp2_with fail
  go_ret
  exact ⟨ret_int (by rw [hg.out]), Ext.trans (Ext.alloc _ _) hx1⟩

set_option maxHeartbeats 400000 in
theorem look5 (v : Value) (s : List Tbl) (k : Nat) (w : World) (hv : SliceOf 6 tblOk w v s) (hk : k < s.length) :
    Calls Tryd.prog 42 #[.agg #[v], .int .i64 k] w fun e w' => e = .returned (.int .i64 (firstE (s.getD k default).uniq.length (uniqErr (s.getD k default)))) ∧ Ext w w' := by
  obtain ⟨a, cap, rfl, _, hlen, _⟩ := hv.form
  obtain ⟨b, off, vc, vu, ac, cc, vf, vs, rfl, e0, e1, e2, e3, e4, e5, hR, hn⟩ := tbl_at hv hk
  have HC := hid (uniques_any _ _ _ (keeps_tbl _ _ _ _ (Ext.alloc w (.cells #[.slice (some ⟨b, off, none⟩) s.length cap] 26)) hR))
  have hb : b < w.heap.size := lt_of_cell e0
  have hg := hid (getD_at hk (default : Tbl))
  clear hv hR hn
  go_enter Tryd.func42, Tryd.ntmps42
  go_wp2_with fail
  refine HC.out.mono ?_
  rintro e w1 ⟨rfl, hx1⟩
  go_wp2_with fail
  go_ret
  exact ⟨ret_int (by rw [hg.out]), Ext.trans (Ext.alloc _ _) hx1⟩

set_option maxHeartbeats 400000 in
theorem look7 (v : Value) (s : List Tbl) (k : Nat) (w : World) (hv : SliceOf 6 tblOk w v s) (hk : k < s.length) :
    Calls Tryd.prog 46 #[.agg #[v], .int .i64 k] w fun e w' => e = .returned (.int .i64 (firstE (s.getD k default).sums.length (smErr (s.getD k default)))) ∧ Ext w w' := by
  obtain ⟨a, cap, rfl, _, hlen, _⟩ := hv.form
  obtain ⟨b, off, vc, vu, ac, cc, vf, vs, rfl, e0, e1, e2, e3, e4, e5, hR, hn⟩ := tbl_at hv hk
  have HC := hid (sums_any _ _ _ (keeps_tbl _ _ _ _ (Ext.alloc w (.cells #[.slice (some ⟨b, off, none⟩) s.length cap] 26)) hR))
  have hb : b < w.heap.size := lt_of_cell e0
  have hg := hid (getD_at hk (default : Tbl))
  clear hv hR hn
  go_enter Tryd.func46, Tryd.ntmps46
  go_wp2_with fail
  refine HC.out.mono ?_
  rintro e w1 ⟨rfl, hx1⟩
  go_wp2_with fail
  go_ret
  exact ⟨ret_int (by rw [hg.out]), Ext.trans (Ext.alloc _ _) hx1⟩

set_option maxHeartbeats 800000 in
theorem look6 (v : Value) (s : List Tbl) (k : Nat) (w : World) (hv : SliceOf 6 tblOk w v s) (hk : k < s.length) :
    Calls Tryd.prog 44 #[.agg #[v], .int .i64 k] w fun e w' => e = .returned (.int .i64 (firstE (s.getD k default).frn.length (frnErr s.length (s.getD k default)))) ∧ Ext w w' := by
  obtain ⟨a, cap, rfl, _, hlen, _⟩ := hv.form
  obtain ⟨b, off, vc, vu, ac, cc, vf, vs, rfl, e0, e1, e2, e3, e4, e5, hR, hn⟩ := tbl_at hv hk
  have HC := hid (fun w' (hx : Ext w w') => foreigns_any _ _ (some ⟨b, off, none⟩) s.length cap w' (keeps_tbl _ _ _ _ hx hR))
  have hb : b < w.heap.size := lt_of_cell e0
  have hg := hid (getD_at hk (default : Tbl))
  clear hv hR hn
  have x1 := Ext.alloc w (.cells #[.slice (some ⟨b, off, none⟩) s.length cap] 26)
  go_enter Tryd.func44, Tryd.ntmps44
  go_wp2_with fail
  have f0 : (w.alloc (.cells #[.slice (some ⟨b, off, none⟩) s.length cap] 26)).cell? ⟨w.heap.size, 0, none⟩ = some (.slice (some ⟨b, off, none⟩) s.length cap) := by simp [go_sem]
  replace e0 := x1.cell e0
  replace e1 := x1.cell e1
  replace e2 := x1.cell e2
  replace e3 := x1.cell e3
  replace e4 := x1.cell e4
  replace e5 := x1.cell e5
  generalize w.alloc (.cells #[.slice (some ⟨b, off, none⟩) s.length cap] 26) = w1 at *
  go_region_held3 (fun w' => w'.cell? ⟨w.heap.size, 0, none⟩ = some (.slice (some ⟨b, off, none⟩) s.length cap) ∧ w'.cell? ⟨b, off + k * 6, none⟩ = some (.string s[k].name) ∧ w'.cell? ⟨b, off + k * 6 + 1, none⟩ = some vc ∧ w'.cell? ⟨b, off + k * 6 + 2, none⟩ = some vu ∧ w'.cell? ⟨b, off + k * 6 + 3, none⟩ = some (.slice ac s[k].checks cc) ∧ w'.cell? ⟨b, off + k * 6 + 4, none⟩ = some vf ∧ w'.cell? ⟨b, off + k * 6 + 5, none⟩ = some vs) (first | go_keep | exact ⟨hx2.cell f0, hx2.cell e0, hx2.cell e1, hx2.cell e2, hx2.cell e3, hx2.cell e4, hx2.cell e5⟩) (first | (go_at_call 45; refine (HC.out _ ?_).mono ?_; exact x1.drewR; rintro e w' ⟨rfl, hx2⟩))
  go_wp2_with fail
  go_ret
  exact ⟨ret_int (by rw [hg.out]), x1.drewR.trans hx2⟩
set_option maxHeartbeats 800000 in
theorem look4 (v : Value) (s : List Tbl) (k : Nat) (w : World) (hv : SliceOf 6 tblOk w v s) (hk : k < s.length) (hc : 0 < s[k].cols.length) :
    Calls Tryd.prog 40 #[.agg #[v], .int .i64 k] w fun e w' => e = .returned (.int .i64 (keyErr (s.getD k default))) ∧ Ext w w' := by
  obtain ⟨a, cap, rfl, _, hlen, _⟩ := hv.form
  obtain ⟨b, off, vc, vu, ac, cc, vf, vs, rfl, e0, e1, e2, e3, e4, e5, hR, hn⟩ := tbl_at hv hk
  have hb : b < w.heap.size := lt_of_cell e0
  have hg := hid (getD_at hk (default : Tbl))
  obtain ⟨vc', vu', ak, ck, vf', vs', hl, _, _, h4, h5, h6, h7⟩ := hR.out
  simp only [List.cons.injEq, Value.slice.injEq, and_true, true_and] at hl
  obtain ⟨rfl, rfl, _, rfl, rfl⟩ := hl
  obtain ⟨ac1, cc1, rfl, _, l1, _⟩ := h4.form
  obtain ⟨bc, oc, rfl, c0, c1, c2, c3, _⟩ := col_at h4 hc
  rw [Nat.zero_mul, Nat.add_zero] at c0 c1 c2 c3
  have hbc : bc < w.heap.size := lt_of_cell c0
  have hg2 := hid (getD_at hc (default : Col))
  have HN := hid (fun w => number_any s[k].cols[0] w)
  have HE : Hid (keyErr (s.getD k default) = if !numCol s[k].cols[0] || s[k].cols[0].null then 6 else 0) := by unfold Hid; rw [hg.out]; unfold keyErr; rw [hg2.out]
  clear hv hR hn h4 h5 h6 h7
  cases hnu : numCol s[k].cols[0]
  · have Hnu := hid hnu
    clear hnu
    go_enter Tryd.func40, Tryd.ntmps40
    go_wp2_with fail
    refine (HN.out _).mono ?_
    rintro e w1 ⟨rfl, hx1⟩
    rw [Hnu.out]
    go_wp2_with fail
    go_ret
    exact ⟨ret_int (by rw [HE.out, Hnu.out]; rfl), Ext.trans ((Ext.alloc _ _).allocR _) hx1⟩
  · have Hnu := hid hnu
    clear hnu
    cases hnl : s[k].cols[0].null
    all_goals
      have Hnl := hid hnl
      clear hnl
      go_enter Tryd.func40, Tryd.ntmps40
      go_wp2_with fail
      refine (HN.out _).mono ?_
      rintro e w1 ⟨rfl, hx1⟩
      rw [Hnu.out]
      have f3 : w1.cell? ⟨w.heap.size + 1, 3, none⟩ = some (.bool s[k].cols[0].null) := hx1.cell (by simp [go_sem])
      rw [Hnl.out] at f3
      go_wp2_with fail
      go_ret
      exact ⟨ret_int (by rw [HE.out, Hnu.out, Hnl.out]; rfl), Ext.trans ((Ext.alloc _ _).allocR _) hx1⟩
end Go.Proofs.YtgelmhcbiffghaaDoor
