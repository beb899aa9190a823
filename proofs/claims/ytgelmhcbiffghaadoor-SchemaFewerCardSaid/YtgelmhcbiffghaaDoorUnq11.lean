/-
  WHAT IS PROVED HERE: what schema's asks of a table's unique columns, foreign keys and bounds answer.
-/
import Derived.Test.YtgelmhcbiffghaaDoorAsk11
import Derived.IntWalk
namespace Go.Proofs.YtgelmhcbiffghaaDoor
open Go.RowKit

theorem isCol_bd {t : Tbl} {c : Int} (h : isCol t c = true) : 1 ≤ c ∧ c < t.cols.length ∧ c.toNat < t.cols.length ∧ (c.toNat : Int) = c := by
  unfold isCol at h
  simp only [Bool.and_eq_true, decide_eq_true_eq] at h
  omega

set_option maxHeartbeats 1000000 in
theorem uniqueLook (b : Nat) (t : Tbl) (k : Nat) (w : World) (hb : BoxT w b t) (hk : k < t.uniq.length) :
    Calls Tryd.prog 58 #[.int .i64 k, .pointer (some ⟨b, 0, none⟩)] w fun e w' => e = .returned (.int .i64 (uniqErr t k)) ∧ Ext w w' := by
  obtain ⟨ac, cc, au, cu, ak, ck, af, cf, am, cs, hlt, e0, e1, e2, e3, e4, e5, hC, hU, _⟩ := hb.open
  have hlen : t.uniq.length ≤ 9223372036854775807 := by obtain ⟨_, _, _, _, h, _⟩ := hU.form; exact h
  obtain ⟨bu, ou, rfl, g0, hi⟩ := int_at hU hk
  have hg := getD_at hk 0
  have hhas := hid (fun c w => has_any (.string t.name) (.slice (some ⟨bu, ou, none⟩) t.uniq.length cu) (.slice ak t.checks ck) (.slice af t.frn.length cf) (.slice am t.sums.length cs) ac t.cols.length cc c w)
  generalize hu : t.uniq[k] = u at *
  have Hg := hid hg
  have Hu := hid hu
  have HC := hid hC
  have HU := hid hU
  clear hg hu hC hU hb
  cases h1 : isCol t u
  · have H1 := hid h1
    unfold isCol at h1
    have H1' := hid h1
    clear h1
    go_enter Tryd.func58, Tryd.ntmps58
    go_wp2_with fail
    refine (hhas.out u _).mono ?_
    rintro e w1 ⟨rfl, hx1⟩
    rw [H1'.out]
    go_wp2_with fail
    go_ret
    exact ⟨ret_int (by simp only [uniqErr, Hg.out, H1.out]; rfl), hx1⟩
  · have H1 := hid h1
    obtain ⟨b1, b2, b3, b4⟩ := isCol_bd h1
    obtain ⟨bc, oc, rfl, c0, c1, c2, c3, _⟩ := col_at HC.out b3
    have hca := hid (colAt_at b3)
    have Hnum := hid (fun w => number_any t.cols[u.toNat] w)
    unfold isCol at h1
    have H1' := hid h1
    have B4 := hid b4
    clear h1 b4
    by_cases hk0 : k < 1
    · cases hnu : numCol t.cols[u.toNat]
      all_goals
        have Hnu := hid hnu
        clear hnu
        have k0 : decide (0 < (k : Int)) = false := by simp; omega
        go_enter Tryd.func58, Tryd.ntmps58
        go_wp2_with fail
        refine (hhas.out u _).mono ?_
        rintro e w1 ⟨rfl, hx1⟩
        rw [H1'.out]
        replace e1 := hx1.cell e1
        replace c0 := hx1.cell c0
        replace c1 := hx1.cell c1
        replace c2 := hx1.cell c2
        replace c3 := hx1.cell c3
        go_wp2_with fail
        refine (Hnum.out _).mono ?_
        rintro e w2 ⟨rfl, hx2⟩
        rw [Hnu.out]
        go_wp2_with fail
        go_ret
        exact ⟨ret_int (by simp only [uniqErr, Hg.out, H1.out, hca.out, Hnu.out, show ¬ 0 < k by omega]; rfl), hx1.trans hx2⟩
    · obtain ⟨_, _, h0, p0, _⟩ := int_at HU.out (show k - 1 < t.uniq.length by omega)
      cases h0
      have Hp := hid (getD_at (show k - 1 < t.uniq.length by omega) 0)
      generalize t.uniq[k - 1] = p at *
      have k0 : decide (0 < (k : Int)) = true := by simp; omega
      have k1 : 0 ≤ (k : Int) - 1 := by omega
      have k2 : ((k : Int) - 1).toNat = k - 1 := by omega
      have k3 : IntKind.i64.wrap ((k : Int) - 1) = (k : Int) - 1 := IntWalk.i64_in _ (by omega)
      have k4 : 1 ≤ (k : Int) := by omega
      by_cases hup : u ≤ p
      · have hup' : decide (u ≤ p) = true := by simpa using hup
        go_enter Tryd.func58, Tryd.ntmps58
        go_wp2_with fail
        refine (hhas.out u _).mono ?_
        rintro e w1 ⟨rfl, hx1⟩
        rw [H1'.out]
        replace e1 := hx1.cell e1
        replace e2 := hx1.cell e2
        replace p0 := hx1.cell p0
        go_wp2_with fail
        go_ret
        exact ⟨ret_int (by simp only [uniqErr, Hg.out, Hp.out, H1.out, hup', show 0 < k by omega]; rfl), hx1⟩
      · have hup' : decide (u ≤ p) = false := by simpa using hup
        cases hnu : numCol t.cols[u.toNat]
        all_goals
          have Hnu := hid hnu
          clear hnu
          go_enter Tryd.func58, Tryd.ntmps58
          go_wp2_with fail
          refine (hhas.out u _).mono ?_
          rintro e w1 ⟨rfl, hx1⟩
          rw [H1'.out]
          replace e1 := hx1.cell e1
          replace e2 := hx1.cell e2
          replace p0 := hx1.cell p0
          replace c0 := hx1.cell c0
          replace c1 := hx1.cell c1
          replace c2 := hx1.cell c2
          replace c3 := hx1.cell c3
          go_wp2_with fail
          refine (Hnum.out _).mono ?_
          rintro e w2 ⟨rfl, hx2⟩
          rw [Hnu.out]
          go_wp2_with fail
          go_ret
          exact ⟨ret_int (by simp only [uniqErr, Hg.out, Hp.out, H1.out, hup', hca.out, Hnu.out, show 0 < k by omega]; rfl), hx1.trans hx2⟩

theorem enUnq : Enters Tryd.prog 58 := enters_of Tryd.func58 (by kernel_rfl) (by kernel_rfl)
set_option maxHeartbeats 400000 in
theorem uniques_any (t : Tbl) (l : List Value) (w : World) (h : tblOk w t l) :
    Calls Tryd.prog 43 #[.agg l.toArray] w fun e w' => e = .returned (.int .i64 (firstE t.uniq.length (uniqErr t))) ∧ Ext w w' := by
  have HB := hid (BoxT.new h 36)
  obtain ⟨vc, vu, ak, ck, vf, vs, rfl, _, _, _, h4, _⟩ := h.out
  obtain ⟨ac, cc, rfl, _, hlen, _⟩ := h4.form
  clear h4 h
  go_enter Tryd.func43, Tryd.ntmps43
  go_wp2_with fail
  refine (first_any _ enUnq _ _ (uniqErr t) _ hlen (fun w' k hx hk _ => by exact uniqueLook _ t k w' (HB.out.ext hx) hk)).mono ?_
  rintro e w1 ⟨rfl, hx⟩
  go_wp2_with fail
  go_ret
  exact ⟨rfl, Ext.trans (Ext.alloc _ _) hx⟩
end Go.Proofs.YtgelmhcbiffghaaDoor
