/-
  WHAT IS PROVED HERE: what schema's ask of a table's bounds answers.
-/
import Derived.Test.YtgelmhcbiffghaaDoorUnq11
namespace Go.Proofs.YtgelmhcbiffghaaDoor
open Go.RowKit

def smE (a b c d : Bool) : Int := if a then 4 else if b then 1 else if c then 6 else if d then 5 else 0
theorem smErr_eq (t : Tbl) (k : Nat) (f : Sm) (h : t.sums.getD k default = f) : smErr t k = smE (!isCol t f.col || !isCol t f.by_) (f.col == f.by_ || decide (f.max < 0) || decide (1099511627776 < f.max)) (!numCol (colAt t f.col) || !numCol (colAt t f.by_)) ((t.sums.take k).any (sameS f)) := by
  subst h; rfl

set_option maxHeartbeats 1000000 in
theorem sumLook (b : Nat) (t : Tbl) (k : Nat) (w : World) (hb : BoxT w b t) (hk : k < t.sums.length) :
    Calls Tryd.prog 61 #[.int .i64 k, .pointer (some ⟨b, 0, none⟩)] w fun e w' => e = .returned (.int .i64 (smErr t k)) ∧ Ext w w' := by
  obtain ⟨ac, cc, au, cu, ak, ck, af, cf, am, cs, hlt, e0, e1, e2, e3, e4, e5, hC, _, _, hF⟩ := hb.open
  have hlen : t.sums.length ≤ 9223372036854775807 := by obtain ⟨_, _, _, _, h, _⟩ := hF.form; exact h
  have hcap : t.sums.length ≤ cs := by obtain ⟨_, _, h0, h, _⟩ := hF.form; cases h0; exact h
  obtain ⟨bf, of, rfl, g0, g1, g2, hi, _⟩ := sm_at hF hk
  have hbf : bf < w.heap.size := lt_of_cell g0
  have hg := smErr_eq t k _ (getD_at hk default)
  have hhas := hid (fun c w => has_any (.string t.name) (.slice au t.uniq.length cu) (.slice ak t.checks ck) (.slice af t.frn.length cf) (.slice (some ⟨bf, of, none⟩) t.sums.length cs) ac t.cols.length cc c w)
  generalize hu : t.sums[k] = f at *
  have Hany := hid (fun w' (hx : Ext w w') b' o' hc hc' => HasLike _ (t.sums.take k) f b' o' w' ((hF.take k (by omega)).ext keeps_sm hx) hc hc')
  obtain ⟨col, by_, mx⟩ := f
  dsimp only at *
  have Hg := hid hg
  have Hu := hid hu
  have HC := hid hC
  have HF := hid hF
  clear hg hu hC hF hb
  cases h1 : isCol t col
  · have H1 := hid h1
    unfold isCol at h1
    have H1' := hid h1
    clear h1
    go_enter Tryd.func61, Tryd.ntmps61
    go_wp2_with fail
    refine (hhas.out col _).mono ?_
    rintro e w1 ⟨rfl, hx1⟩
    rw [H1'.out]
    go_wp2_with fail
    go_ret
    exact ⟨ret_int (by rw [Hg.out]; simp only [H1.out]; rfl), Ext.trans (Ext.alloc _ _) hx1⟩
  · have H1 := hid h1
    obtain ⟨b1, b2, b3, b4⟩ := isCol_bd h1
    obtain ⟨bc, oc, rfl, c0, c1, c2, c3, _⟩ := col_at HC.out b3
    have hca := hid (colAt_at b3)
    have Hnum := hid (fun w => number_any t.cols[col.toNat] w)
    unfold isCol at h1
    have H1' := hid h1
    have B4 := hid b4
    clear h1 b4
    have hbc : bc < w.heap.size := lt_of_cell c0
    cases h2 : isCol t by_
    · have H2 := hid h2
      unfold isCol at h2
      have H2' := hid h2
      clear h2
      go_enter Tryd.func61, Tryd.ntmps61
      go_wp2_with fail
      refine (hhas.out col _).mono ?_
      rintro e w1 ⟨rfl, hx1⟩
      rw [H1'.out]
      have x1 : Ext w w1 := Ext.trans (Ext.alloc _ _) hx1
      have f1 : w1.cell? ⟨w.heap.size, 1, none⟩ = some (.int .i64 by_) := hx1.cell (by simp [go_sem])
      replace e0 := x1.cell e0
      replace e1 := x1.cell e1
      replace e2 := x1.cell e2
      replace e3 := x1.cell e3
      replace e4 := x1.cell e4
      replace e5 := x1.cell e5
      go_wp2_with fail
      refine (hhas.out by_ _).mono ?_
      rintro e w2 ⟨rfl, hx2⟩
      rw [H2'.out]
      go_wp2_with fail
      go_ret
      exact ⟨ret_int (by rw [Hg.out]; simp only [H1.out, H2.out]; rfl), x1.trans hx2⟩
    · have H2 := hid h2
      obtain ⟨d1, d2, d3, d4⟩ := isCol_bd h2
      obtain ⟨_, _, h0, p0, p1, p2, p3, _⟩ := col_at HC.out d3
      cases h0
      have hcb := hid (colAt_at d3)
      have Hnumb := hid (fun w => number_any t.cols[by_.toNat] w)
      unfold isCol at h2
      have H2' := hid h2
      have D4 := hid d4
      clear h2 d4
      have HA : Hid (smErr t k = smE false (col == by_ || decide (mx < 0) || decide (1099511627776 < mx)) (!numCol t.cols[col.toNat] || !numCol t.cols[by_.toNat]) ((t.sums.take k).any (sameS ⟨col, by_, mx⟩))) := by
        unfold Hid
        rw [Hg.out, H1.out, H2.out, hca.out, hcb.out]
        rfl
      clear Hg
      by_cases hq : col = by_
      · have hq' : (col == by_) = true := by simpa using hq
        have Hq := hid hq
        clear hq
        go_enter Tryd.func61, Tryd.ntmps61
        go_wp2_with fail
        refine (hhas.out col _).mono ?_
        rintro e w1 ⟨rfl, hx1⟩
        rw [H1'.out]
        have x1 : Ext w w1 := Ext.trans (Ext.alloc _ _) hx1
        have f0 : w1.cell? ⟨w.heap.size, 0, none⟩ = some (.int .i64 col) := hx1.cell (by simp [go_sem])
        have f1 : w1.cell? ⟨w.heap.size, 1, none⟩ = some (.int .i64 by_) := hx1.cell (by simp [go_sem])
        have f2 : w1.cell? ⟨w.heap.size, 2, none⟩ = some (.int .i64 mx) := hx1.cell (by simp [go_sem])
        replace e0 := x1.cell e0
        replace e1 := x1.cell e1
        replace e2 := x1.cell e2
        replace e3 := x1.cell e3
        replace e4 := x1.cell e4
        replace e5 := x1.cell e5
        go_wp2_with fail
        refine (hhas.out by_ _).mono ?_
        rintro e w2 ⟨rfl, hx2⟩
        rw [H2'.out]
        replace f0 := hx2.cell f0
        replace f1 := hx2.cell f1
        replace f2 := hx2.cell f2
        replace e1 := hx2.cell e1
        replace e5 := hx2.cell e5
        have x2 := x1.trans hx2
        replace c0 := x2.cell c0
        replace c1 := x2.cell c1
        replace c2 := x2.cell c2
        replace c3 := x2.cell c3
        replace p0 := x2.cell p0
        replace p1 := x2.cell p1
        replace p2 := x2.cell p2
        replace p3 := x2.cell p3
        clear e0 e2 e3 e4 g0 g1 g2
        go_wp2_with fail
        go_ret
        exact ⟨ret_int (by rw [HA.out]; simp [smE, Hq.out]), x2⟩
      have hq' : (col == by_) = false := by simpa using hq
      by_cases hm : mx < 0
      · have hm' : decide (mx < 0) = true := by simpa using hm
        go_enter Tryd.func61, Tryd.ntmps61
        go_wp2_with fail
        refine (hhas.out col _).mono ?_
        rintro e w1 ⟨rfl, hx1⟩
        rw [H1'.out]
        have x1 : Ext w w1 := Ext.trans (Ext.alloc _ _) hx1
        have f0 : w1.cell? ⟨w.heap.size, 0, none⟩ = some (.int .i64 col) := hx1.cell (by simp [go_sem])
        have f1 : w1.cell? ⟨w.heap.size, 1, none⟩ = some (.int .i64 by_) := hx1.cell (by simp [go_sem])
        have f2 : w1.cell? ⟨w.heap.size, 2, none⟩ = some (.int .i64 mx) := hx1.cell (by simp [go_sem])
        replace e0 := x1.cell e0
        replace e1 := x1.cell e1
        replace e2 := x1.cell e2
        replace e3 := x1.cell e3
        replace e4 := x1.cell e4
        replace e5 := x1.cell e5
        go_wp2_with fail
        refine (hhas.out by_ _).mono ?_
        rintro e w2 ⟨rfl, hx2⟩
        rw [H2'.out]
        replace f0 := hx2.cell f0
        replace f1 := hx2.cell f1
        replace f2 := hx2.cell f2
        replace e1 := hx2.cell e1
        replace e5 := hx2.cell e5
        have x2 := x1.trans hx2
        replace c0 := x2.cell c0
        replace c1 := x2.cell c1
        replace c2 := x2.cell c2
        replace c3 := x2.cell c3
        replace p0 := x2.cell p0
        replace p1 := x2.cell p1
        replace p2 := x2.cell p2
        replace p3 := x2.cell p3
        clear e0 e2 e3 e4 g0 g1 g2
        go_wp2_with fail
        go_ret
        exact ⟨ret_int (by rw [HA.out]; simp [smE, hm]), x2⟩
      have hm' : decide (mx < 0) = false := by simpa using hm
      by_cases hn : 1099511627776 < mx
      · have hn' : decide (1099511627776 < mx) = true := by simpa using hn
        go_enter Tryd.func61, Tryd.ntmps61
        go_wp2_with fail
        refine (hhas.out col _).mono ?_
        rintro e w1 ⟨rfl, hx1⟩
        rw [H1'.out]
        have x1 : Ext w w1 := Ext.trans (Ext.alloc _ _) hx1
        have f0 : w1.cell? ⟨w.heap.size, 0, none⟩ = some (.int .i64 col) := hx1.cell (by simp [go_sem])
        have f1 : w1.cell? ⟨w.heap.size, 1, none⟩ = some (.int .i64 by_) := hx1.cell (by simp [go_sem])
        have f2 : w1.cell? ⟨w.heap.size, 2, none⟩ = some (.int .i64 mx) := hx1.cell (by simp [go_sem])
        replace e0 := x1.cell e0
        replace e1 := x1.cell e1
        replace e2 := x1.cell e2
        replace e3 := x1.cell e3
        replace e4 := x1.cell e4
        replace e5 := x1.cell e5
        go_wp2_with fail
        refine (hhas.out by_ _).mono ?_
        rintro e w2 ⟨rfl, hx2⟩
        rw [H2'.out]
        replace f0 := hx2.cell f0
        replace f1 := hx2.cell f1
        replace f2 := hx2.cell f2
        replace e1 := hx2.cell e1
        replace e5 := hx2.cell e5
        have x2 := x1.trans hx2
        replace c0 := x2.cell c0
        replace c1 := x2.cell c1
        replace c2 := x2.cell c2
        replace c3 := x2.cell c3
        replace p0 := x2.cell p0
        replace p1 := x2.cell p1
        replace p2 := x2.cell p2
        replace p3 := x2.cell p3
        clear e0 e2 e3 e4 g0 g1 g2
        go_wp2_with fail
        go_ret
        exact ⟨ret_int (by rw [HA.out]; simp [smE, hn]), x2⟩
      have hn' : decide (1099511627776 < mx) = false := by simpa using hn
      cases hnu : numCol t.cols[col.toNat]
      · have Hnu := hid hnu
        clear hnu
        go_enter Tryd.func61, Tryd.ntmps61
        go_wp2_with fail
        refine (hhas.out col _).mono ?_
        rintro e w1 ⟨rfl, hx1⟩
        rw [H1'.out]
        have x1 : Ext w w1 := Ext.trans (Ext.alloc _ _) hx1
        have f0 : w1.cell? ⟨w.heap.size, 0, none⟩ = some (.int .i64 col) := hx1.cell (by simp [go_sem])
        have f1 : w1.cell? ⟨w.heap.size, 1, none⟩ = some (.int .i64 by_) := hx1.cell (by simp [go_sem])
        have f2 : w1.cell? ⟨w.heap.size, 2, none⟩ = some (.int .i64 mx) := hx1.cell (by simp [go_sem])
        replace e0 := x1.cell e0
        replace e1 := x1.cell e1
        replace e2 := x1.cell e2
        replace e3 := x1.cell e3
        replace e4 := x1.cell e4
        replace e5 := x1.cell e5
        go_wp2_with fail
        refine (hhas.out by_ _).mono ?_
        rintro e w2 ⟨rfl, hx2⟩
        rw [H2'.out]
        replace f0 := hx2.cell f0
        replace f1 := hx2.cell f1
        replace f2 := hx2.cell f2
        replace e1 := hx2.cell e1
        replace e5 := hx2.cell e5
        have x2 := x1.trans hx2
        replace c0 := x2.cell c0
        replace c1 := x2.cell c1
        replace c2 := x2.cell c2
        replace c3 := x2.cell c3
        replace p0 := x2.cell p0
        replace p1 := x2.cell p1
        replace p2 := x2.cell p2
        replace p3 := x2.cell p3
        clear e0 e2 e3 e4 g0 g1 g2
        go_wp2_with fail
        refine (Hnum.out _).mono ?_
        rintro e w3 ⟨rfl, hx3⟩
        rw [Hnu.out]
        go_wp2_with fail
        go_ret
        exact ⟨ret_int (by rw [HA.out]; simp [smE, hq, hm, hn, Hnu.out]), x2.trans hx3⟩
      · have Hnu := hid hnu
        clear hnu
        cases hnb : numCol t.cols[by_.toNat]
        · have Hnb := hid hnb
          clear hnb
          go_enter Tryd.func61, Tryd.ntmps61
          go_wp2_with fail
          refine (hhas.out col _).mono ?_
          rintro e w1 ⟨rfl, hx1⟩
          rw [H1'.out]
          have x1 : Ext w w1 := Ext.trans (Ext.alloc _ _) hx1
          have f0 : w1.cell? ⟨w.heap.size, 0, none⟩ = some (.int .i64 col) := hx1.cell (by simp [go_sem])
          have f1 : w1.cell? ⟨w.heap.size, 1, none⟩ = some (.int .i64 by_) := hx1.cell (by simp [go_sem])
          have f2 : w1.cell? ⟨w.heap.size, 2, none⟩ = some (.int .i64 mx) := hx1.cell (by simp [go_sem])
          replace e0 := x1.cell e0
          replace e1 := x1.cell e1
          replace e2 := x1.cell e2
          replace e3 := x1.cell e3
          replace e4 := x1.cell e4
          replace e5 := x1.cell e5
          go_wp2_with fail
          refine (hhas.out by_ _).mono ?_
          rintro e w2 ⟨rfl, hx2⟩
          rw [H2'.out]
          replace f0 := hx2.cell f0
          replace f1 := hx2.cell f1
          replace f2 := hx2.cell f2
          replace e1 := hx2.cell e1
          replace e5 := hx2.cell e5
          have x2 := x1.trans hx2
          replace c0 := x2.cell c0
          replace c1 := x2.cell c1
          replace c2 := x2.cell c2
          replace c3 := x2.cell c3
          replace p0 := x2.cell p0
          replace p1 := x2.cell p1
          replace p2 := x2.cell p2
          replace p3 := x2.cell p3
          clear e0 e2 e3 e4 g0 g1 g2
          go_wp2_with fail
          refine (Hnum.out _).mono ?_
          rintro e w3 ⟨rfl, hx3⟩
          rw [Hnu.out]
          have x3 := x2.trans hx3
          replace e1 := hx3.cell e1
          replace f0 := hx3.cell f0
          replace f1 := hx3.cell f1
          replace p0 := hx3.cell p0
          replace p1 := hx3.cell p1
          replace p2 := hx3.cell p2
          replace p3 := hx3.cell p3
          go_wp2_with fail
          refine (Hnumb.out _).mono ?_
          rintro e w4 ⟨rfl, hx4⟩
          rw [Hnb.out]
          go_wp2_with fail
          go_ret
          exact ⟨ret_int (by rw [HA.out]; simp [smE, hq, hm, hn, Hnu.out, Hnb.out]), x3.trans hx4⟩
        · have Hnb := hid hnb
          clear hnb
          cases han : (t.sums.take k).any (sameS ⟨col, by_, mx⟩)
          all_goals
            have Han := hid han
            clear han
            go_enter Tryd.func61, Tryd.ntmps61
            go_wp2_with fail
            refine (hhas.out col _).mono ?_
            rintro e w1 ⟨rfl, hx1⟩
            rw [H1'.out]
            have x1 : Ext w w1 := Ext.trans (Ext.alloc _ _) hx1
            have f0 : w1.cell? ⟨w.heap.size, 0, none⟩ = some (.int .i64 col) := hx1.cell (by simp [go_sem])
            have f1 : w1.cell? ⟨w.heap.size, 1, none⟩ = some (.int .i64 by_) := hx1.cell (by simp [go_sem])
            have f2 : w1.cell? ⟨w.heap.size, 2, none⟩ = some (.int .i64 mx) := hx1.cell (by simp [go_sem])
            replace e0 := x1.cell e0
            replace e1 := x1.cell e1
            replace e2 := x1.cell e2
            replace e3 := x1.cell e3
            replace e4 := x1.cell e4
            replace e5 := x1.cell e5
            go_wp2_with fail
            refine (hhas.out by_ _).mono ?_
            rintro e w2 ⟨rfl, hx2⟩
            rw [H2'.out]
            replace f0 := hx2.cell f0
            replace f1 := hx2.cell f1
            replace f2 := hx2.cell f2
            replace e1 := hx2.cell e1
            replace e5 := hx2.cell e5
            have x2 := x1.trans hx2
            replace c0 := x2.cell c0
            replace c1 := x2.cell c1
            replace c2 := x2.cell c2
            replace c3 := x2.cell c3
            replace p0 := x2.cell p0
            replace p1 := x2.cell p1
            replace p2 := x2.cell p2
            replace p3 := x2.cell p3
            clear e0 e2 e3 e4 g0 g1 g2
            go_wp2_with fail
            refine (Hnum.out _).mono ?_
            rintro e w3 ⟨rfl, hx3⟩
            rw [Hnu.out]
            have x3 := x2.trans hx3
            replace e1 := hx3.cell e1
            replace e5 := hx3.cell e5
            replace f0 := hx3.cell f0
            replace f1 := hx3.cell f1
            replace p0 := hx3.cell p0
            replace p1 := hx3.cell p1
            replace p2 := hx3.cell p2
            replace p3 := hx3.cell p3
            go_wp2_with fail
            refine (Hnumb.out _).mono ?_
            rintro e w4 ⟨rfl, hx4⟩
            rw [Hnb.out]
            have x4 := x3.trans hx4
            replace e5 := hx4.cell e5
            replace f0 := hx4.cell f0
            replace f1 := hx4.cell f1
            go_wp2_with fail
            refine (Hany.out _ x4 _ _ f0 f1).mono ?_
            rintro e w5 ⟨rfl, hx5⟩
            rw [Han.out]
            go_wp2_with fail
            go_ret
            exact ⟨ret_int (by rw [HA.out]; simp [smE, hq, hm, hn, Hnu.out, Hnb.out, Han.out]), x4.trans hx5⟩
theorem enSm : Enters Tryd.prog 61 := enters_of Tryd.func61 (by kernel_rfl) (by kernel_rfl)
set_option maxHeartbeats 400000 in
theorem sums_any (t : Tbl) (l : List Value) (w : World) (h : tblOk w t l) :
    Calls Tryd.prog 47 #[.agg l.toArray] w fun e w' => e = .returned (.int .i64 (firstE t.sums.length (smErr t))) ∧ Ext w w' := by
  have HB := hid (BoxT.new h 36)
  obtain ⟨vc, vu, ak, ck, vf, vs, rfl, _, _, _, _, _, h4⟩ := h.out
  obtain ⟨ac, cc, rfl, _, hlen, _⟩ := h4.form
  clear h4 h
  go_enter Tryd.func47, Tryd.ntmps47
  go_wp2_with fail
  refine (first_any _ enSm _ _ (smErr t) _ hlen (fun w' k hx hk _ => by exact sumLook _ t k w' (HB.out.ext hx) hk)).mono ?_
  rintro e w1 ⟨rfl, hx⟩
  go_wp2_with fail
  go_ret
  exact ⟨rfl, Ext.trans (Ext.alloc _ _) hx⟩
end Go.Proofs.YtgelmhcbiffghaaDoor
