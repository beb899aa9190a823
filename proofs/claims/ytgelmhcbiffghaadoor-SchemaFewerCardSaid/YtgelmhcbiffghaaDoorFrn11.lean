/-
  WHAT IS PROVED HERE: what schema's ask of a table's foreign keys answers.
-/
import Derived.Test.YtgelmhcbiffghaaDoorUnq11
import Derived.Deep.QuietTactic
import Derived.BigQuiet
namespace Go.Proofs.YtgelmhcbiffghaaDoor
open Go.RowKit

/-- The box of a schema that a closure holds. -/
def BoxS (w : World) (b : Nat) (n : Nat) : Prop := ∃ a cap, w.cell? ⟨b, 0, none⟩ = some (.slice a n cap)
theorem BoxS.ext {w w' : World} {b n : Nat} (h : BoxS w b n) (hx : Ext w w') : BoxS w' b n := by
  obtain ⟨a, cap, h⟩ := h
  exact ⟨a, cap, hx.cell h⟩

def frnE (a b c : Bool) : Int := if a then 4 else if b then 1 else if c then 6 else 0
theorem frnErr_eq (n : Nat) (t : Tbl) (k : Nat) (f : Frn) (h : t.frn.getD k default = f) : frnErr n t k = frnE (!isCol t f.col || decide (f.tab < 0) || decide ((n : Int) ≤ f.tab)) ((decide (0 < k) && decide (f.col ≤ (t.frn.getD (k - 1) default).col)) || decide (f.act < 0) || decide (2 < f.act)) (!numCol (colAt t f.col) || (f.act == 2 && !(colAt t f.col).null)) := by
  subst h; rfl

set_option maxHeartbeats 1000000 in
theorem foreignLook (b bs : Nat) (t : Tbl) (n k : Nat) (w : World) (hb : BoxT w b t) (hs : BoxS w bs n) (hk : k < t.frn.length) :
    Calls Tryd.prog 60 #[.int .i64 k, .pointer (some ⟨b, 0, none⟩), .pointer (some ⟨bs, 0, none⟩)] w fun e w' => e = .returned (.int .i64 (frnErr n t k)) ∧ Ext w w' := by
  obtain ⟨ac, cc, au, cu, ak, ck, af, cf, am, cs, hlt, e0, e1, e2, e3, e4, e5, hC, _, hF, _⟩ := hb.open
  obtain ⟨sa, cas, s0⟩ := hs
  have hlen : t.frn.length ≤ 9223372036854775807 := by obtain ⟨_, _, _, _, h, _⟩ := hF.form; exact h
  obtain ⟨bf, of, rfl, g0, g1, g2, hi, _⟩ := frn_at hF hk
  have hbf : bf < w.heap.size := lt_of_cell g0
  have hbs : bs < w.heap.size := lt_of_cell s0
  have hg := frnErr_eq n t k _ (getD_at hk default)
  have hhas := hid (fun c w => has_any (.string t.name) (.slice au t.uniq.length cu) (.slice ak t.checks ck) (.slice (some ⟨bf, of, none⟩) t.frn.length cf) (.slice am t.sums.length cs) ac t.cols.length cc c w)
  generalize hu : t.frn[k] = f at *
  obtain ⟨col, tab, act⟩ := f
  dsimp only at *
  have Hg := hid hg
  have Hu := hid hu
  have HC := hid hC
  have HF := hid hF
  clear hg hu hC hF hb
  cases h1 : isCol t col
  · have H1 := hid h1
    unfold isCol at h1
    have H1' := hid h1
    clear h1
    go_enter Tryd.func60, Tryd.ntmps60
    go_wp2_with fail
    refine (hhas.out col _).mono ?_
    rintro e w1 ⟨rfl, hx1⟩
    rw [H1'.out]
    go_wp2_with fail
    go_ret
    exact ⟨ret_int (by rw [Hg.out]; simp only [H1.out]; rfl), Ext.trans (Ext.alloc _ _) hx1⟩
  · have H1 := hid h1
    obtain ⟨b1, b2, b3, b4⟩ := isCol_bd h1
    obtain ⟨bc, oc, rfl, c0, c1, c2, c3, _⟩ := col_at HC.out b3
    have hca := hid (colAt_at b3)
    have Hnum := hid (fun w => number_any t.cols[col.toNat] w)
    unfold isCol at h1
    have H1' := hid h1
    have B4 := hid b4
    clear h1 b4
    have S0 := hid s0
    have hbc : bc < w.heap.size := lt_of_cell c0
    by_cases ht : tab < 0 ∨ (n : Int) ≤ tab
    · go_enter Tryd.func60, Tryd.ntmps60
      go_wp2_with fail
      refine (hhas.out col _).mono ?_
      rintro e w1 ⟨rfl, hx1⟩
      rw [H1'.out]
      have x1 : Ext w w1 := Ext.trans (Ext.alloc _ _) hx1
      have s1 := x1.cell s0
      have f1 : w1.cell? ⟨w.heap.size, 1, none⟩ = some (.int .i64 tab) := hx1.cell (by simp [go_sem])
      rcases Int.lt_or_le tab 0 with h | h
      · have h' : decide (tab < 0) = true := by simpa using h
        go_wp2_with fail
        go_ret
        exact ⟨ret_int (by rw [Hg.out]; simp [frnE, h]), x1⟩
      · have h' : decide (tab < 0) = false := by simpa using h
        have h2 : (n : Int) ≤ tab := by omega
        have h2' : decide ((n : Int) ≤ tab) = true := by simpa using h2
        go_wp2_with fail
        go_ret
        exact ⟨ret_int (by rw [Hg.out]; simp [frnE, h2]), x1⟩
    have t1 : decide (tab < 0) = false := by simp; omega
    have t2 : decide ((n : Int) ≤ tab) = false := by simp; omega
    have HA : Hid (frnErr n t k = frnE false ((decide (0 < k) && decide (col ≤ (t.frn.getD (k - 1) default).col)) || decide (act < 0) || decide (2 < act)) (!numCol (t.cols[col.toNat]) || (act == 2 && !(t.cols[col.toNat]).null))) := by
      unfold Hid
      rw [Hg.out, H1.out, t1, t2, hca.out]
      rfl
    clear Hg ht
    have key : ∀ q : Bool, q = (decide (0 < k) && decide (col ≤ (t.frn.getD (k - 1) default).col)) → Hid (frnErr n t k = frnE false (q || decide (act < 0) || decide (2 < act)) (!numCol (t.cols[col.toNat]) || (act == 2 && !(t.cols[col.toNat]).null))) := fun q hq => by rw [hq]; exact HA
    by_cases hk0 : k < 1
    · have HQ := key false (by simp; omega)
      have k0 : decide (0 < (k : Int)) = false := by simp; omega
      have k0' : decide (0 < k) = false := by simp; omega
      clear key HA
      by_cases ha : act < 0
      · have ha' : decide (act < 0) = true := by simpa using ha
        go_enter Tryd.func60, Tryd.ntmps60
        go_wp2_with fail
        refine (hhas.out col _).mono ?_
        rintro e w1 ⟨rfl, hx1⟩
        rw [H1'.out]
        have x1 : Ext w w1 := Ext.trans (Ext.alloc _ _) hx1
        have s1 := x1.cell s0
        have f0 : w1.cell? ⟨w.heap.size, 0, none⟩ = some (.int .i64 col) := hx1.cell (by simp [go_sem])
        have f1 : w1.cell? ⟨w.heap.size, 1, none⟩ = some (.int .i64 tab) := hx1.cell (by simp [go_sem])
        have f2 : w1.cell? ⟨w.heap.size, 2, none⟩ = some (.int .i64 act) := hx1.cell (by simp [go_sem])
        replace e1 := x1.cell e1
        replace e4 := x1.cell e4
        replace c0 := x1.cell c0
        replace c1 := x1.cell c1
        replace c2 := x1.cell c2
        replace c3 := x1.cell c3
        clear s0 e0 e2 e3 e5 g0 g1 g2
        go_wp2_with fail
        go_quiet (fail)
        go_wp2_with fail
        go_ret
        exact ⟨ret_int (by rw [HQ.out]; simp [frnE, ha]), x1.drewNR _⟩
      have ha' : decide (act < 0) = false := by simpa using ha
      by_cases ha2 : 2 < act
      · have ha2' : decide (2 < act) = true := by simpa using ha2
        go_enter Tryd.func60, Tryd.ntmps60
        go_wp2_with fail
        refine (hhas.out col _).mono ?_
        rintro e w1 ⟨rfl, hx1⟩
        rw [H1'.out]
        have x1 : Ext w w1 := Ext.trans (Ext.alloc _ _) hx1
        have s1 := x1.cell s0
        have f0 : w1.cell? ⟨w.heap.size, 0, none⟩ = some (.int .i64 col) := hx1.cell (by simp [go_sem])
        have f1 : w1.cell? ⟨w.heap.size, 1, none⟩ = some (.int .i64 tab) := hx1.cell (by simp [go_sem])
        have f2 : w1.cell? ⟨w.heap.size, 2, none⟩ = some (.int .i64 act) := hx1.cell (by simp [go_sem])
        replace e1 := x1.cell e1
        replace e4 := x1.cell e4
        replace c0 := x1.cell c0
        replace c1 := x1.cell c1
        replace c2 := x1.cell c2
        replace c3 := x1.cell c3
        clear s0 e0 e2 e3 e5 g0 g1 g2
        go_wp2_with fail
        go_quiet (fail)
        go_wp2_with fail
        go_ret
        exact ⟨ret_int (by rw [HQ.out]; simp [frnE, ha2]), x1.drewNR _⟩
      have ha2' : decide (2 < act) = false := by simpa using ha2
      cases hnu : numCol t.cols[col.toNat]
      · have Hnu := hid hnu
        clear hnu
        go_enter Tryd.func60, Tryd.ntmps60
        go_wp2_with fail
        refine (hhas.out col _).mono ?_
        rintro e w1 ⟨rfl, hx1⟩
        rw [H1'.out]
        have x1 : Ext w w1 := Ext.trans (Ext.alloc _ _) hx1
        have s1 := x1.cell s0
        have f0 : w1.cell? ⟨w.heap.size, 0, none⟩ = some (.int .i64 col) := hx1.cell (by simp [go_sem])
        have f1 : w1.cell? ⟨w.heap.size, 1, none⟩ = some (.int .i64 tab) := hx1.cell (by simp [go_sem])
        have f2 : w1.cell? ⟨w.heap.size, 2, none⟩ = some (.int .i64 act) := hx1.cell (by simp [go_sem])
        replace e1 := x1.cell e1
        replace e4 := x1.cell e4
        replace c0 := x1.cell c0
        replace c1 := x1.cell c1
        replace c2 := x1.cell c2
        replace c3 := x1.cell c3
        clear s0 e0 e2 e3 e5 g0 g1 g2
        go_wp2_with fail
        go_quiet (fail)
        go_wp2_with fail
        refine (Hnum.out _).mono ?_
        rintro e w2 ⟨rfl, hx2⟩
        rw [Hnu.out]
        go_wp2_with fail
        go_ret
        exact ⟨ret_int (by rw [HQ.out]; simp [frnE, ha, ha2, Hnu.out]), (x1.drewNR _).trans hx2⟩
      · have Hnu := hid hnu
        clear hnu
        by_cases h2 : act = 2
        · have h2' : (act == 2) = true := by simpa using h2
          have H2 := hid h2
          clear h2
          cases hnl : (t.cols[col.toNat]).null
          all_goals
            have Hnl := hid hnl
            clear hnl
            go_enter Tryd.func60, Tryd.ntmps60
            go_wp2_with fail
            refine (hhas.out col _).mono ?_
            rintro e w1 ⟨rfl, hx1⟩
            rw [H1'.out]
            have x1 : Ext w w1 := Ext.trans (Ext.alloc _ _) hx1
            have s1 := x1.cell s0
            have f0 : w1.cell? ⟨w.heap.size, 0, none⟩ = some (.int .i64 col) := hx1.cell (by simp [go_sem])
            have f1 : w1.cell? ⟨w.heap.size, 1, none⟩ = some (.int .i64 tab) := hx1.cell (by simp [go_sem])
            have f2 : w1.cell? ⟨w.heap.size, 2, none⟩ = some (.int .i64 act) := hx1.cell (by simp [go_sem])
            replace e1 := x1.cell e1
            replace e4 := x1.cell e4
            replace c0 := x1.cell c0
            replace c1 := x1.cell c1
            replace c2 := x1.cell c2
            replace c3 := x1.cell c3
            clear s0 e0 e2 e3 e5 g0 g1 g2
            go_wp2_with fail
            go_quiet (fail)
            go_wp2_with fail
            refine (Hnum.out _).mono ?_
            rintro e w2 ⟨rfl, hx2⟩
            rw [Hnu.out]
            replace f0 := (hx2.cell (p := ⟨w.heap.size, 0, none⟩) f0)
            replace f2 := (hx2.cell (p := ⟨w.heap.size, 2, none⟩) f2)
            replace e1 := (hx2.cell (p := ⟨b, 1, none⟩) e1)
            replace c3 := (hx2.cell (p := ⟨bc, oc + col.toNat * 4 + 3, none⟩) c3)
            rw [Hnl.out] at c3
            go_wp2_with fail
            go_ret
            exact ⟨ret_int (by rw [HQ.out]; simp [frnE, Hnu.out, Hnl.out, H2.out]), (x1.drewNR _).trans hx2⟩
        · have h2' : (act == 2) = false := by simpa using h2
          go_enter Tryd.func60, Tryd.ntmps60
          go_wp2_with fail
          refine (hhas.out col _).mono ?_
          rintro e w1 ⟨rfl, hx1⟩
          rw [H1'.out]
          have x1 : Ext w w1 := Ext.trans (Ext.alloc _ _) hx1
          have s1 := x1.cell s0
          have f0 : w1.cell? ⟨w.heap.size, 0, none⟩ = some (.int .i64 col) := hx1.cell (by simp [go_sem])
          have f1 : w1.cell? ⟨w.heap.size, 1, none⟩ = some (.int .i64 tab) := hx1.cell (by simp [go_sem])
          have f2 : w1.cell? ⟨w.heap.size, 2, none⟩ = some (.int .i64 act) := hx1.cell (by simp [go_sem])
          replace e1 := x1.cell e1
          replace e4 := x1.cell e4
          replace c0 := x1.cell c0
          replace c1 := x1.cell c1
          replace c2 := x1.cell c2
          replace c3 := x1.cell c3
          clear s0 e0 e2 e3 e5 g0 g1 g2
          go_wp2_with fail
          go_quiet (fail)
          go_wp2_with fail
          refine (Hnum.out _).mono ?_
          rintro e w2 ⟨rfl, hx2⟩
          rw [Hnu.out]
          replace f0 := (hx2.cell (p := ⟨w.heap.size, 0, none⟩) f0)
          replace f2 := (hx2.cell (p := ⟨w.heap.size, 2, none⟩) f2)
          replace e1 := (hx2.cell (p := ⟨b, 1, none⟩) e1)
          replace c3 := (hx2.cell (p := ⟨bc, oc + col.toNat * 4 + 3, none⟩) c3)
          go_wp2_with fail
          go_ret
          exact ⟨ret_int (by rw [HQ.out]; simp [frnE, ha, ha2, Hnu.out, h2]), (x1.drewNR _).trans hx2⟩
    · obtain ⟨_, _, h0, p0, _⟩ := frn_at HF.out (show k - 1 < t.frn.length by omega)
      cases h0
      have Hp := hid (getD_at (show k - 1 < t.frn.length by omega) default)
      generalize t.frn[k - 1] = p at *
      have k0 : decide (0 < (k : Int)) = true := by simp; omega
      have k0' : decide (0 < k) = true := by simp; omega
      have k1 : 0 ≤ (k : Int) - 1 := by omega
      have k3 : IntKind.i64.wrap ((k : Int) - 1) = (k : Int) - 1 := IntWalk.i64_in _ (by omega)
      have k4 : 1 ≤ (k : Int) := by omega
      have k5 : (k : Int) - 1 < (t.frn.length : Int) := by omega
      have k2 : ((k : Int) - 1).toNat = k - 1 := by omega
      by_cases hup : col ≤ p.col
      · have HQ := key true (by rw [Hp.out]; simp; omega)
        have hup' : decide (col ≤ p.col) = true := by simpa using hup
        clear key HA
        go_enter Tryd.func60, Tryd.ntmps60
        go_wp2_with fail
        refine (hhas.out col _).mono ?_
        rintro e w1 ⟨rfl, hx1⟩
        rw [H1'.out]
        have x1 : Ext w w1 := Ext.trans (Ext.alloc _ _) hx1
        have s1 := x1.cell s0
        have f0 : w1.cell? ⟨w.heap.size, 0, none⟩ = some (.int .i64 col) := hx1.cell (by simp [go_sem])
        have f1 : w1.cell? ⟨w.heap.size, 1, none⟩ = some (.int .i64 tab) := hx1.cell (by simp [go_sem])
        have f2 : w1.cell? ⟨w.heap.size, 2, none⟩ = some (.int .i64 act) := hx1.cell (by simp [go_sem])
        replace e1 := x1.cell e1
        replace e4 := x1.cell e4
        replace c0 := x1.cell c0
        replace c1 := x1.cell c1
        replace c2 := x1.cell c2
        replace c3 := x1.cell c3
        replace p0 := x1.cell p0
        clear s0 e0 e2 e3 e5 g0 g1 g2
        go_wp2_with fail
        go_quiet (fail)
        go_wp2_with fail
        go_ret
        exact ⟨ret_int (by rw [HQ.out]; simp [frnE]), x1.drewNR _⟩
      · have HQ := key false (by rw [Hp.out]; simp; omega)
        have hup' : decide (col ≤ p.col) = false := by simpa using hup
        clear key HA
        by_cases ha : act < 0
        · have ha' : decide (act < 0) = true := by simpa using ha
          go_enter Tryd.func60, Tryd.ntmps60
          go_wp2_with fail
          refine (hhas.out col _).mono ?_
          rintro e w1 ⟨rfl, hx1⟩
          rw [H1'.out]
          have x1 : Ext w w1 := Ext.trans (Ext.alloc _ _) hx1
          have s1 := x1.cell s0
          have f0 : w1.cell? ⟨w.heap.size, 0, none⟩ = some (.int .i64 col) := hx1.cell (by simp [go_sem])
          have f1 : w1.cell? ⟨w.heap.size, 1, none⟩ = some (.int .i64 tab) := hx1.cell (by simp [go_sem])
          have f2 : w1.cell? ⟨w.heap.size, 2, none⟩ = some (.int .i64 act) := hx1.cell (by simp [go_sem])
          replace e1 := x1.cell e1
          replace e4 := x1.cell e4
          replace c0 := x1.cell c0
          replace c1 := x1.cell c1
          replace c2 := x1.cell c2
          replace c3 := x1.cell c3
          replace p0 := x1.cell p0
          clear s0 e0 e2 e3 e5 g0 g1 g2
          go_wp2_with fail
          go_quiet (fail)
          go_wp2_with fail
          go_ret
          exact ⟨ret_int (by rw [HQ.out]; simp [frnE, ha]), x1.drewNR _⟩
        have ha' : decide (act < 0) = false := by simpa using ha
        by_cases ha2 : 2 < act
        · have ha2' : decide (2 < act) = true := by simpa using ha2
          go_enter Tryd.func60, Tryd.ntmps60
          go_wp2_with fail
          refine (hhas.out col _).mono ?_
          rintro e w1 ⟨rfl, hx1⟩
          rw [H1'.out]
          have x1 : Ext w w1 := Ext.trans (Ext.alloc _ _) hx1
          have s1 := x1.cell s0
          have f0 : w1.cell? ⟨w.heap.size, 0, none⟩ = some (.int .i64 col) := hx1.cell (by simp [go_sem])
          have f1 : w1.cell? ⟨w.heap.size, 1, none⟩ = some (.int .i64 tab) := hx1.cell (by simp [go_sem])
          have f2 : w1.cell? ⟨w.heap.size, 2, none⟩ = some (.int .i64 act) := hx1.cell (by simp [go_sem])
          replace e1 := x1.cell e1
          replace e4 := x1.cell e4
          replace c0 := x1.cell c0
          replace c1 := x1.cell c1
          replace c2 := x1.cell c2
          replace c3 := x1.cell c3
          replace p0 := x1.cell p0
          clear s0 e0 e2 e3 e5 g0 g1 g2
          go_wp2_with fail
          go_quiet (fail)
          go_wp2_with fail
          go_ret
          exact ⟨ret_int (by rw [HQ.out]; simp [frnE, ha2]), x1.drewNR _⟩
        have ha2' : decide (2 < act) = false := by simpa using ha2
        cases hnu : numCol t.cols[col.toNat]
        · have Hnu := hid hnu
          clear hnu
          go_enter Tryd.func60, Tryd.ntmps60
          go_wp2_with fail
          refine (hhas.out col _).mono ?_
          rintro e w1 ⟨rfl, hx1⟩
          rw [H1'.out]
          have x1 : Ext w w1 := Ext.trans (Ext.alloc _ _) hx1
          have s1 := x1.cell s0
          have f0 : w1.cell? ⟨w.heap.size, 0, none⟩ = some (.int .i64 col) := hx1.cell (by simp [go_sem])
          have f1 : w1.cell? ⟨w.heap.size, 1, none⟩ = some (.int .i64 tab) := hx1.cell (by simp [go_sem])
          have f2 : w1.cell? ⟨w.heap.size, 2, none⟩ = some (.int .i64 act) := hx1.cell (by simp [go_sem])
          replace e1 := x1.cell e1
          replace e4 := x1.cell e4
          replace c0 := x1.cell c0
          replace c1 := x1.cell c1
          replace c2 := x1.cell c2
          replace c3 := x1.cell c3
          replace p0 := x1.cell p0
          clear s0 e0 e2 e3 e5 g0 g1 g2
          go_wp2_with fail
          go_quiet (fail)
          go_wp2_with fail
          refine (Hnum.out _).mono ?_
          rintro e w2 ⟨rfl, hx2⟩
          rw [Hnu.out]
          go_wp2_with fail
          go_ret
          exact ⟨ret_int (by rw [HQ.out]; simp [frnE, ha, ha2, Hnu.out]), (x1.drewNR _).trans hx2⟩
        · have Hnu := hid hnu
          clear hnu
          by_cases h2 : act = 2
          · have h2' : (act == 2) = true := by simpa using h2
            have H2 := hid h2
            clear h2
            cases hnl : (t.cols[col.toNat]).null
            all_goals
              have Hnl := hid hnl
              clear hnl
              go_enter Tryd.func60, Tryd.ntmps60
              go_wp2_with fail
              refine (hhas.out col _).mono ?_
              rintro e w1 ⟨rfl, hx1⟩
              rw [H1'.out]
              have x1 : Ext w w1 := Ext.trans (Ext.alloc _ _) hx1
              have s1 := x1.cell s0
              have f0 : w1.cell? ⟨w.heap.size, 0, none⟩ = some (.int .i64 col) := hx1.cell (by simp [go_sem])
              have f1 : w1.cell? ⟨w.heap.size, 1, none⟩ = some (.int .i64 tab) := hx1.cell (by simp [go_sem])
              have f2 : w1.cell? ⟨w.heap.size, 2, none⟩ = some (.int .i64 act) := hx1.cell (by simp [go_sem])
              replace e1 := x1.cell e1
              replace e4 := x1.cell e4
              replace c0 := x1.cell c0
              replace c1 := x1.cell c1
              replace c2 := x1.cell c2
              replace c3 := x1.cell c3
              replace p0 := x1.cell p0
              clear s0 e0 e2 e3 e5 g0 g1 g2
              go_wp2_with fail
              go_quiet (fail)
              go_wp2_with fail
              refine (Hnum.out _).mono ?_
              rintro e w2 ⟨rfl, hx2⟩
              rw [Hnu.out]
              replace f0 := (hx2.cell (p := ⟨w.heap.size, 0, none⟩) f0)
              replace f2 := (hx2.cell (p := ⟨w.heap.size, 2, none⟩) f2)
              replace e1 := (hx2.cell (p := ⟨b, 1, none⟩) e1)
              replace c3 := (hx2.cell (p := ⟨bc, oc + col.toNat * 4 + 3, none⟩) c3)
              rw [Hnl.out] at c3
              go_wp2_with fail
              go_ret
              exact ⟨ret_int (by rw [HQ.out]; simp [frnE, Hnu.out, Hnl.out, H2.out]), (x1.drewNR _).trans hx2⟩
          · have h2' : (act == 2) = false := by simpa using h2
            go_enter Tryd.func60, Tryd.ntmps60
            go_wp2_with fail
            refine (hhas.out col _).mono ?_
            rintro e w1 ⟨rfl, hx1⟩
            rw [H1'.out]
            have x1 : Ext w w1 := Ext.trans (Ext.alloc _ _) hx1
            have s1 := x1.cell s0
            have f0 : w1.cell? ⟨w.heap.size, 0, none⟩ = some (.int .i64 col) := hx1.cell (by simp [go_sem])
            have f1 : w1.cell? ⟨w.heap.size, 1, none⟩ = some (.int .i64 tab) := hx1.cell (by simp [go_sem])
            have f2 : w1.cell? ⟨w.heap.size, 2, none⟩ = some (.int .i64 act) := hx1.cell (by simp [go_sem])
            replace e1 := x1.cell e1
            replace e4 := x1.cell e4
            replace c0 := x1.cell c0
            replace c1 := x1.cell c1
            replace c2 := x1.cell c2
            replace c3 := x1.cell c3
            replace p0 := x1.cell p0
            clear s0 e0 e2 e3 e5 g0 g1 g2
            go_wp2_with fail
            go_quiet (fail)
            go_wp2_with fail
            refine (Hnum.out _).mono ?_
            rintro e w2 ⟨rfl, hx2⟩
            rw [Hnu.out]
            replace f0 := (hx2.cell (p := ⟨w.heap.size, 0, none⟩) f0)
            replace f2 := (hx2.cell (p := ⟨w.heap.size, 2, none⟩) f2)
            replace e1 := (hx2.cell (p := ⟨b, 1, none⟩) e1)
            replace c3 := (hx2.cell (p := ⟨bc, oc + col.toNat * 4 + 3, none⟩) c3)
            go_wp2_with fail
            go_ret
            exact ⟨ret_int (by rw [HQ.out]; simp [frnE, ha, ha2, Hnu.out, h2]), (x1.drewNR _).trans hx2⟩

theorem enFrn : Enters Tryd.prog 60 := enters_of Tryd.func60 (by kernel_rfl) (by kernel_rfl)
set_option maxHeartbeats 400000 in
theorem foreigns_any (t : Tbl) (l : List Value) (a : Option Addr) (n cap : Nat) (w : World) (h : tblOk w t l) :
    Calls Tryd.prog 45 #[.agg #[.slice a n cap], .agg l.toArray] w fun e w' => e = .returned (.int .i64 (firstE t.frn.length (frnErr n t))) ∧ Ext w w' := by
  have HB := hid (BoxT.new (keeps_tbl _ _ _ _ (Ext.alloc w (.cells #[.slice a n cap] 26)) h) 36)
  obtain ⟨vc, vu, ak, ck, vf, vs, rfl, _, _, _, _, h4, _⟩ := h.out
  obtain ⟨ac, cc, rfl, _, hlen, _⟩ := h4.form
  clear h4 h
  go_enter Tryd.func45, Tryd.ntmps45
  go_wp2_with fail
  refine (first_any _ enFrn _ _ (frnErr n t) _ hlen (fun w' k hx hk _ => by exact foreignLook _ _ t n k w' (by simpa using HB.out.ext hx) ⟨a, cap, hx.cell (by simp [go_sem])⟩ hk)).mono ?_
  rintro e w1 ⟨rfl, hx⟩
  go_wp2_with fail
  go_ret
  exact ⟨rfl, Ext.trans ((Ext.alloc _ _).allocR _) hx⟩
end Go.Proofs.YtgelmhcbiffghaaDoor
