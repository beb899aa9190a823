/-
  WHAT IS PROVED HERE: the statements' live question is answered by yes.
-/
import Derived.Test.YtgelmhcbiffghaaDoorSome11
import Derived.Test.YtgelmhcbiffghaaDoorRight11
import Derived.Deep.RegionHeld3
namespace Go.Proofs.YtgelmhcbiffghaaDoor
open Go.RowKit

theorem sch_open {w : World} {v : Value} {x y : Tbl} (h : SliceOf 6 tblOk w v [x, y]) : ∃ b off cap a1 c1 a2 c2 a3 c3 a4 c4 a5 c5 d1 k1 d2 k2 d3 k3 d4 k4 d5 k5,
    v = .slice (some ⟨b, off, none⟩) 2 cap ∧ b < w.heap.size ∧ 2 ≤ cap ∧
    w.cell? ⟨b, off, none⟩ = some (.string x.name) ∧ w.cell? ⟨b, off + 1, none⟩ = some (.slice a1 x.cols.length c1) ∧ w.cell? ⟨b, off + 2, none⟩ = some (.slice a2 x.uniq.length c2) ∧ w.cell? ⟨b, off + 3, none⟩ = some (.slice a3 x.checks c3) ∧ w.cell? ⟨b, off + 4, none⟩ = some (.slice a4 x.frn.length c4) ∧ w.cell? ⟨b, off + 5, none⟩ = some (.slice a5 x.sums.length c5) ∧
    w.cell? ⟨b, off + 6, none⟩ = some (.string y.name) ∧ w.cell? ⟨b, off + 6 + 1, none⟩ = some (.slice d1 y.cols.length k1) ∧ w.cell? ⟨b, off + 6 + 2, none⟩ = some (.slice d2 y.uniq.length k2) ∧ w.cell? ⟨b, off + 6 + 3, none⟩ = some (.slice d3 y.checks k3) ∧ w.cell? ⟨b, off + 6 + 4, none⟩ = some (.slice d4 y.frn.length k4) ∧ w.cell? ⟨b, off + 6 + 5, none⟩ = some (.slice d5 y.sums.length k5) ∧
    tblOk w x [.string x.name, .slice a1 x.cols.length c1, .slice a2 x.uniq.length c2, .slice a3 x.checks c3, .slice a4 x.frn.length c4, .slice a5 x.sums.length c5] ∧
    tblOk w y [.string y.name, .slice d1 y.cols.length k1, .slice d2 y.uniq.length k2, .slice d3 y.checks k3, .slice d4 y.frn.length k4, .slice d5 y.sums.length k5] := by
  obtain ⟨a, cap, rfl, hc, _⟩ := h.form
  obtain ⟨b, off, a1, c1, a2, c2, a3, c3, a4, c4, a5, c5, rfl, hb, e0, e1, e2, e3, e4, e5, hR, _⟩ := tbl_at2 h (k := 0) (by simp)
  obtain ⟨b', off', d1, k1, d2, k2, d3, k3, d4, k4, d5, k5, hh, _, g0, g1, g2, g3, g4, g5, hS, _⟩ := tbl_at2 h (k := 1) (by simp)
  simp only [Option.some.injEq, Addr.mk.injEq, and_true] at hh
  obtain ⟨rfl, rfl⟩ := hh
  simp only [Nat.zero_mul, Nat.add_zero, Nat.one_mul, List.getElem_cons_zero, List.getElem_cons_succ] at *
  exact ⟨b, off, cap, a1, c1, a2, c2, a3, c3, a4, c4, a5, c5, d1, k1, d2, k2, d3, k3, d4, k4, d5, k5, rfl, hb, hc, e0, e1, e2, e3, e4, e5, g0, g1, g2, g3, g4, g5, hR, hS⟩

def tX : Tbl := { tB with uniq := [2] }
def tY : Tbl := { tB with frn := [⟨1, 2, 0⟩] }
theorem r0 : rightF [tA, tB] = 0 := by decide +kernel
theorem r1 : rightF [] = 2 := by decide +kernel
theorem r2 : rightF [tA, tA] = 5 := by decide +kernel
theorem r3 : rightF [tA, tX] = 6 := by decide +kernel
theorem r4 : rightF [tA, tY] = 4 := by decide +kernel
theorem i0 : maxZ (idxOf (sameT ⟨#[98]⟩) [tA, tB]) = 1 ∧ decide (0 ≤ idxOf (sameT ⟨#[98]⟩) [tA, tB]) = true := by decide +kernel
theorem i1 : maxZ (idxOf (fun x : Col => x.name.toList == (⟨#[99]⟩ : ByteArray).toList) tB.cols) = 2 ∧ decide (0 ≤ idxOf (fun x : Col => x.name.toList == (⟨#[99]⟩ : ByteArray).toList) tB.cols) = true := by decide +kernel
theorem n0 : nameL (⟨#[97, 95, 49]⟩ : ByteArray).toList = true := by decide +kernel
theorem n1 : nameL (⟨#[49, 97]⟩ : ByteArray).toList = false := by decide +kernel
theorem f1 : (frnOf tB.frn 1).val = [.int .i64 1, .int .i64 0, .int .i64 2] ∧ frnIs tB.frn 1 = true := ⟨rfl, rfl⟩
theorem f2 : (frnOf tB.frn 2).val = [.int .i64 0, .int .i64 0, .int .i64 0] ∧ frnIs tB.frn 2 = false := ⟨rfl, rfl⟩
theorem k0 : kidsF [tA, tB] 0 = [(1, 0)] := by decide +kernel
set_option maxHeartbeats 4000000 in
set_option maxRecDepth 100000 in
theorem alive_any (w : World) : Calls Tryd.prog 9 #[] w fun e w' => e = .returned (.bool true) ∧ Ext w w' := by
  go_enter Tryd.func9, Tryd.ntmps9
  go_wp2_with fail
  refine (some_any w).mono ?_
  rintro e w1 ⟨v, rfl, hv, x1⟩
  have XX1 := hid x1
  obtain ⟨b, off, cap, a1, c1, a2, c2, a3, c3, a4, c4, a5, c5, d1, k1, d2, k2, d3, k3, d4, k4, d5, k5, rfl, hb, hcap, e0, e1, e2, e3, e4, e5, g0, g1, g2, g3, g4, g5, hR, hS⟩ := sch_open hv
  have HV := hid hv
  have HR := hid hR
  have HS := hid hS
  have EE := hid (And.intro e0 (And.intro e1 (And.intro e2 (And.intro e3 (And.intro e4 (And.intro e5 (And.intro g0 (And.intro g1 (And.intro g2 (And.intro g3 (And.intro g4 g5)))))))))))
  clear hv hR hS e0 e1 e2 e3 e4 e5 g0 g1 g2 g3 g4 g5
  go_wp2_with fail
  have y1 := Ext.alloc w1 (.cells #[.slice (some ⟨b, off, none⟩) 2 cap] 26)
  have s0 : (w1.alloc (.cells #[.slice (some ⟨b, off, none⟩) 2 cap] 26)).cell? ⟨w1.heap.size, 0, none⟩ = some (.slice (some ⟨b, off, none⟩) 2 cap) := by simp [go_sem]
  have S0 := hid s0
  have Y1 := hid y1
  clear s0 y1
  refine (Table_any _ _ ⟨#[98]⟩ _ (HV.out.ext keeps_tbl Y1.out)).mono ?_
  rintro e w2 ⟨rfl, x2⟩
  rw [i0.1, i0.2]
  have X2 := hid (Y1.out.trans x2)
  have s2 := x2.cell S0.out
  have S2 := hid s2
  go_wp2_with fail
  refine (Right_any _ _ _ (HV.out.ext keeps_tbl X2.out)).mono ?_
  rintro e w3 ⟨rfl, x3⟩
  rw [r0]
  have X3 := hid (X2.out.trans x3)
  have s3 := x3.cell S2.out
  have S3 := hid s3
  clear s2
  have g0 := X3.out.cell EE.out.2.2.2.2.2.2.1
  have g1 := X3.out.cell EE.out.2.2.2.2.2.2.2.1
  have g2 := X3.out.cell EE.out.2.2.2.2.2.2.2.2.1
  have g3 := X3.out.cell EE.out.2.2.2.2.2.2.2.2.2.1
  have g4 := X3.out.cell EE.out.2.2.2.2.2.2.2.2.2.2.1
  have g5 := X3.out.cell EE.out.2.2.2.2.2.2.2.2.2.2.2
  go_wp2_with fail
  obtain ⟨hC, hF⟩ : SliceOf 4 colOk w1 (.slice d1 tB.cols.length k1) tB.cols ∧ SliceOf 3 frnOk w1 (.slice d4 tB.frn.length k4) tB.frn := by
    obtain ⟨vc, vu, a, c, vf, vs, hl, _, _, h4, _, h6, _⟩ := HS.out.out
    simp only [List.cons.injEq, and_true, true_and] at hl
    obtain ⟨rfl, rfl, _, rfl, rfl⟩ := hl
    exact ⟨h4, h6⟩
  have HC := hid hC
  clear hC hF
  refine (Column_any _ _ _ _ _ _ _ ⟨#[99]⟩ _ (HC.out.ext keeps_col X3.out)).mono ?_
  rintro e w4 ⟨rfl, x4⟩
  rw [i1.1, i1.2]
  have X4 := hid (X3.out.trans x4)
  have s4 := x4.cell S3.out
  have S4 := hid s4
  clear s3
  replace g0 := x4.cell g0
  replace g1 := x4.cell g1
  replace g2 := x4.cell g2
  replace g3 := x4.cell g3
  replace g4 := x4.cell g4
  replace g5 := x4.cell g5
  go_wp2_with fail
  refine (Foreign_any tB _ 1 _ (keeps_tbl _ _ _ _ X4.out HS.out)).mono ?_
  rintro e w5 ⟨rfl, x5⟩
  rw [f1.1, f1.2]
  have X5 := hid (X4.out.trans x5)
  have s5 := x5.cell S4.out
  have S5 := hid s5
  clear s4
  replace g0 := x5.cell g0
  replace g1 := x5.cell g1
  replace g2 := x5.cell g2
  replace g3 := x5.cell g3
  replace g4 := x5.cell g4
  replace g5 := x5.cell g5
  have hb5 : b < w5.heap.size := lt_of_cell g0
  have hs5 : w1.heap.size < w5.heap.size := lt_of_cell s5
  go_wp2_with fail
  refine (Foreign_any tB _ 2 _ (keeps_tbl _ _ _ _ (X5.out.allocR _) HS.out)).mono ?_
  rintro e w6 ⟨rfl, x6⟩
  rw [f2.1, f2.2]
  have X6 := hid ((X5.out.allocR _).trans x6)
  have q0 : w6.cell? ⟨w5.heap.size, 2, none⟩ = some (.int .i64 2) := x6.cell (by simp [go_sem])
  have y6 := Ext.trans (Ext.alloc w5 _) x6
  have s6 := y6.cell s5
  have S6 := hid s6
  clear s5 hs5 hb5
  replace g0 := y6.cell g0
  replace g1 := y6.cell g1
  replace g2 := y6.cell g2
  replace g3 := y6.cell g3
  replace g4 := y6.cell g4
  replace g5 := y6.cell g5
  have hb6 : b < w6.heap.size := lt_of_cell g0
  have hs6 : w1.heap.size < w6.heap.size := lt_of_cell s6
  have hq6 : w5.heap.size < w6.heap.size := lt_of_cell q0
  go_wp2_with fail
  refine (Kids_any _ _ 0 _ (HV.out.ext keeps_tbl (X6.out.allocR _)) (by decide +kernel)).mono ?_
  rintro e w7 ⟨u, rfl, hu, x7⟩
  rw [k0] at hu
  obtain ⟨au, cu, rfl, _, _, _, h5⟩ := hu.out
  obtain ⟨bu, ou, rfl, l, hl2, hpair, hcu⟩ := h5 0 (by simp)
  unfold pairOk at hpair
  subst hpair
  have u0 := hcu 0 (by simp)
  have u1 := hcu 1 (by simp)
  simp only [Nat.zero_mul, Nat.add_zero, List.getElem_cons_zero, List.getElem_cons_succ] at u0 u1
  clear h5 hcu hu hl2
  have X7 := hid ((X6.out.allocR _).trans x7)
  have y7 := Ext.trans (Ext.alloc w6 _) x7
  have s7 := y7.cell s6
  clear s6 hs6 hb6
  replace g0 := y7.cell g0
  replace g1 := y7.cell g1
  replace g2 := y7.cell g2
  replace g3 := y7.cell g3
  replace g4 := y7.cell g4
  replace g5 := y7.cell g5
  replace q0 := y7.cell q0
  have hb7 : b < w7.heap.size := lt_of_cell g0
  have hs7 : w1.heap.size < w7.heap.size := lt_of_cell s7
  have hq7 : w5.heap.size < w7.heap.size := lt_of_cell q0
  have hu7 : bu < w7.heap.size := lt_of_cell u0
  clear hq6 x1 x2 x3 x4 x5 x6 x7 y6
  have e0 := X7.out.cell EE.out.1
  have e1 := X7.out.cell EE.out.2.1
  have e2 := X7.out.cell EE.out.2.2.1
  have e3 := X7.out.cell EE.out.2.2.2.1
  have e4 := X7.out.cell EE.out.2.2.2.2.1
  have e5 := X7.out.cell EE.out.2.2.2.2.2.1
  go_wp2_with fail
  obtain ⟨W, hW⟩ : ∃ W : World, W = (((w7.alloc (.cells #[.string tB.name, .slice d1 tB.cols.length k1, .slice (some ⟨w7.heap.size + 1, 0, none⟩) 1 1, .slice d3 tB.checks k3, .slice d4 tB.frn.length k4, .slice d5 tB.sums.length k5] 36)).alloc (.cells #[.int .i64 2] 3)).alloc (.cells #[.string tB.name, .slice d1 tB.cols.length k1, .slice d2 tB.uniq.length k2, .slice d3 tB.checks k3, .slice (some ⟨w7.heap.size + 1 + 1 + 1, 0, none⟩) 1 1, .slice d5 tB.sums.length k5] 36)).alloc (.cells #[.int .i64 1, .int .i64 2, .int .i64 0] 43) := ⟨_, rfl⟩
  rw [← hW]
  have xW : Ext w7 W := by rw [hW]; repeat (first | exact Ext.refl _ | apply Ext.allocR)
  have z0 : CellsAt W w7.heap.size 0 [.string tB.name, .slice d1 tB.cols.length k1, .slice (some ⟨w7.heap.size + 1, 0, none⟩) 1 1, .slice d3 tB.checks k3, .slice d4 tB.frn.length k4, .slice d5 tB.sums.length k5] := by rw [hW]; exact (((CellsAt.new _ _ _ _ rfl).allocR _).allocR _).allocR _
  have z1 : CellsAt W (w7.heap.size + 1) 0 [.int .i64 2] := by rw [hW]; exact ((CellsAt.new _ _ _ _ (by simp)).allocR _).allocR _
  have z2 : CellsAt W (w7.heap.size + 1 + 1) 0 [.string tB.name, .slice d1 tB.cols.length k1, .slice d2 tB.uniq.length k2, .slice d3 tB.checks k3, .slice (some ⟨w7.heap.size + 1 + 1 + 1, 0, none⟩) 1 1, .slice d5 tB.sums.length k5] := by rw [hW]; exact (CellsAt.new _ _ _ _ (by simp)).allocR _
  have z3 : CellsAt W (w7.heap.size + 1 + 1 + 1) 0 (Frn.val ⟨1, 2, 0⟩) := by rw [hW]; exact CellsAt.new _ _ _ _ (by simp)
  have XW := hid (X7.out.trans xW)
  have HX : Hid (tblOk W tX [.string tB.name, .slice d1 tB.cols.length k1, .slice (some ⟨w7.heap.size + 1, 0, none⟩) 1 1, .slice d3 tB.checks k3, .slice d4 tB.frn.length k4, .slice d5 tB.sums.length k5]) := by
    obtain ⟨vc, vu, a, c, vf, vs, hl, hn, hck, h4, h5, h6, h7⟩ := (keeps_tbl _ _ _ _ XW.out HS.out).out
    simp only [List.cons.injEq, and_true, true_and] at hl
    obtain ⟨rfl, rfl, hs, rfl, rfl⟩ := hl
    exact ⟨_, _, _, _, _, _, rfl, hn, hck, h4, int1 z1 (by simp [i64]), h6, h7⟩
  have HY : Hid (tblOk W tY [.string tB.name, .slice d1 tB.cols.length k1, .slice d2 tB.uniq.length k2, .slice d3 tB.checks k3, .slice (some ⟨w7.heap.size + 1 + 1 + 1, 0, none⟩) 1 1, .slice d5 tB.sums.length k5]) := by
    obtain ⟨vc, vu, a, c, vf, vs, hl, hn, hck, h4, h5, h6, h7⟩ := (keeps_tbl _ _ _ _ XW.out HS.out).out
    simp only [List.cons.injEq, and_true, true_and] at hl
    obtain ⟨rfl, rfl, hs, rfl, rfl⟩ := hl
    exact ⟨_, _, _, _, _, _, rfl, hn, hck, h4, h5, frn1 z3 (by simp [i64]), h7⟩
  have HA := hid (keeps_tbl _ _ _ _ XW.out HR.out)
  have h0 := xW.cell s7
  have h1 := xW.cell q0
  have h2 := xW.cell u0
  have h3 := xW.cell u1
  have h4 := xW.cell e0
  have h5 := xW.cell e1
  have h6 := xW.cell e2
  have h7 := xW.cell e3
  have h8 := xW.cell e4
  have h9 := xW.cell e5
  have h10 : W.cell? ⟨w7.heap.size, 0, none⟩ = some (.string tB.name) := by simpa using z0 0 (by simp)
  have h11 : W.cell? ⟨w7.heap.size, 1, none⟩ = some (.slice d1 tB.cols.length k1) := by simpa using z0 1 (by simp)
  have h12 : W.cell? ⟨w7.heap.size, 2, none⟩ = some (.slice (some ⟨w7.heap.size + 1, 0, none⟩) 1 1) := by simpa using z0 2 (by simp)
  have h13 : W.cell? ⟨w7.heap.size, 3, none⟩ = some (.slice d3 tB.checks k3) := by simpa using z0 3 (by simp)
  have h14 : W.cell? ⟨w7.heap.size, 4, none⟩ = some (.slice d4 tB.frn.length k4) := by simpa using z0 4 (by simp)
  have h15 : W.cell? ⟨w7.heap.size, 5, none⟩ = some (.slice d5 tB.sums.length k5) := by simpa using z0 5 (by simp)
  have h16 : W.cell? ⟨w7.heap.size + 1 + 1, 0, none⟩ = some (.string tB.name) := by simpa using z2 0 (by simp)
  have h17 : W.cell? ⟨w7.heap.size + 1 + 1, 1, none⟩ = some (.slice d1 tB.cols.length k1) := by simpa using z2 1 (by simp)
  have h18 : W.cell? ⟨w7.heap.size + 1 + 1, 2, none⟩ = some (.slice d2 tB.uniq.length k2) := by simpa using z2 2 (by simp)
  have h19 : W.cell? ⟨w7.heap.size + 1 + 1, 3, none⟩ = some (.slice d3 tB.checks k3) := by simpa using z2 3 (by simp)
  have h20 : W.cell? ⟨w7.heap.size + 1 + 1, 4, none⟩ = some (.slice (some ⟨w7.heap.size + 1 + 1 + 1, 0, none⟩) 1 1) := by simpa using z2 4 (by simp)
  have h21 : W.cell? ⟨w7.heap.size + 1 + 1, 5, none⟩ = some (.slice d5 tB.sums.length k5) := by simpa using z2 5 (by simp)
  have XX := hid (show Ext w W from by have := X7.out; exact Ext.trans ‹Hid (Ext w w1)›.out XW.out)
  clear hW xW z0 z1 z2 z3 s7 q0 u0 u1 e0 e1 e2 e3 e4 e5 g0 g1 g2 g3 g4 g5 y7 hb7 hs7 hq7 hu7
  have keep : ∀ w', Ext W w' → (w'.cell? ⟨w1.heap.size, 0, none⟩ = some (.slice (some ⟨b, off, none⟩) 2 cap) ∧ w'.cell? ⟨w5.heap.size, 2, none⟩ = some (.int .i64 2) ∧ w'.cell? ⟨bu, ou, none⟩ = some (.int .i64 1) ∧ w'.cell? ⟨bu, ou + 1, none⟩ = some (.int .i64 0) ∧ w'.cell? ⟨b, off, none⟩ = some (.string tA.name) ∧ w'.cell? ⟨b, off + 1, none⟩ = some (.slice a1 tA.cols.length c1) ∧ w'.cell? ⟨b, off + 2, none⟩ = some (.slice a2 tA.uniq.length c2) ∧ w'.cell? ⟨b, off + 3, none⟩ = some (.slice a3 tA.checks c3) ∧ w'.cell? ⟨b, off + 4, none⟩ = some (.slice a4 tA.frn.length c4) ∧ w'.cell? ⟨b, off + 5, none⟩ = some (.slice a5 tA.sums.length c5) ∧ w'.cell? ⟨w7.heap.size, 0, none⟩ = some (.string tB.name) ∧ w'.cell? ⟨w7.heap.size, 1, none⟩ = some (.slice d1 tB.cols.length k1) ∧ w'.cell? ⟨w7.heap.size, 2, none⟩ = some (.slice (some ⟨w7.heap.size + 1, 0, none⟩) 1 1) ∧ w'.cell? ⟨w7.heap.size, 3, none⟩ = some (.slice d3 tB.checks k3) ∧ w'.cell? ⟨w7.heap.size, 4, none⟩ = some (.slice d4 tB.frn.length k4) ∧ w'.cell? ⟨w7.heap.size, 5, none⟩ = some (.slice d5 tB.sums.length k5) ∧ w'.cell? ⟨w7.heap.size + 1 + 1, 0, none⟩ = some (.string tB.name) ∧ w'.cell? ⟨w7.heap.size + 1 + 1, 1, none⟩ = some (.slice d1 tB.cols.length k1) ∧ w'.cell? ⟨w7.heap.size + 1 + 1, 2, none⟩ = some (.slice d2 tB.uniq.length k2) ∧ w'.cell? ⟨w7.heap.size + 1 + 1, 3, none⟩ = some (.slice d3 tB.checks k3) ∧ w'.cell? ⟨w7.heap.size + 1 + 1, 4, none⟩ = some (.slice (some ⟨w7.heap.size + 1 + 1 + 1, 0, none⟩) 1 1) ∧ w'.cell? ⟨w7.heap.size + 1 + 1, 5, none⟩ = some (.slice d5 tB.sums.length k5)) := fun w' hx => ⟨hx.cell h0, hx.cell h1, hx.cell h2, hx.cell h3, hx.cell h4, hx.cell h5, hx.cell h6, hx.cell h7, hx.cell h8, hx.cell h9, hx.cell h10, hx.cell h11, hx.cell h12, hx.cell h13, hx.cell h14, hx.cell h15, hx.cell h16, hx.cell h17, hx.cell h18, hx.cell h19, hx.cell h20, hx.cell h21⟩
  have KEEP := hid keep
  clear keep
  have heq : ∀ w, (binOp .eql 48 (.agg #[.int .i64 1, .int .i64 0]) (.agg #[.int .i64 1, .int .i64 0])).run Tryd.prog w = .ok (.bool true) w := fun _ => by kernel_rfl
  simp only [List.append]
  go_region_held3 (fun w' => w'.cell? ⟨w1.heap.size, 0, none⟩ = some (.slice (some ⟨b, off, none⟩) 2 cap) ∧ w'.cell? ⟨w5.heap.size, 2, none⟩ = some (.int .i64 2) ∧ w'.cell? ⟨bu, ou, none⟩ = some (.int .i64 1) ∧ w'.cell? ⟨bu, ou + 1, none⟩ = some (.int .i64 0) ∧ w'.cell? ⟨b, off, none⟩ = some (.string tA.name) ∧ w'.cell? ⟨b, off + 1, none⟩ = some (.slice a1 tA.cols.length c1) ∧ w'.cell? ⟨b, off + 2, none⟩ = some (.slice a2 tA.uniq.length c2) ∧ w'.cell? ⟨b, off + 3, none⟩ = some (.slice a3 tA.checks c3) ∧ w'.cell? ⟨b, off + 4, none⟩ = some (.slice a4 tA.frn.length c4) ∧ w'.cell? ⟨b, off + 5, none⟩ = some (.slice a5 tA.sums.length c5) ∧ w'.cell? ⟨w7.heap.size, 0, none⟩ = some (.string tB.name) ∧ w'.cell? ⟨w7.heap.size, 1, none⟩ = some (.slice d1 tB.cols.length k1) ∧ w'.cell? ⟨w7.heap.size, 2, none⟩ = some (.slice (some ⟨w7.heap.size + 1, 0, none⟩) 1 1) ∧ w'.cell? ⟨w7.heap.size, 3, none⟩ = some (.slice d3 tB.checks k3) ∧ w'.cell? ⟨w7.heap.size, 4, none⟩ = some (.slice d4 tB.frn.length k4) ∧ w'.cell? ⟨w7.heap.size, 5, none⟩ = some (.slice d5 tB.sums.length k5) ∧ w'.cell? ⟨w7.heap.size + 1 + 1, 0, none⟩ = some (.string tB.name) ∧ w'.cell? ⟨w7.heap.size + 1 + 1, 1, none⟩ = some (.slice d1 tB.cols.length k1) ∧ w'.cell? ⟨w7.heap.size + 1 + 1, 2, none⟩ = some (.slice d2 tB.uniq.length k2) ∧ w'.cell? ⟨w7.heap.size + 1 + 1, 3, none⟩ = some (.slice d3 tB.checks k3) ∧ w'.cell? ⟨w7.heap.size + 1 + 1, 4, none⟩ = some (.slice (some ⟨w7.heap.size + 1 + 1 + 1, 0, none⟩) 1 1) ∧ w'.cell? ⟨w7.heap.size + 1 + 1, 5, none⟩ = some (.slice d5 tB.sums.length k5)) (first | go_keep | exact KEEP.out _ (by repeat (first | exact Ext.refl _ | apply Ext.allocR | apply Ext.drewR | (refine Ext.trans ?_ (by assumption))))) (first
    | (go_at_call 13; refine (Right_any _ _ _ (by first | exact SliceOf.nil | exact tbl2 (CellsAt.new _ _ _ _ rfl) (keeps_tbl _ _ _ _ (by repeat (first | exact Ext.refl _ | apply Ext.allocR | apply Ext.drewR | (refine Ext.trans ?_ (by assumption)))) HA.out) (keeps_tbl _ _ _ _ (by repeat (first | exact Ext.refl _ | apply Ext.allocR | apply Ext.drewR | (refine Ext.trans ?_ (by assumption)))) HA.out) | exact tbl2 (CellsAt.new _ _ _ _ rfl) (keeps_tbl _ _ _ _ (by repeat (first | exact Ext.refl _ | apply Ext.allocR | apply Ext.drewR | (refine Ext.trans ?_ (by assumption)))) HA.out) (keeps_tbl _ _ _ _ (by repeat (first | exact Ext.refl _ | apply Ext.allocR | apply Ext.drewR | (refine Ext.trans ?_ (by assumption)))) HX.out) | exact tbl2 (CellsAt.new _ _ _ _ rfl) (keeps_tbl _ _ _ _ (by repeat (first | exact Ext.refl _ | apply Ext.allocR | apply Ext.drewR | (refine Ext.trans ?_ (by assumption)))) HA.out) (keeps_tbl _ _ _ _ (by repeat (first | exact Ext.refl _ | apply Ext.allocR | apply Ext.drewR | (refine Ext.trans ?_ (by assumption)))) HY.out))).mono ?_; rintro e w' ⟨rfl, hx⟩; first | rw [r1] | rw [r2] | rw [r3] | rw [r4])
    | (go_at_call 10; refine (Name_any _ _ (small (by decide))).mono ?_; rintro e w' ⟨rfl, hx⟩; first | rw [n0] | rw [n1]))
  go_wp2_with fail
  go_ret
  exact ⟨rfl, XX.out.trans (by repeat (first | exact Ext.refl _ | apply Ext.allocR | apply Ext.drewR | (refine Ext.trans ?_ (by assumption))))⟩
end Go.Proofs.YtgelmhcbiffghaaDoor
