/-
  WHAT IS PROVED HERE: what the document's asks of a schema's parts answer.
-/
import Derived.Test.YtgelmhcbiffghaaDoorUnq11
import Derived.Deep.QuietTactic
import Derived.BigQuiet
import Derived.IntWalk
import Derived.Deep.RegionHeld3
namespace Go.Proofs.YtgelmhcbiffghaaDoor
open Go.RowKit

/-- What the loop over the columns ahead has seen. -/
theorem any_take {α : Type} {s : List α} {p : α → Bool} {k : Nat} (hk : k ≤ s.length) (h : ∀ j (hj : j < s.length), j < k → p s[j] = false) : (s.take k).any p = false := by
  rw [List.any_eq_false]
  intro x hx
  rw [List.mem_take_iff_getElem] at hx
  obtain ⟨i, hi, rfl⟩ := hx
  rw [h i (by omega) (by omega)]
  simp
theorem any_take_true {α : Type} {s : List α} {p : α → Bool} {k j : Nat} (hj : j < s.length) (hjk : j < k) (h : p s[j] = true) : (s.take k).any p = true := by
  rw [List.any_eq_true]
  exact ⟨s[j], by rw [List.mem_take_iff_getElem]; exact ⟨j, by omega, rfl⟩, h⟩

set_option maxHeartbeats 2000000 in
theorem RefColumn (t : Tbl) (l : List Value) (k : Nat) (w : World) (h : tblOk w t l) (hk : k < t.cols.length) :
    Calls Tryd.prog 64 #[.agg l.toArray, .int .i64 k] w fun e w' => e = .returned (.int .i64 (colErr (t.cols.take k) (t.cols.getD k default))) ∧ Ext w w' := by
  obtain ⟨vc, vu, ak, ck, vf, vs, rfl, hnm, _, hC, hU, hF, hS⟩ := h.out
  obtain ⟨ac, cc, rfl, _, hlc, _⟩ := hC.form
  obtain ⟨au, cu, rfl, _, hlu, _⟩ := hU.form
  obtain ⟨af, cf, rfl, _, hlf, _⟩ := hF.form
  obtain ⟨am, cs, rfl, _, hls, _⟩ := hS.form
  obtain ⟨bc, oc, rfl, g0, g1, g2, g3, hn, hk1, hk2⟩ := col_at hC hk
  have hbc : bc < w.heap.size := lt_of_cell g0
  have HC := hid hC
  have hk64 : (k : Int) < 9223372036854775807 := by omega
  rw [getD_at hk]
  clear h hC hU hF hS
  generalize hc : t.cols[k] = c at *
  have HCc := hid hc
  clear hc
  have Hname := hid (fun w => RefName_any c.name w hn)
  clear hn
  obtain ⟨name, kind, typ, null⟩ := c
  dsimp only at *
  cases hnm : nameL name.toList
  · have Hn := hid hnm
    clear hnm
    go_enter Tryd.func64, Tryd.ntmps64
    go_wp2_with fail
    refine (Hname.out _).mono ?_
    rintro e w1 ⟨rfl, hx1⟩
    rw [Hn.out]
    go_wp2_with fail
    go_ret
    exact ⟨ret_int (by simp [colErr, badKind, Hn.out]), ((Ext.alloc _ _).allocR _).trans hx1⟩
  have Hn := hid hnm
  clear hnm
  by_cases hk0 : kind < 0
  · have hk0' : decide (kind < 0) = true := by simpa using hk0
    go_enter Tryd.func64, Tryd.ntmps64
    go_wp2_with fail
    refine (Hname.out _).mono ?_
    rintro e w1 ⟨rfl, hx1⟩
    rw [Hn.out]
    have f1 : w1.cell? ⟨w.heap.size + 1, 1, none⟩ = some (.int .i64 kind) := hx1.cell (by simp [go_sem])
    go_wp2_with fail
    go_ret
    exact ⟨ret_int (by simp [colErr, badKind, hk0]), ((Ext.alloc _ _).allocR _).trans hx1⟩
  have hk0' : decide (kind < 0) = false := by simpa using hk0
  by_cases hk4 : 4 < kind
  · have hk4' : decide (4 < kind) = true := by simpa using hk4
    go_enter Tryd.func64, Tryd.ntmps64
    go_wp2_with fail
    refine (Hname.out _).mono ?_
    rintro e w1 ⟨rfl, hx1⟩
    rw [Hn.out]
    have f1 : w1.cell? ⟨w.heap.size + 1, 1, none⟩ = some (.int .i64 kind) := hx1.cell (by simp [go_sem])
    go_wp2_with fail
    go_ret
    exact ⟨ret_int (by simp [colErr, badKind, hk4]), ((Ext.alloc _ _).allocR _).trans hx1⟩
  have hk4' : decide (4 < kind) = false := by simpa using hk4
  have HB : Hid (badKind ⟨name, kind, typ, null⟩ = false) := by unfold Hid badKind; simp [Hn.out, hk0, hk4]
  go_enter Tryd.func64, Tryd.ntmps64
  go_wp2_with fail
  refine (Hname.out _).mono ?_
  rintro e w1 ⟨rfl, hx1⟩
  rw [Hn.out]
  have f0 : w1.cell? ⟨w.heap.size + 1, 0, none⟩ = some (.string name) := hx1.cell (by simp [go_sem])
  have f1 : w1.cell? ⟨w.heap.size + 1, 1, none⟩ = some (.int .i64 kind) := hx1.cell (by simp [go_sem])
  have f2 : w1.cell? ⟨w.heap.size + 1, 2, none⟩ = some (.int .i64 typ) := hx1.cell (by simp [go_sem])
  have f3 : w1.cell? ⟨w.heap.size + 1, 3, none⟩ = some (.bool null) := hx1.cell (by simp [go_sem])
  have t1 : w1.cell? ⟨w.heap.size, 1, none⟩ = some (.slice (some ⟨bc, oc, none⟩) t.cols.length cc) := hx1.cell (by simp [go_sem])
  have x1 : Ext w w1 := ((Ext.alloc _ _).allocR _).trans hx1
  have FF := hid (And.intro f0 (And.intro f1 (And.intro f2 (And.intro f3 t1))))
  go_wp2_with fail
  clear f0 f1 f2 f3 t1 g0 g1 g2 g3 hk0' hk4' hx1
  go_loopw [6] (fun i wr => ∃ m : Nat, m ≤ k ∧ i = .int .i64 m ∧ Ext w1 wr ∧ Hid (∀ j (hj : j < t.cols.length), j < m → sameC ⟨name, kind, typ, null⟩ t.cols[j] = false)) (fun i _ => k - (intOf i).toNat)
  case atStart => exact ⟨0, Nat.zero_le _, rfl, Ext.refl _, fun j _ h => absurd h (Nat.not_lt_zero _)⟩
  case round =>
    obtain ⟨m, hm, rfl, hx, hp⟩ := hrel
    have f0 := hx.cell FF.out.1
    have t1 := hx.cell FF.out.2.2.2.2
    by_cases hlt : m < k
    · obtain ⟨_, _, h0, g0, _⟩ := col_at (HC.out.ext keeps_col (x1.trans hx)) (show m < t.cols.length by omega)
      cases h0
      have m0 : (m : Int) < (t.cols.length : Int) := by omega
      cases hs : (t.cols[m].name.toList == name.toList)
      · have HS := hid hs
        go_wp2_with fail
        go_quiet (fail)
        go_wp2_with fail
        go_roundw
        case rel => exact ⟨m + 1, by omega, by go_num, hx.drewNR _, fun j hj hjm => by
          rcases Nat.lt_succ_iff_lt_or_eq.1 hjm with h | rfl
          · exact hp.out j hj h
          · exact HS.out⟩
        case measure => simp [intOf]; omega
      · have HS := hid hs
        go_wp2_with fail
        go_quiet (fail)
        go_wp2_with fail
        go_ret
        exact ⟨ret_int (by simp only [colErr, HB.out, any_take_true (p := sameC ⟨name, kind, typ, null⟩) (show m < t.cols.length by omega) hlt HS.out]; rfl), (x1.trans hx).drewNR _⟩
    · have HAny : Hid ((t.cols.take k).any (sameC ⟨name, kind, typ, null⟩) = false) := any_take (by omega) (fun j hj hjk => hp.out j hj (by omega))
      have f1 := hx.cell FF.out.2.1
      have f2 := hx.cell FF.out.2.2.1
      have f3 := hx.cell FF.out.2.2.2.1
      have hkk : kind = 0 ∨ kind = 1 ∨ kind = 2 ∨ kind = 3 ∨ kind = 4 := by omega
      have HK := hid hkk
      clear hkk hk0 hk4 hk1
      by_cases ht1 : typ = 1
      · subst ht1
        rcases HK.out with rfl | rfl | rfl | rfl | rfl
        all_goals
          cases null
          all_goals
            go_wp2_with fail
            go_ret
            exact ⟨ret_int (by simp only [colErr, HB.out, HAny.out]; rfl), x1.trans hx⟩
      by_cases ht2 : typ = 2
      · subst ht2
        rcases HK.out with rfl | rfl | rfl | rfl | rfl
        all_goals
          cases null
          all_goals
            go_wp2_with fail
            go_ret
            exact ⟨ret_int (by simp only [colErr, HB.out, HAny.out]; rfl), x1.trans hx⟩
      · have a1 : (typ != 1) = true := by simpa using ht1
        have a2 : (typ != 2) = true := by simpa using ht2
        go_wp2_with fail
        go_ret
        exact ⟨ret_int (by simp [colErr, HB.out, HAny.out, badType, ht1, ht2]), x1.trans hx⟩
end Go.Proofs.YtgelmhcbiffghaaDoor
