/-
  WHAT IS PROVED HERE: what schema's ask of a table's columns answers.
-/
import Derived.Test.YtgelmhcbiffghaaDoorAsk11
namespace Go.Proofs.YtgelmhcbiffghaaDoor
open Go.RowKit

set_option maxHeartbeats 1000000 in
theorem columnLook (b : Nat) (t : Tbl) (k : Nat) (w : World) (hb : BoxT w b t) (hk : k < t.cols.length) :
    Calls Tryd.prog 55 #[.int .i64 k, .pointer (some ⟨b, 0, none⟩)] w fun e w' => e = .returned (.int .i64 (colErr (t.cols.take k) (t.cols.getD k default))) ∧ Ext w w' := by
  obtain ⟨ac, cc, hlt, e1, hC⟩ : ∃ ac cc, b < w.heap.size ∧ w.cell? ⟨b, 1, none⟩ = some (.slice ac t.cols.length cc) ∧ SliceOf 4 colOk w (.slice ac t.cols.length cc) t.cols := by
    obtain ⟨ac, cc, au, cu, ak, ck, af, cf, am, cs, hlt, _, e1, _, _, _, _, hC, _⟩ := hb.open
    exact ⟨ac, cc, hlt, e1, hC⟩
  have HC := hid hC
  obtain ⟨bc, oc, rfl, g0, g1, g2, g3, hn, hk1, hk2⟩ := col_at hC hk
  have hbc : bc < w.heap.size := lt_of_cell g0
  have hlen : t.cols.length ≤ 9223372036854775807 := by obtain ⟨_, _, _, _, h, _⟩ := hC.form; exact h
  have hcap : t.cols.length ≤ cc := by obtain ⟨_, _, h0, h, _⟩ := hC.form; cases h0; exact h
  rw [getD_at hk]
  have Hb := hid hb
  clear hb hC
  generalize hc : t.cols[k] = c at *
  have HCc := hid hc
  clear hc
  have Hname := hid (fun w => Name_any c.name w hn)
  clear hn
  have Hany := hid (fun w' (hx : Ext w w') b' o' hc => HasNamed _ (t.cols.take k) c b' o' w' ((HC.out.take k (by omega)).ext keeps_col hx) hc)
  obtain ⟨name, kind, typ, null⟩ := c
  dsimp only at *
  have E1 := hid e1
  cases hnm : nameL name.toList
  · have Hn := hid hnm
    go_enter Tryd.func55, Tryd.ntmps55
    go_wp2_with (go_at_call 10; refine (Hname.out _).mono ?_; rintro e w1 ⟨rfl, hx1⟩)
    all_goals go_ret
    all_goals exact ⟨ret_int (by simp [colErr, badKind, Hn.out]), Ext.trans (Ext.alloc _ _) (by assumption)⟩
  · have Hn := hid hnm
    by_cases hk0 : kind < 0
    · go_enter Tryd.func55, Tryd.ntmps55
      go_wp2_with (go_at_call 10; refine (Hname.out _).mono ?_; rintro e w1 ⟨rfl, hx1⟩; have f1 : w1.cell? ⟨w.heap.size, 1, none⟩ = some (.int .i64 kind) := hx1.cell (by simp [go_sem]))
      all_goals go_ret
      all_goals exact ⟨ret_int (by simp [colErr, badKind, hk0]), Ext.trans (Ext.alloc _ _) (by assumption)⟩
    by_cases hk4 : 4 < kind
    · go_enter Tryd.func55, Tryd.ntmps55
      go_wp2_with (go_at_call 10; refine (Hname.out _).mono ?_; rintro e w1 ⟨rfl, hx1⟩; have f1 : w1.cell? ⟨w.heap.size, 1, none⟩ = some (.int .i64 kind) := hx1.cell (by simp [go_sem]))
      all_goals go_ret
      all_goals exact ⟨ret_int (by simp [colErr, badKind, hk4]), Ext.trans (Ext.alloc _ _) (by assumption)⟩
    have hkk : kind = 0 ∨ kind = 1 ∨ kind = 2 ∨ kind = 3 ∨ kind = 4 := by omega
    clear hk0 hk4 hk1
    rcases hkk with rfl | rfl | rfl | rfl | rfl
    all_goals
      cases han : (t.cols.take k).any (sameC ⟨name, _, typ, null⟩)
      · have Han := hid han
        clear han
        go_enter Tryd.func55, Tryd.ntmps55
        go_wp2_with fail
        refine (Hname.out _).mono ?_
        rintro e w1 ⟨rfl, hx1⟩
        have f0 : w1.cell? ⟨w.heap.size, 0, none⟩ = some (.string name) := hx1.cell (by simp [go_sem])
        have f1 : w1.cell? ⟨w.heap.size, 1, none⟩ = some (.int .i64 _) := hx1.cell (by simp [go_sem]; rfl)
        have f2 : w1.cell? ⟨w.heap.size, 2, none⟩ = some (.int .i64 typ) := hx1.cell (by simp [go_sem])
        have f3 : w1.cell? ⟨w.heap.size, 3, none⟩ = some (.bool null) := hx1.cell (by simp [go_sem])
        have x1 : Ext w w1 := Ext.trans (Ext.alloc _ _) hx1
        have f4 := x1.cell e1
        go_wp2_with fail
        refine (Hany.out _ x1 _ _ f0).mono ?_
        rintro e w2 ⟨rfl, hx2⟩
        rw [Han.out]
        replace f1 := hx2.cell f1
        replace f2 := hx2.cell f2
        replace f3 := hx2.cell f3
        clear f0 f4
        by_cases ht1 : typ = 1
        · subst ht1
          cases null
          all_goals
            go_wp2_with fail
            go_ret
            exact ⟨ret_int (by simp [colErr, badKind, badType, Hn.out, Han.out]), Ext.trans x1 hx2⟩
        by_cases ht2 : typ = 2
        · subst ht2
          cases null
          all_goals
            go_wp2_with fail
            go_ret
            exact ⟨ret_int (by simp [colErr, badKind, badType, Hn.out, Han.out]), Ext.trans x1 hx2⟩
        · have a1 : (typ != 1) = true := by simpa using ht1
          have a2 : (typ != 2) = true := by simpa using ht2
          go_wp2_with fail
          go_ret
          exact ⟨ret_int (by simp [colErr, badKind, badType, Hn.out, Han.out, ht1, ht2]), Ext.trans x1 hx2⟩
      · have Han := hid han
        clear han
        go_enter Tryd.func55, Tryd.ntmps55
        go_wp2_with fail
        refine (Hname.out _).mono ?_
        rintro e w1 ⟨rfl, hx1⟩
        have f0 : w1.cell? ⟨w.heap.size, 0, none⟩ = some (.string name) := hx1.cell (by simp [go_sem])
        have f1 : w1.cell? ⟨w.heap.size, 1, none⟩ = some (.int .i64 _) := hx1.cell (by simp [go_sem]; rfl)
        have f2 : w1.cell? ⟨w.heap.size, 2, none⟩ = some (.int .i64 typ) := hx1.cell (by simp [go_sem])
        have f3 : w1.cell? ⟨w.heap.size, 3, none⟩ = some (.bool null) := hx1.cell (by simp [go_sem])
        have x1 : Ext w w1 := Ext.trans (Ext.alloc _ _) hx1
        have f4 := x1.cell e1
        go_wp2_with fail
        refine (Hany.out _ x1 _ _ f0).mono ?_
        rintro e w2 ⟨rfl, hx2⟩
        rw [Han.out]
        go_wp2_with fail
        go_ret
        exact ⟨ret_int (by simp [colErr, badKind, Hn.out, Han.out]), Ext.trans x1 hx2⟩

theorem enCol : Enters Tryd.prog 55 := enters_of Tryd.func55 (by kernel_rfl) (by kernel_rfl)
set_option maxHeartbeats 400000 in
theorem columns_any (t : Tbl) (l : List Value) (w : World) (h : tblOk w t l) :
    Calls Tryd.prog 39 #[.agg l.toArray] w fun e w' => e = .returned (.int .i64 (colsErr t)) ∧ Ext w w' := by
  have HB := hid (BoxT.new h 36)
  obtain ⟨vc, vu, ak, ck, vf, vs, rfl, _, _, h4, _⟩ := h.out
  obtain ⟨ac, cc, rfl, _, hlen, _⟩ := h4.form
  clear h4 h
  go_enter Tryd.func39, Tryd.ntmps39
  go_wp2_with fail
  refine (first_any _ enCol _ _ (fun k => colErr (t.cols.take k) (t.cols.getD k default)) _ hlen (fun w' k hx hk _ => by exact columnLook _ t k w' (HB.out.ext hx) hk)).mono ?_
  rintro e w1 ⟨rfl, hx⟩
  go_wp2_with fail
  go_ret
  exact ⟨rfl, Ext.trans (Ext.alloc _ _) hx⟩
end Go.Proofs.YtgelmhcbiffghaaDoor
