/-
  WHAT IS PROVED HERE: what schema's asks of columns, unique columns, foreign keys and bounds answer.
-/
import Derived.Test.YtgelmhcbiffghaaDoorFind11
import Derived.Deep.QuietTactic
import Derived.BigQuiet
namespace Go.Proofs.YtgelmhcbiffghaaDoor
open Go.RowKit

set_option maxHeartbeats 400000 in
theorem number_any (c : Col) (w : World) :
    Calls Tryd.prog 41 #[.agg #[.string c.name, .int .i64 c.kind, .int .i64 c.typ, .bool c.null]] w fun e w' => e = .returned (.bool (numCol c)) ∧ Ext w w' := by
  unfold numCol
  cases h : (c.kind == 0)
  all_goals
    go_enter Tryd.func41, Tryd.ntmps41
    go_wp2
    go_ret
    exact ⟨by simp, Ext.alloc _ _⟩

set_option maxHeartbeats 400000 in
theorem has_any (v0 vu vk vf vs : Value) (a : Option Addr) (n cap : Nat) (col : Int) (w : World) :
    Calls Tryd.prog 59 #[.agg #[v0, .slice a n cap, vu, vk, vf, vs], .int .i64 col] w fun e w' => e = .returned (.bool (decide (1 ≤ col) && decide (col < n))) ∧ Ext w w' := by
  by_cases h : 1 ≤ col
  · have h' : decide (1 ≤ col) = true := by simpa using h
    go_enter Tryd.func59, Tryd.ntmps59
    go_wp2
    go_ret
    exact ⟨ret_bool (by simp [h]), Ext.alloc _ _⟩
  · have h' : decide (1 ≤ col) = false := by simpa using h
    go_enter Tryd.func59, Tryd.ntmps59
    go_wp2
    go_ret
    exact ⟨ret_bool (by simp), Ext.alloc _ _⟩

set_option maxHeartbeats 400000 in
theorem first_any (f : Nat) (hE : Enters Tryd.prog f) (n : Nat) (cap : Array Value) (g : Nat → Int) (w : World) (hn : n ≤ 9223372036854775807)
    (hf : ∀ w' k, Ext w w' → k < n → (∀ j, j < k → g j = 0) → Calls Tryd.prog f (#[.int .i64 k] ++ cap) w' fun e w'' => e = .returned (.int .i64 (g k)) ∧ Ext w' w'') :
    Calls Tryd.prog 54 #[.int .i64 n, .func (.func f) #[] cap] w fun e w' => e = .returned (.int .i64 (firstE n g)) ∧ Ext w w' := by
  have hf' := hid hf
  clear hf
  go_enter Tryd.func54, Tryd.ntmps54
  go_wp2
  go_loopw [8] (fun i wr => ∃ k : Nat, k ≤ n ∧ i = .int .i64 k ∧ Ext w wr ∧ Hid (∀ j, j < k → g j = 0)) (fun i _ => n - (intOf i).toNat)
  case atStart => exact ⟨0, Nat.zero_le _, rfl, Ext.refl _, fun j h => absurd h (Nat.not_lt_zero _)⟩
  case round =>
    obtain ⟨k, hk, rfl, hx, hp⟩ := hrel
    by_cases hlt : k < n
    · have hcf := fun a w => hE a w
      go_wp2_with fail
      clear hcf
      refine (hf'.out _ k hx hlt hp.out).mono ?_
      rintro e w1 ⟨rfl, hx1⟩
      by_cases hz : g k = 0
      · have hz' : (g k != 0) = false := by simp [hz]
        have HZ := hid hz
        clear hz
        go_wp2_with fail
        go_roundw
        case rel => exact ⟨k + 1, by omega, by go_num, hx.trans hx1, fun j hjk => by
          rcases Nat.lt_succ_iff_lt_or_eq.1 hjk with h | rfl
          · exact hp.out j h
          · exact HZ.out⟩
        case measure => simp [intOf]; omega
      · have hz' : (g k != 0) = true := by simp [hz]
        go_wp2_with fail
        go_ret
        exact ⟨ret_int (firstE_at hlt hp.out hz).symm, hx.trans hx1⟩
    · go_wp2_with fail
      go_ret
      exact ⟨ret_int (firstE_zero (fun j hj => hp.out j (by omega))).symm, hx⟩

/-- The box of a table that closures hold. -/
structure BoxT (w : World) (b : Nat) (t : Tbl) : Prop where
  out : ∃ l, CellsAt w b 0 l ∧ tblOk w t l
theorem BoxT.ext {w w' : World} {b : Nat} {t : Tbl} (h : BoxT w b t) (hx : Ext w w') : BoxT w' b t := by
  obtain ⟨l, h1, h2⟩ := h.out
  exact ⟨l, h1.ext hx, keeps_tbl _ _ _ _ hx h2⟩
theorem BoxT.open {w : World} {b : Nat} {t : Tbl} (h : BoxT w b t) : ∃ ac cc au cu ak ck af cf am cs, b < w.heap.size ∧ w.cell? ⟨b, 0, none⟩ = some (.string t.name) ∧ w.cell? ⟨b, 1, none⟩ = some (.slice ac t.cols.length cc) ∧ w.cell? ⟨b, 2, none⟩ = some (.slice au t.uniq.length cu) ∧
    w.cell? ⟨b, 3, none⟩ = some (.slice ak t.checks ck) ∧ w.cell? ⟨b, 4, none⟩ = some (.slice af t.frn.length cf) ∧ w.cell? ⟨b, 5, none⟩ = some (.slice am t.sums.length cs) ∧
    SliceOf 4 colOk w (.slice ac t.cols.length cc) t.cols ∧ SliceOf 1 intOk w (.slice au t.uniq.length cu) t.uniq ∧ SliceOf 3 frnOk w (.slice af t.frn.length cf) t.frn ∧ SliceOf 3 smOk w (.slice am t.sums.length cs) t.sums := by
  obtain ⟨l, hc, hR⟩ := h.out
  obtain ⟨vc, vu, ak, ck, vf, vs, rfl, _, _, h4, h5, h6, h7⟩ := hR.out
  obtain ⟨ac, cc, rfl, _⟩ := h4.form
  obtain ⟨au, cu, rfl, _⟩ := h5.form
  obtain ⟨af, cf, rfl, _⟩ := h6.form
  obtain ⟨am, cs, rfl, _⟩ := h7.form
  exact ⟨ac, cc, au, cu, ak, ck, af, cf, am, cs, lt_of_cell (hc 0 (by simp)), by simpa using hc 0 (by simp), by simpa using hc 1 (by simp), by simpa using hc 2 (by simp), by simpa using hc 3 (by simp), by simpa using hc 4 (by simp), by simpa using hc 5 (by simp), h4, h5, h6, h7⟩

theorem getD_at {α : Type} {l : List α} {k : Nat} (h : k < l.length) (d : α) : l.getD k d = l[k] := by simp [List.getD, h]
theorem colAt_at {t : Tbl} {c : Int} (h : c.toNat < t.cols.length) : colAt t c = t.cols[c.toNat] := getD_at h _

theorem BoxT.new {w : World} {t : Tbl} {l : List Value} (h : tblOk w t l) (ty : TypeId) : BoxT (w.alloc (.cells l.toArray ty)) w.heap.size t := by
  refine ⟨l, fun j hj => ?_, keeps_tbl _ _ _ _ (Ext.alloc _ _) h⟩
  simp only [Nat.zero_add]
  rw [World.cell?_alloc_new]
  simp [hj]
end Go.Proofs.YtgelmhcbiffghaaDoor
