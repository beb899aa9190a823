/-
  WHAT IS PROVED HERE: what the document's asks of a schema's parts answer.
-/
import Derived.Test.YtgelmhcbiffghaaDoorRefC11
import Derived.Test.YtgelmhcbiffghaaDoorLook11
import Derived.Test.YtgelmhcbiffghaaDoorKids11
import Derived.Deep.QuietTactic
import Derived.BigQuiet
import Derived.IntWalk
import Derived.Deep.RegionHeld3
namespace Go.Proofs.YtgelmhcbiffghaaDoor
open Go.RowKit

def colE (t : Tbl) (k : Nat) : Int := colErr (t.cols.take k) (t.cols.getD k default)
theorem RefColumnE (t : Tbl) (l : List Value) (k : Nat) (w : World) (h : tblOk w t l) (hk : k < t.cols.length) :
    Calls Tryd.prog 64 #[.agg l.toArray, .int .i64 k] w fun e w' => e = .returned (.int .i64 (colE t k)) ∧ Ext w w' := RefColumn t l k w h hk
def partsE (n : Nat) (t : Tbl) : Int :=
  if colsErr t ≠ 0 then colsErr t else if keyErr t ≠ 0 then keyErr t else if firstE t.uniq.length (uniqErr t) ≠ 0 then firstE t.uniq.length (uniqErr t)
  else if firstE t.frn.length (frnErr n t) ≠ 0 then firstE t.frn.length (frnErr n t) else firstE t.sums.length (smErr t)

set_option maxHeartbeats 4000000 in
theorem RefParts (t : Tbl) (l : List Value) (sa : Option Addr) (n scap : Nat) (w : World) (h : tblOk w t l) (hpos : 0 < t.cols.length) :
    Calls Tryd.prog 48 #[.agg #[.slice sa n scap], .agg l.toArray] w fun e w' => e = .returned (.int .i64 (partsE n t)) ∧ Ext w w' := by
  have HT := hid h
  obtain ⟨vc, vu, ak, ck, vf, vs, rfl, hnm, _, hC, hU, hF, hS⟩ := h.out
  obtain ⟨ac, cc, rfl, _, hlc, _⟩ := hC.form
  obtain ⟨au, cu, rfl, _, hlu, _⟩ := hU.form
  obtain ⟨af, cf, rfl, _, hlf, _⟩ := hF.form
  obtain ⟨am, cs, rfl, _, hls, _⟩ := hS.form
  have HC := hid hC
  clear h hC hU hF hS
  have X0 := hid (show Ext w ((w.alloc (.cells #[.slice sa n scap] 26)).alloc (.cells #[.string t.name, .slice ac t.cols.length cc, .slice au t.uniq.length cu, .slice ak t.checks ck, .slice af t.frn.length cf, .slice am t.sums.length cs] 36)) from (Ext.alloc _ _).allocR _)
  have TT := hid (show ∀ w', Ext ((w.alloc (.cells #[.slice sa n scap] 26)).alloc (.cells #[.string t.name, .slice ac t.cols.length cc, .slice au t.uniq.length cu, .slice ak t.checks ck, .slice af t.frn.length cf, .slice am t.sums.length cs] 36)) w' → (w'.cell? ⟨w.heap.size, 0, none⟩ = some (.slice sa n scap) ∧ w'.cell? ⟨w.heap.size + 1, 0, none⟩ = some (.string t.name) ∧ w'.cell? ⟨w.heap.size + 1, 1, none⟩ = some (.slice ac t.cols.length cc) ∧ w'.cell? ⟨w.heap.size + 1, 2, none⟩ = some (.slice au t.uniq.length cu) ∧ w'.cell? ⟨w.heap.size + 1, 3, none⟩ = some (.slice ak t.checks ck) ∧ w'.cell? ⟨w.heap.size + 1, 4, none⟩ = some (.slice af t.frn.length cf) ∧ w'.cell? ⟨w.heap.size + 1, 5, none⟩ = some (.slice am t.sums.length cs)) from fun w' h => ⟨h.cell (by simp [go_sem]), h.cell (by simp [go_sem]), h.cell (by simp [go_sem]), h.cell (by simp [go_sem]), h.cell (by simp [go_sem]), h.cell (by simp [go_sem]), h.cell (by simp [go_sem])⟩)
  go_enter Tryd.func48, Tryd.ntmps48
  go_wp2_with fail
  generalize (w.alloc (.cells #[.slice sa n scap] 26)).alloc (.cells #[.string t.name, .slice ac t.cols.length cc, .slice au t.uniq.length cu, .slice ak t.checks ck, .slice af t.frn.length cf, .slice am t.sums.length cs] 36) = w1 at *
  have XP0 := hid (Ext.refl w1)
  go_loopw [5] (fun i wr => ∃ m : Nat, m ≤ t.cols.length ∧ i = .int .i64 m ∧ Ext w1 wr ∧ Hid (∀ j, j < m → (colE t) j = 0)) (fun i _ => t.cols.length - (intOf i).toNat)
  case atStart => exact ⟨0, Nat.zero_le _, rfl, Ext.refl _, fun j h => absurd h (Nat.not_lt_zero _)⟩
  case round =>
    obtain ⟨m, hm, rfl, hx, hp⟩ := hrel
    obtain ⟨s0, t0, t1, t2, t3, t4, t5⟩ := TT.out wr (XP0.out.trans hx)
    by_cases hlt : m < t.cols.length
    · go_wp2_with fail
      refine (RefColumnE t _ m _ (keeps_tbl _ _ _ _ (X0.out.trans (XP0.out.trans hx)) HT.out) hlt).mono ?_
      rintro e w2 ⟨rfl, hx2⟩
      by_cases hz : (colE t) m = 0
      · have hz' : ((colE t) m != 0) = false := by simp [hz]
        have HZ := hid hz
        clear hz
        go_wp2_with fail
        go_roundw
        case rel => exact ⟨m + 1, by omega, by go_num, hx.trans hx2, fun j hj => by
          rcases Nat.lt_succ_iff_lt_or_eq.1 hj with h | rfl
          · exact hp.out j h
          · exact HZ.out⟩
        case measure => simp [intOf]; omega
      · have hz' : ((colE t) m != 0) = true := by simp [hz]
        go_wp2_with fail
        go_ret
        exact ⟨ret_int (by
          have he : firstE t.cols.length (colE t) = (colE t) m := firstE_at hlt hp.out hz
          have hne : firstE t.cols.length (colE t) ≠ 0 := by rw [he]; exact hz
          unfold partsE
          rw [if_pos (show colsErr t ≠ 0 from hne)]; exact he.symm), X0.out.trans (XP0.out.trans (hx.trans hx2))⟩
    · have E0 : Hid (firstE t.cols.length (colE t) = 0) := firstE_zero (fun j hj => hp.out j (by omega))
      have XP1 := hid (XP0.out.trans hx)
      clear hp
      obtain ⟨bc, oc, h0, c0, c1, c2, c3, _⟩ := col_at (HC.out.ext keeps_col (X0.out.trans (XP0.out.trans hx))) hpos
      subst h0
      rw [Nat.zero_mul, Nat.add_zero] at c0 c1 c2 c3
      have KG := hid (getD_at hpos (default : Col))
      cases hkk : (t.cols[0].kind != 0)
      case true =>
        have HK1 := hid hkk
        go_wp2_with fail
        go_ret
        exact ⟨ret_int (by
          have hk : keyErr t = 6 := by unfold keyErr numCol; rw [KG.out]; have := HK1.out; simp at this; simp [this]
          unfold partsE
          rw [if_neg (by rw [show colsErr t = 0 from E0.out]; simp), hk]; rfl), X0.out.trans (XP0.out.trans hx)⟩
      have HK1 := hid hkk
      cases htt : (t.cols[0].typ != 1)
      case true =>
        have HK2 := hid htt
        go_wp2_with fail
        go_ret
        exact ⟨ret_int (by
          have hk : keyErr t = 6 := by unfold keyErr numCol; rw [KG.out]; have := HK2.out; simp at this; simp [this]
          unfold partsE
          rw [if_neg (by rw [show colsErr t = 0 from E0.out]; simp), hk]; rfl), X0.out.trans (XP0.out.trans hx)⟩
      have HK2 := hid htt
      cases hnn : t.cols[0].null
      case true =>
        have HK3 := hid hnn
        rw [hnn] at c3
        clear hnn
        go_wp2_with fail
        go_ret
        exact ⟨ret_int (by
          have hk : keyErr t = 6 := by unfold keyErr; rw [KG.out, HK3.out]; simp
          unfold partsE
          rw [if_neg (by rw [show colsErr t = 0 from E0.out]; simp), hk]; rfl), X0.out.trans (XP0.out.trans hx)⟩
      have HK3 := hid hnn
      rw [hnn] at c3
      clear hnn
      have EK : Hid (keyErr t = 0) := by
        unfold Hid keyErr numCol
        have a1 := HK1.out
        have a2 := HK2.out
        simp at a1 a2
        rw [KG.out, HK3.out, a1, a2]
        rfl
      go_wp2_with fail
      obtain ⟨wq0, rfl⟩ : ∃ wq : World, wq = wr := ⟨_, rfl⟩
      clear s0 t0 t1 t2 t3 t4 t5 c0 c1 c2 c3 hkk htt hx
      go_loopw [7] (fun i wr => ∃ m : Nat, m ≤ t.uniq.length ∧ i = .int .i64 m ∧ Ext wq0 wr ∧ Hid (∀ j, j < m → (uniqErr t) j = 0)) (fun i _ => t.uniq.length - (intOf i).toNat)
      case atStart => exact ⟨0, Nat.zero_le _, rfl, Ext.refl _, fun j h => absurd h (Nat.not_lt_zero _)⟩
      case round =>
        obtain ⟨m, hm, rfl, hx, hp⟩ := hrel
        obtain ⟨s0, t0, t1, t2, t3, t4, t5⟩ := TT.out wr (XP1.out.trans hx)
        by_cases hlt : m < t.uniq.length
        · go_wp2_with fail
          refine (RefUnique t _ m _ (keeps_tbl _ _ _ _ (X0.out.trans (XP1.out.trans hx)) HT.out) hlt).mono ?_
          rintro e w2 ⟨rfl, hx2⟩
          by_cases hz : (uniqErr t) m = 0
          · have hz' : ((uniqErr t) m != 0) = false := by simp [hz]
            have HZ := hid hz
            clear hz
            go_wp2_with fail
            go_roundw
            case rel => exact ⟨m + 1, by omega, by go_num, hx.trans hx2, fun j hj => by
              rcases Nat.lt_succ_iff_lt_or_eq.1 hj with h | rfl
              · exact hp.out j h
              · exact HZ.out⟩
            case measure => simp [intOf]; omega
          · have hz' : ((uniqErr t) m != 0) = true := by simp [hz]
            go_wp2_with fail
            go_ret
            exact ⟨ret_int (by
              have he : firstE t.uniq.length (uniqErr t) = (uniqErr t) m := firstE_at hlt hp.out hz
              have hne : firstE t.uniq.length (uniqErr t) ≠ 0 := by rw [he]; exact hz
              unfold partsE
              rw [if_neg (by rw [show colsErr t = 0 from E0.out]; simp), if_neg (by rw [EK.out]; simp)]
              rw [if_pos hne, he]), X0.out.trans (XP1.out.trans (hx.trans hx2))⟩
        · have E1 : Hid (firstE t.uniq.length (uniqErr t) = 0) := firstE_zero (fun j hj => hp.out j (by omega))
          have XP2 := hid (XP1.out.trans hx)
          clear hp
          go_wp2_with fail
          obtain ⟨wq1, rfl⟩ : ∃ wq : World, wq = wr := ⟨_, rfl⟩
          clear s0 t0 t1 t2 t3 t4 t5 hx
          go_loopw [9] (fun i wr => ∃ m : Nat, m ≤ t.frn.length ∧ i = .int .i64 m ∧ Ext wq1 wr ∧ Hid (∀ j, j < m → (frnErr n t) j = 0)) (fun i _ => t.frn.length - (intOf i).toNat)
          case atStart => exact ⟨0, Nat.zero_le _, rfl, Ext.refl _, fun j h => absurd h (Nat.not_lt_zero _)⟩
          case round =>
            obtain ⟨m, hm, rfl, hx, hp⟩ := hrel
            obtain ⟨s0, t0, t1, t2, t3, t4, t5⟩ := TT.out wr (XP2.out.trans hx)
            by_cases hlt : m < t.frn.length
            · go_wp2_with fail
              refine (RefForeign t _ sa n scap m _ (keeps_tbl _ _ _ _ (X0.out.trans (XP2.out.trans hx)) HT.out) hlt).mono ?_
              rintro e w2 ⟨rfl, hx2⟩
              by_cases hz : (frnErr n t) m = 0
              · have hz' : ((frnErr n t) m != 0) = false := by simp [hz]
                have HZ := hid hz
                clear hz
                go_wp2_with fail
                go_roundw
                case rel => exact ⟨m + 1, by omega, by go_num, hx.trans hx2, fun j hj => by
                  rcases Nat.lt_succ_iff_lt_or_eq.1 hj with h | rfl
                  · exact hp.out j h
                  · exact HZ.out⟩
                case measure => simp [intOf]; omega
              · have hz' : ((frnErr n t) m != 0) = true := by simp [hz]
                go_wp2_with fail
                go_ret
                exact ⟨ret_int (by
                  have he : firstE t.frn.length (frnErr n t) = (frnErr n t) m := firstE_at hlt hp.out hz
                  have hne : firstE t.frn.length (frnErr n t) ≠ 0 := by rw [he]; exact hz
                  unfold partsE
                  rw [if_neg (by rw [show colsErr t = 0 from E0.out]; simp), if_neg (by rw [EK.out]; simp), if_neg (by rw [E1.out]; simp)]
                  rw [if_pos hne, he]), X0.out.trans (XP2.out.trans (hx.trans hx2))⟩
            · have E2 : Hid (firstE t.frn.length (frnErr n t) = 0) := firstE_zero (fun j hj => hp.out j (by omega))
              have XP3 := hid (XP2.out.trans hx)
              clear hp
              go_wp2_with fail
              obtain ⟨wq2, rfl⟩ : ∃ wq : World, wq = wr := ⟨_, rfl⟩
              clear s0 t0 t1 t2 t3 t4 t5 hx
              go_loopw [11] (fun i wr => ∃ m : Nat, m ≤ t.sums.length ∧ i = .int .i64 m ∧ Ext wq2 wr ∧ Hid (∀ j, j < m → (smErr t) j = 0)) (fun i _ => t.sums.length - (intOf i).toNat)
              case atStart => exact ⟨0, Nat.zero_le _, rfl, Ext.refl _, fun j h => absurd h (Nat.not_lt_zero _)⟩
              case round =>
                obtain ⟨m, hm, rfl, hx, hp⟩ := hrel
                obtain ⟨s0, t0, t1, t2, t3, t4, t5⟩ := TT.out wr (XP3.out.trans hx)
                by_cases hlt : m < t.sums.length
                · go_wp2_with fail
                  refine (RefSum t _ m _ (keeps_tbl _ _ _ _ (X0.out.trans (XP3.out.trans hx)) HT.out) hlt).mono ?_
                  rintro e w2 ⟨rfl, hx2⟩
                  by_cases hz : (smErr t) m = 0
                  · have hz' : ((smErr t) m != 0) = false := by simp [hz]
                    have HZ := hid hz
                    clear hz
                    go_wp2_with fail
                    go_roundw
                    case rel => exact ⟨m + 1, by omega, by go_num, hx.trans hx2, fun j hj => by
                      rcases Nat.lt_succ_iff_lt_or_eq.1 hj with h | rfl
                      · exact hp.out j h
                      · exact HZ.out⟩
                    case measure => simp [intOf]; omega
                  · have hz' : ((smErr t) m != 0) = true := by simp [hz]
                    go_wp2_with fail
                    go_ret
                    exact ⟨ret_int (by
                      have he : firstE t.sums.length (smErr t) = (smErr t) m := firstE_at hlt hp.out hz
                      have hne : firstE t.sums.length (smErr t) ≠ 0 := by rw [he]; exact hz
                      unfold partsE
                      rw [if_neg (by rw [show colsErr t = 0 from E0.out]; simp), if_neg (by rw [EK.out]; simp), if_neg (by rw [E1.out]; simp), if_neg (by rw [E2.out]; simp)]
                      rw [he]), X0.out.trans (XP3.out.trans (hx.trans hx2))⟩
                · have E3 : Hid (firstE t.sums.length (smErr t) = 0) := firstE_zero (fun j hj => hp.out j (by omega))
                  have XP4 := hid (XP3.out.trans hx)
                  clear hp
                  go_wp2_with fail
                  go_ret
                  exact ⟨ret_int (by
                    unfold partsE
                    rw [if_neg (by rw [show colsErr t = 0 from E0.out]; simp), if_neg (by rw [EK.out]; simp), if_neg (by rw [E1.out]; simp), if_neg (by rw [E2.out]; simp), E3.out]), X0.out.trans (XP3.out.trans hx)⟩
end Go.Proofs.YtgelmhcbiffghaaDoor
