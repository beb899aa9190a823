/-
  WHAT IS PROVED HERE: SchemaEach: for every schema the law returns true, and the schema reads as it did. No condition.
-/
import Derived.Test.YtgelmhcbiffghaaDoorAlive11
import Derived.Test.YtgelmhcbiffghaaDoorFew11
import Derived.Test.YtgelmhcbiffghaaDoorPlain11
import Derived.Deep.QuietTactic
import Derived.BigQuiet
import Derived.IntWalk
namespace Go.Proofs.YtgelmhcbiffghaaDoor.schemaEach
open Go.RowKit

set_option maxHeartbeats 4000000 in
set_option maxRecDepth 100000 in
theorem walk (v : Value) (s : List Tbl) (w : World) (hv : SliceOf 6 tblOk w v s) (hlim : ∀ t ∈ s, TblLim t) :
    Calls Tryd.prog 5 #[.agg #[v]] w fun e w' => e = .returned (.bool true) ∧ Ext w w' := by
  obtain ⟨a, cap, rfl, _, hlen, _⟩ := hv.form
  have HV := hid hv
  have HL := hid hlim
  clear hv hlim
  have x0 := Ext.alloc w (.cells #[.slice a s.length cap] 26)
  have c0 : (w.alloc (.cells #[.slice a s.length cap] 26)).cell? ⟨w.heap.size, 0, none⟩ = some (.slice a s.length cap) := by simp [go_sem]
  have X0 := hid x0
  have C0 := hid c0
  clear x0 c0
  cases hfew : fewB s
  · have HF := hid hfew
    clear hfew
    go_enter Tryd.func5, Tryd.ntmps5
    go_wp2_with fail
    refine (Few_any _ s _ (HV.out.ext keeps_tbl X0.out) HL.out).mono ?_
    rintro e w1 ⟨rfl, x1⟩
    rw [HF.out]
    go_wp2_with fail
    refine (alive_any _).mono ?_
    rintro e w2 ⟨rfl, x2⟩
    go_wp2_with fail
    go_ret
    exact ⟨rfl, X0.out.trans (x1.trans x2)⟩
  have HF := hid hfew
  clear hfew
  by_cases hright : rightF s = 0
  case neg =>
    have hr : (rightF s != 0) = true := by simpa using hright
    go_enter Tryd.func5, Tryd.ntmps5
    go_wp2_with fail
    refine (Few_any _ s _ (HV.out.ext keeps_tbl X0.out) HL.out).mono ?_
    rintro e w1 ⟨rfl, x1⟩
    rw [HF.out]
    have c1 := x1.cell C0.out
    go_wp2_with fail
    refine (Right_any _ s _ (HV.out.ext keeps_tbl (X0.out.trans x1))).mono ?_
    rintro e w2 ⟨rfl, x2⟩
    go_wp2_with fail
    refine (alive_any _).mono ?_
    rintro e w3 ⟨rfl, x3⟩
    go_wp2_with fail
    go_ret
    exact ⟨rfl, X0.out.trans (x1.trans (x2.trans x3))⟩
  case pos =>
    have HG := hid (good_of hright)
    have HR := hid hright
    clear hright
    go_enter Tryd.func5, Tryd.ntmps5
    go_wp2_with fail
    refine (Few_any _ s _ (HV.out.ext keeps_tbl X0.out) HL.out).mono ?_
    rintro e w1 ⟨rfl, x1⟩
    rw [HF.out]
    have c1 := x1.cell C0.out
    go_wp2_with fail
    refine (Right_any _ s _ (HV.out.ext keeps_tbl (X0.out.trans x1))).mono ?_
    rintro e w2 ⟨rfl, x2⟩
    rw [HR.out]
    have c2 := x2.cell c1
    have C2 := hid c2
    clear c1
    go_wp2_with fail
    have X2 := hid (X0.out.trans (x1.trans x2))
    clear x1 x2 c2
    go_loopw [27] (fun i wr => ∃ k : Nat, k ≤ s.length ∧ i = .int .i64 k ∧ Ext w2 wr) (fun i _ => s.length - (intOf i).toNat)
    case atStart => exact ⟨0, Nat.zero_le _, rfl, Ext.refl _⟩
    case round =>
      obtain ⟨k, hk, rfl, hx⟩ := hrel
      have d0 := hx.cell C2.out
      have hd0 : w.heap.size < wr.heap.size := lt_of_cell d0
      by_cases hlt : k < s.length
      · obtain ⟨b, off, ac, cc, au, cu, ak, ck, af, cf, am, cs, rfl, hb, e0, e1, e2, e3, e4, e5, hR, hn, hC, _, hFr, _⟩ := tbl_at2 (HV.out.ext keeps_tbl (X2.out.trans hx)) hlt
        have HRR := hid hR
        have HC := hid hC
        have HFr := hid hFr
        have HN := hid (fun w => Name_any s[k].name w hn)
        have GB := HG.out.bound hlt
        have GN := hid (HG.out.name hlt).1
        have GT := hid (HG.out.table hlt)
        have gb1 : decide ((s[k].cols.length : Int) < 1) = false := by simp; omega
        clear hR hC hFr hn
        go_wp2_with fail
        have y0 := Ext.alloc wr (.cells #[.string s[k].name, .slice ac s[k].cols.length cc, .slice au s[k].uniq.length cu, .slice ak s[k].checks ck, .slice af s[k].frn.length cf, .slice am s[k].sums.length cs] 36)
        have Y0 := hid y0
        have TF := hid (show ∀ w', Ext (wr.alloc (.cells #[.string s[k].name, .slice ac s[k].cols.length cc, .slice au s[k].uniq.length cu, .slice ak s[k].checks ck, .slice af s[k].frn.length cf, .slice am s[k].sums.length cs] 36)) w' → (w'.cell? ⟨wr.heap.size, 0, none⟩ = some (.string s[k].name) ∧ w'.cell? ⟨wr.heap.size, 1, none⟩ = some (.slice ac s[k].cols.length cc) ∧ w'.cell? ⟨wr.heap.size, 2, none⟩ = some (.slice au s[k].uniq.length cu) ∧ w'.cell? ⟨wr.heap.size, 3, none⟩ = some (.slice ak s[k].checks ck) ∧ w'.cell? ⟨wr.heap.size, 4, none⟩ = some (.slice af s[k].frn.length cf) ∧ w'.cell? ⟨wr.heap.size, 5, none⟩ = some (.slice am s[k].sums.length cs)) from fun w' h => ⟨h.cell (by simp [go_sem]), h.cell (by simp [go_sem]), h.cell (by simp [go_sem]), h.cell (by simp [go_sem]), h.cell (by simp [go_sem]), h.cell (by simp [go_sem])⟩)
        refine (Table_any _ s s[k].name _ (HV.out.ext keeps_tbl ((X2.out.trans hx).trans Y0.out))).mono ?_
        rintro e w3 ⟨rfl, x3⟩
        rw [GT.out, show maxZ ((k : Nat) : Int) = (k : Int) from by simp [maxZ], show decide (0 ≤ ((k : Nat) : Int)) = true from by simp]
        have Y3 := hid (Y0.out.trans x3)
        have q0 : w3.cell? ⟨wr.heap.size, 0, none⟩ = some (.string s[k].name) := x3.cell (by simp [go_sem])
        have q1 : w3.cell? ⟨wr.heap.size, 1, none⟩ = some (.slice ac s[k].cols.length cc) := x3.cell (by simp [go_sem])
        have hkk : ((k : Int) != (k : Int)) = false := by simp
        go_wp2_with fail
        refine (HN.out _).mono ?_
        rintro e w4 ⟨rfl, x4⟩
        rw [GN.out]
        replace q1 := x4.cell q1
        clear q0
        have hd4 : wr.heap.size < w4.heap.size := lt_of_cell q1
        have Z4 := hid (x3.trans x4)
        have Y4 := hid (Y0.out.trans (x3.trans x4))
        clear x3 x4 hd4 q1 y0 e0 e1 e2 e3 e4 e5
        obtain ⟨t0, t1, t2, t3, t4, t5⟩ := TF.out w4 Z4.out
        go_wp2_with fail
        clear t0 t1 t2 t3 t4 t5
        obtain ⟨wo, rfl⟩ : ∃ wo : World, wo = wr := ⟨_, rfl⟩
        go_loopw [61] (fun i wi => ∃ m : Nat, m ≤ s[k].cols.length ∧ i = .int .i64 m ∧ Ext w4 wi) (fun i _ => s[k].cols.length - (intOf i).toNat)
        case atStart => exact ⟨0, Nat.zero_le _, rfl, Ext.refl _⟩
        case round =>
          obtain ⟨m, hm, rfl, hy⟩ := hrel
          by_cases hml : m < s[k].cols.length
          · obtain ⟨bc, oc, rfl, g0, g1, g2, g3, _⟩ := col_at (HC.out.ext keeps_col (Y4.out.trans hy)) hml
            have hbc : bc < wr.heap.size := lt_of_cell g0
            obtain ⟨t0, t1, t2, t3, t4, t5⟩ := TF.out wr (Z4.out.trans hy)
            have ht0 : wo.heap.size < wr.heap.size := lt_of_cell t0
            have GC := hid (HG.out.column hlt hml)
            go_wp2_with fail
            have z0 := Ext.alloc wr (.cells #[.string s[k].cols[m].name, .int .i64 s[k].cols[m].kind, .int .i64 s[k].cols[m].typ, .bool s[k].cols[m].null] 40)
            have Z0 := hid z0
            refine (Column_any _ _ _ _ _ _ s[k].cols s[k].cols[m].name _ (HC.out.ext keeps_col ((Y4.out.trans hy).trans Z0.out))).mono ?_
            rintro e w5 ⟨rfl, x5⟩
            rw [GC.out, show maxZ ((m : Nat) : Int) = (m : Int) from by simp [maxZ], show decide (0 ≤ ((m : Nat) : Int)) = true from by simp]
            have hmm : ((m : Int) != (m : Int)) = false := by simp
            go_wp2_with fail
            go_roundw
            case rel => exact ⟨m + 1, by omega, by go_num, hy.trans (Z0.out.trans x5)⟩
            case measure => simp [intOf]; omega
          · obtain ⟨t0, t1, t2, t3, t4, t5⟩ := TF.out wr (Z4.out.trans hy)
            go_wp2_with fail
            obtain ⟨wp, rfl⟩ : ∃ wp : World, wp = wr := ⟨_, rfl⟩
            have Y5 := hid (Y4.out.trans hy)
            have Z5 := hid (Z4.out.trans hy)
            clear t0 t1 t2 t3 t4 t5
            go_loopw [84] (fun i wi => ∃ m : Nat, m ≤ s[k].frn.length ∧ i = .int .i64 m ∧ Ext wp wi) (fun i _ => s[k].frn.length - (intOf i).toNat)
            case atStart => exact ⟨0, Nat.zero_le _, rfl, Ext.refl _⟩
            case round =>
              obtain ⟨n, hn, rfl, hz⟩ := hrel
              by_cases hnl : n < s[k].frn.length
              · obtain ⟨bf, of, rfl, g0, g1, g2, _⟩ := frn_at (HFr.out.ext keeps_frn (Y5.out.trans hz)) hnl
                have hbf : bf < wr.heap.size := lt_of_cell g0
                obtain ⟨t0, t1, t2, t3, t4, t5⟩ := TF.out wr (Z5.out.trans hz)
                have ht0 : wo.heap.size < wr.heap.size := lt_of_cell t0
                have GF := hid (HG.out.foreign hlt hnl)
                have GI := hid (HG.out.isCol hlt hnl)
                go_wp2_with fail
                have z0 := Ext.alloc wr (.cells #[.int .i64 s[k].frn[n].col, .int .i64 s[k].frn[n].tab, .int .i64 s[k].frn[n].act] 43)
                have Z0 := hid z0
                have r0 : (wr.alloc (.cells #[.int .i64 s[k].frn[n].col, .int .i64 s[k].frn[n].tab, .int .i64 s[k].frn[n].act] 43)).cell? ⟨wr.heap.size, 0, none⟩ = some (.int .i64 s[k].frn[n].col) := by simp [go_sem]
                have r1 : (wr.alloc (.cells #[.int .i64 s[k].frn[n].col, .int .i64 s[k].frn[n].tab, .int .i64 s[k].frn[n].act] 43)).cell? ⟨wr.heap.size, 1, none⟩ = some (.int .i64 s[k].frn[n].tab) := by simp [go_sem]
                have r2 : (wr.alloc (.cells #[.int .i64 s[k].frn[n].col, .int .i64 s[k].frn[n].tab, .int .i64 s[k].frn[n].act] 43)).cell? ⟨wr.heap.size, 2, none⟩ = some (.int .i64 s[k].frn[n].act) := by simp [go_sem]
                have RR := hid (And.intro r0 (And.intro r1 r2))
                clear r0 r1 r2
                refine (Foreign_any s[k] _ s[k].frn[n].col _ (keeps_tbl _ _ _ _ ((Y5.out.trans hz).trans Z0.out) HRR.out)).mono ?_
                rintro e w5 ⟨rfl, x5⟩
                rw [GF.out.1, GF.out.2]
                have r0 := x5.cell RR.out.1
                have r1 := x5.cell RR.out.2.1
                have r2 := x5.cell RR.out.2.2
                have X5 := hid (Z0.out.trans x5)
                have hr5 : wr.heap.size < w5.heap.size := lt_of_cell r0
                clear t0 t1 t2 t3 t4 t5 g0 g1 g2 ht0 z0 x5
                obtain ⟨t0, t1, t2, t3, t4, t5⟩ := TF.out w5 ((Z5.out.trans hz).trans X5.out)
                have ht0 : wo.heap.size < w5.heap.size := lt_of_cell t0
                have dd := ((((Y5.out.trans hz).trans X5.out))).cell d0
                have hdd : w.heap.size < w5.heap.size := lt_of_cell dd
                unfold Frn.val
                have hst : Tryd.prog.stoodInHeld 43 = false := by kernel_rfl
                have i1 : decide (s[k].frn[n].col < 1) = false := by have := GI.out; simp; omega
                have i2 : decide (s[k].frn[n].tab < 0) = false := by have := GI.out; simp; omega
                have i3 : decide ((s.length : Int) ≤ s[k].frn[n].tab) = false := by have := GI.out; simp; omega
                by_cases hn0 : n < 1
                · have k0 : decide (0 < (n : Int)) = false := by simp; omega
                  have k0' : decide (0 < n) = false := by simp; omega
                  go_wp2_with fail
                  go_quiet (fail)
                  go_wp2_with fail
                  go_roundw
                  case rel => exact ⟨n + 1, by omega, by go_num, hz.trans ((X5.out.allocR _).drewNR _)⟩
                  case measure => simp [intOf]; omega
                · have GR := hid (HG.out.rises hlt hnl (by omega))
                  obtain ⟨_, _, h0, p0, _⟩ := frn_at (HFr.out.ext keeps_frn ((Y5.out.trans hz).trans X5.out)) (show n - 1 < s[k].frn.length by omega)
                  cases h0
                  have hbf5 : bf < w5.heap.size := lt_of_cell p0
                  have Hp := hid (getD_at (show n - 1 < s[k].frn.length by omega) (default : Frn))
                  have k0 : decide (0 < (n : Int)) = true := by simp; omega
                  have k0' : decide (0 < n) = true := by simp; omega
                  have k1 : 0 ≤ (n : Int) - 1 := by omega
                  have k3 : IntKind.i64.wrap ((n : Int) - 1) = (n : Int) - 1 := IntWalk.i64_in _ (by omega)
                  have k4 : 1 ≤ (n : Int) := by omega
                  have k5 : (n : Int) - 1 < (s[k].frn.length : Int) := by omega
                  have i4 : decide (s[k].frn[n].col ≤ s[k].frn[n - 1].col) = false := by have := GR.out; rw [Hp.out] at this; simp; omega
                  have k2 : ((n : Int) - 1).toNat = n - 1 := by omega
                  go_wp2_with fail
                  go_quiet (fail)
                  clear i4 k1 k2 k3 k4 k5
                  go_wp2_with fail
                  go_roundw
                  case rel => exact ⟨n + 1, by omega, by go_num, hz.trans ((X5.out.allocR _).drewNR _)⟩
                  case measure => simp [intOf]; omega
              · go_wp2_with fail
                go_roundw
                case rel => exact ⟨k + 1, by omega, by go_num, hx.trans (Y5.out.trans hz)⟩
                case measure => simp [intOf]; omega
      · go_wp2_with fail
        refine (alive_any _).mono ?_
        rintro e w3 ⟨rfl, x3⟩
        go_wp2_with fail
        go_ret
        exact ⟨rfl, X2.out.trans (hx.trans x3)⟩
end Go.Proofs.YtgelmhcbiffghaaDoor.schemaEach
