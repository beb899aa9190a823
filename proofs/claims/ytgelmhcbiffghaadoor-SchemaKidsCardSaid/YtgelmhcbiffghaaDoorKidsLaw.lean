/-
  WHAT IS PROVED HERE: the walk of SchemaKids: it returns true at every schema.
-/
import Derived.Test.YtgelmhcbiffghaaDoorAlive11
import Derived.Test.YtgelmhcbiffghaaDoorFew11
import Derived.Test.YtgelmhcbiffghaaDoorPlain11
import Derived.Deep.QuietTactic
import Derived.BigQuiet
import Derived.IntWalk
namespace Go.Proofs.YtgelmhcbiffghaaDoor.schemaKids
open Go.RowKit

def kidsSum (s : List Tbl) (k : Nat) : Nat := ((List.range k).map fun (t : Nat) => (kidsF s t).length).sum
theorem kidsSum_succ (s : List Tbl) (k : Nat) : kidsSum s (k + 1) = kidsSum s k + (kidsF s k).length := by
  unfold kidsSum
  rw [List.range_succ]
  simp
theorem kidsSum_le (s : List Tbl) (k : Nat) (h : Good s) (hk : k ≤ s.length) : kidsSum s k ≤ 256 := by
  have h1 : kidsSum s k ≤ kidsSum s s.length := by
    have : ∀ d, kidsSum s k ≤ kidsSum s (k + d) := by
      intro d
      induction d with
      | zero => exact Nat.le_refl _
      | succ d ih => rw [← Nat.add_assoc, kidsSum_succ]; omega
    have := this (s.length - k)
    rwa [show k + (s.length - k) = s.length by omega] at this
  have h2 : kidsSum s s.length = frnCount s s.length := h.count
  have h3 := h.frnCount s.length (Nat.le_refl _)
  have := h.few
  omega
theorem kid_at {s : List Tbl} {t : Int} {i : Nat} (hi : i < (kidsF s t).length) : ∃ h1 : (kidsF s t)[i].1 < s.length, ∃ h2 : (kidsF s t)[i].2 < s[(kidsF s t)[i].1].frn.length, s[(kidsF s t)[i].1].frn[(kidsF s t)[i].2].tab = t := by
  have h := kidsTo_mem.1 (List.getElem_mem hi : (kidsF s t)[i] ∈ kidsTo s t s.length)
  obtain ⟨h1, h2, h3⟩ := h
  rw [getD_at h1] at h2 h3
  rw [getD_at h2] at h3
  exact ⟨h1, h2, h3⟩
theorem kid_next {s : List Tbl} {t : Int} {i : Nat} (hi : i < (kidsF s t).length) (h0 : 0 < i) : pairLt ((kidsF s t)[i - 1]'(by omega)) (kidsF s t)[i] := by
  have h := kidsTo_sorted s t s.length
  change (kidsF s t).Pairwise pairLt at h
  exact List.pairwise_iff_getElem.1 h (i - 1) i (by omega) hi (by omega)
theorem pair_at {w : World} {a : Option Addr} {cap len : Nat} {s : List (Nat × Nat)} (h : SliceOf 2 pairOk w (.slice a len cap) s) {k : Nat} (hk : k < s.length) :
    ∃ b off, a = some ⟨b, off, none⟩ ∧ w.cell? ⟨b, off + k * 2, none⟩ = some (.int .i64 s[k].1) ∧ w.cell? ⟨b, off + k * 2 + 1, none⟩ = some (.int .i64 s[k].2) := by
  obtain ⟨a', cap', h1, h2, h3, h4, h5⟩ := h.out
  simp only [Value.slice.injEq] at h1
  obtain ⟨rfl, rfl, rfl⟩ := h1
  obtain ⟨b, off, rfl, l, hl, hp, hc⟩ := h5 k hk
  unfold pairOk at hp
  subst hp
  exact ⟨b, off, rfl, hc 0 (by simp), hc 1 (by simp)⟩
theorem keeps_pair : Keeps pairOk := fun _ _ _ _ _ h => h

set_option maxHeartbeats 4000000 in
set_option maxRecDepth 100000 in
theorem walk (v : Value) (s : List Tbl) (w : World) (hv : SliceOf 6 tblOk w v s) (hlim : ∀ t ∈ s, TblLim t) :
    Calls Tryd.prog 6 #[.agg #[v]] w fun e w' => e = .returned (.bool true) ∧ Ext w w' := by
  obtain ⟨a, cap, rfl, _, hlen, _⟩ := hv.form
  have HV := hid hv
  have HL := hid hlim
  clear hv hlim
  have x0 := Ext.alloc w (.cells #[.slice a s.length cap] 26)
  have c0 : (w.alloc (.cells #[.slice a s.length cap] 26)).cell? ⟨w.heap.size, 0, none⟩ = some (.slice a s.length cap) := by simp [go_sem]
  have X0 := hid x0
  have C0 := hid c0
  clear x0 c0
  cases hfew : fewB s
  · have HF := hid hfew
    clear hfew
    go_enter Tryd.func6, Tryd.ntmps6
    go_wp2_with fail
    refine (Few_any _ s _ (HV.out.ext keeps_tbl X0.out) HL.out).mono ?_
    rintro e w1 ⟨rfl, x1⟩
    rw [HF.out]
    go_wp2_with fail
    refine (alive_any _).mono ?_
    rintro e w2 ⟨rfl, x2⟩
    go_wp2_with fail
    go_ret
    exact ⟨rfl, X0.out.trans (x1.trans x2)⟩
  have HF := hid hfew
  clear hfew
  by_cases hright : rightF s = 0
  case neg =>
    have hr : (rightF s != 0) = true := by simpa using hright
    go_enter Tryd.func6, Tryd.ntmps6
    go_wp2_with fail
    refine (Few_any _ s _ (HV.out.ext keeps_tbl X0.out) HL.out).mono ?_
    rintro e w1 ⟨rfl, x1⟩
    rw [HF.out]
    have c1 := x1.cell C0.out
    go_wp2_with fail
    refine (Right_any _ s _ (HV.out.ext keeps_tbl (X0.out.trans x1))).mono ?_
    rintro e w2 ⟨rfl, x2⟩
    go_wp2_with fail
    refine (alive_any _).mono ?_
    rintro e w3 ⟨rfl, x3⟩
    go_wp2_with fail
    go_ret
    exact ⟨rfl, X0.out.trans (x1.trans (x2.trans x3))⟩
  case pos =>
    have HG := hid (good_of hright)
    have HR := hid hright
    clear hright
    go_enter Tryd.func6, Tryd.ntmps6
    go_wp2_with fail
    refine (Few_any _ s _ (HV.out.ext keeps_tbl X0.out) HL.out).mono ?_
    rintro e w1 ⟨rfl, x1⟩
    rw [HF.out]
    have c1 := x1.cell C0.out
    go_wp2_with fail
    refine (Right_any _ s _ (HV.out.ext keeps_tbl (X0.out.trans x1))).mono ?_
    rintro e w2 ⟨rfl, x2⟩
    rw [HR.out]
    have c2 := x2.cell c1
    have C2 := hid c2
    clear c1
    go_wp2_with fail
    have X2 := hid (X0.out.trans (x1.trans x2))
    clear x1 x2 c2
    go_loopw [3, 4, 22] (fun n o i wr => ∃ k : Nat, k ≤ s.length ∧ n = .int .i64 (frnCount s k) ∧ o = .int .i64 (kidsSum s k) ∧ i = .int .i64 k ∧ Ext w2 wr) (fun _ _ i _ => s.length - (intOf i).toNat)
    case atStart => exact ⟨0, Nat.zero_le _, rfl, rfl, rfl, Ext.refl _⟩
    case round =>
      obtain ⟨k, hk, rfl, rfl, rfl, hx⟩ := hrel
      have d0 := hx.cell C2.out
      have D0 := hid d0
      have hd0 : w.heap.size < wr.heap.size := lt_of_cell d0
      have bd1 := HG.out.frnCount k hk
      have bd2 := kidsSum_le s k HG.out hk
      have bd3 := HG.out.few
      by_cases hlt : k < s.length
      · obtain ⟨b, off, ac, cc, au, cu, ak, ck, af, cf, am, cs, rfl, hb, e0, e1, e2, e3, e4, e5, hR, _⟩ := tbl_at2 (HV.out.ext keeps_tbl (X2.out.trans hx)) hlt
        clear hR
        have GB := HG.out.bound hlt
        have ES := hid (And.intro (frnCount_succ s k) (And.intro (kidsSum_succ s k) (getD_at hlt (default : Tbl))))
        go_wp2_with fail
        have y0 := Ext.alloc wr (.cells #[.string s[k].name, .slice ac s[k].cols.length cc, .slice au s[k].uniq.length cu, .slice ak s[k].checks ck, .slice af s[k].frn.length cf, .slice am s[k].sums.length cs] 36)
        have Y0 := hid y0
        refine (Kids_any _ s (k : Int) _ (HV.out.ext keeps_tbl ((X2.out.trans hx).trans Y0.out)) (by have := HG.out.frnCount s.length (Nat.le_refl _); omega)).mono ?_
        rintro e w5 ⟨u, rfl, hu, x5⟩
        have bd4 : (kidsF s (k : Int)).length ≤ 256 := by
          have h1 := kidsSum_le s (k + 1) HG.out (by omega)
          rw [kidsSum_succ] at h1
          omega
        obtain ⟨ua, uc, rfl, _⟩ := hu.form
        have HU := hid hu
        have Y5 := hid (Y0.out.trans x5)
        clear hu x5 y0 e0 e1 e2 e3 e4 e5
        go_wp2_with fail
        obtain ⟨wo, rfl⟩ : ∃ wo : World, wo = wr := ⟨_, rfl⟩
        go_loopw [41] (fun i wi => ∃ m : Nat, m ≤ (kidsF s (k : Int)).length ∧ i = .int .i64 m ∧ Ext w5 wi) (fun i _ => (kidsF s (k : Int)).length - (intOf i).toNat)
        case atStart => exact ⟨0, Nat.zero_le _, rfl, Ext.refl _⟩
        case round =>
          obtain ⟨m, hm, rfl, hy⟩ := hrel
          by_cases hml : m < (kidsF s (k : Int)).length
          · obtain ⟨bu, ou, rfl, G0, G1⟩ := pair_at (HU.out.ext keeps_pair hy) hml
            obtain ⟨x, y, bf, of, L, cf2, hx1, hy1, hL, g0, g1, f4, f5, PV⟩ : ∃ (x y bf of L cf2 : Nat), x < s.length ∧ y < L ∧ L ≤ 16 ∧ wr.cell? ⟨bu, ou + m * 2, none⟩ = some (.int .i64 x) ∧ wr.cell? ⟨bu, ou + m * 2 + 1, none⟩ = some (.int .i64 y) ∧
                wr.cell? ⟨b, off + x * 6 + 4, none⟩ = some (.slice (some ⟨bf, of, none⟩) L cf2) ∧ wr.cell? ⟨bf, of + y * 3 + 1, none⟩ = some (.int .i64 k) ∧
                (0 < m → ∃ x' y' : Nat, wr.cell? ⟨bu, ou + (m - 1) * 2, none⟩ = some (.int .i64 x') ∧ wr.cell? ⟨bu, ou + (m - 1) * 2 + 1, none⟩ = some (.int .i64 y') ∧ (x' < x ∨ (x' = x ∧ y' < y))) := by
              obtain ⟨p1, p2, p3⟩ := kid_at hml
              obtain ⟨_, _, _, _, _, _, _, _, af2, cf2, _, _, h0, hb2, _, _, _, _, f4, _, _, _, _, _, hF, _⟩ := tbl_at2 (HV.out.ext keeps_tbl ((X2.out.trans hx).trans (Y5.out.trans hy))) p1
              cases h0
              obtain ⟨bf, of, rfl, _, f5, _⟩ := frn_at hF p2
              rw [p3] at f5
              refine ⟨_, _, bf, of, _, cf2, p1, p2, (HG.out.bound p1).2.2.2.2.1, G0, G1, f4, f5, fun h0 => ?_⟩
              obtain ⟨_, _, h1, q0, q1⟩ := pair_at (HU.out.ext keeps_pair hy) (show m - 1 < (kidsF s (k : Int)).length by omega)
              cases h1
              exact ⟨_, _, q0, q1, kid_next hml h0⟩
            clear G0 G1
            have hbu : bu < wr.heap.size := lt_of_cell g0
            have hbf : bf < wr.heap.size := lt_of_cell f5
            have hb2 : b < wr.heap.size := lt_of_cell f4
            have dd := (Y5.out.trans hy).cell D0.out
            have hdd : w.heap.size < wr.heap.size := lt_of_cell dd
            have HPV := hid PV
            clear PV
            have b1 : decide ((x : Int) < 0) = false := by simp
            have b2 : decide ((s.length : Int) ≤ (x : Int)) = false := by simp; omega
            have b2' : decide (s.length ≤ x) = false := by simp; omega
            have b3 : decide ((y : Int) < 0) = false := by simp
            have b4 : decide ((L : Int) ≤ (y : Int)) = false := by simp; omega
            have b4' : decide (L ≤ y) = false := by simp; omega
            have b5 : ((k : Int) != (k : Int)) = false := by simp
            by_cases hm0 : m < 1
            · have k0 : decide (0 < (m : Int)) = false := by simp; omega
              have k0' : decide (0 < m) = false := by simp; omega
              go_wp2_with fail
              simp only [List.append]
              go_quiet (fail)
              go_wp2_with fail
              go_roundw
              case rel => exact ⟨m + 1, by omega, by go_num, ((hy.allocR _).drewNR _)⟩
              case measure => simp [intOf]; omega
            · obtain ⟨x', y', r0, r1, hlt'⟩ := HPV.out (by omega)
              have k0 : decide (0 < (m : Int)) = true := by simp; omega
              have k0' : decide (0 < m) = true := by simp; omega
              have k1 : 0 ≤ (m : Int) - 1 := by omega
              have k3 : IntKind.i64.wrap ((m : Int) - 1) = (m : Int) - 1 := IntWalk.i64_in _ (by omega)
              have k4 : 1 ≤ (m : Int) := by omega
              have k5 : (m : Int) - 1 < ((kidsF s (k : Int)).length : Int) := by omega
              rcases hlt' with h1 | ⟨h1, h2⟩
              · have i1 : decide ((x : Int) < (x' : Int)) = false := by simp; omega
                have i1' : decide (x < x') = false := by simp; omega
                have i2 : ((x : Int) == (x' : Int)) = false := by simp; omega
                have i2' : (x == x') = false := by simp; omega
                have k2 : ((m : Int) - 1).toNat = m - 1 := by omega
                go_wp2_with fail
                simp only [List.append]
                go_quiet (fail)
                clear k1 k2 k3 k4 k5
                go_wp2_with fail
                go_roundw
                case rel => exact ⟨m + 1, by omega, by go_num, ((hy.allocR _).drewNR _)⟩
                case measure => simp [intOf]; omega
              · subst h1
                have i1 : decide ((x' : Int) < (x' : Int)) = false := by simp
                have i2 : ((x' : Int) == (x' : Int)) = true := by simp
                have i3 : decide ((y : Int) ≤ (y' : Int)) = false := by simp; omega
                have i3' : decide (y ≤ y') = false := by simp; omega
                have k2 : ((m : Int) - 1).toNat = m - 1 := by omega
                go_wp2_with fail
                simp only [List.append]
                go_quiet (fail)
                clear k1 k2 k3 k4 k5
                go_wp2_with fail
                go_roundw
                case rel => exact ⟨m + 1, by omega, by go_num, ((hy.allocR _).drewNR _)⟩
                case measure => simp [intOf]; omega
          · go_wp2_with fail
            go_roundw
            case rel =>
              have : m = (kidsF s (k : Int)).length := by omega
              exact ⟨k + 1, by omega, by rw [ES.out.1, ES.out.2.2]; go_num, by rw [ES.out.2.1]; go_num, by go_num, hx.trans (Y5.out.trans hy)⟩
            case measure => simp [intOf]; omega
      · have hks : k = s.length := by omega
        have HK := hid hks
        clear hks
        go_wp2_with fail
        refine (alive_any _).mono ?_
        rintro e w3 ⟨rfl, x3⟩
        go_wp2_with fail
        go_ret
        exact ⟨ret_bool (by rw [HK.out]; have : kidsSum s s.length = frnCount s s.length := HG.out.count; simp [this]), X2.out.trans (hx.trans x3)⟩
end Go.Proofs.YtgelmhcbiffghaaDoor.schemaKids
