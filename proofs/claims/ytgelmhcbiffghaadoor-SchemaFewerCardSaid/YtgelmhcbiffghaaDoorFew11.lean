/-
  WHAT IS PROVED HERE: what the document's Few answers.
-/
import Derived.Test.YtgelmhcbiffghaaDoorKids11
import Derived.Test.YtgelmhcbiffghaaDoorOpen11
namespace Go.Proofs.YtgelmhcbiffghaaDoor
open Go.RowKit

def cntT (t : Tbl) : Nat := t.cols.length + t.uniq.length + t.checks + t.frn.length + t.sums.length
def cntTo (s : List Tbl) (k : Nat) : Nat := ((List.range k).map fun j => cntT (s.getD j default)).sum
def fewB (s : List Tbl) : Bool := decide (s.length ≤ 20) && decide (cntTo s s.length ≤ 400)
theorem cntTo_succ (s : List Tbl) (k : Nat) : cntTo s (k + 1) = cntTo s k + cntT (s.getD k default) := by
  unfold cntTo
  rw [List.range_succ]
  simp
theorem cntTo_le (s : List Tbl) (h : ∀ t ∈ s, TblLim t) (k : Nat) (hk : k ≤ s.length) : cntTo s k ≤ k * 703687441776640 := by
  induction k with
  | zero => simp [cntTo]
  | succ k ih =>
    have h1 := ih (by omega)
    rw [cntTo_succ, getD_at (by omega)]
    have h2 := h s[k] (List.getElem_mem (by omega))
    unfold TblLim lenLim at h2
    unfold cntT
    omega

set_option maxHeartbeats 800000 in
theorem Few_any (v : Value) (s : List Tbl) (w : World) (hv : SliceOf 6 tblOk w v s) (hlim : ∀ t ∈ s, TblLim t) :
    Calls Tryd.prog 12 #[.agg #[v]] w fun e w' => e = .returned (.bool (fewB s)) ∧ Ext w w' := by
  obtain ⟨a, cap, rfl, _, hlen, _⟩ := hv.form
  have HV := hid hv
  have HL := hid hlim
  clear hv hlim
  have hx0 := Ext.alloc w (.cells #[.slice a s.length cap] 26)
  have c0 : (w.alloc (.cells #[.slice a s.length cap] 26)).cell? ⟨w.heap.size, 0, none⟩ = some (.slice a s.length cap) := by simp [go_sem]
  have X0 := hid hx0
  have C0 := hid c0
  clear hx0 c0
  go_enter Tryd.func12, Tryd.ntmps12
  go_wp2_with fail
  generalize w.alloc (.cells #[.slice a s.length cap] 26) = w0 at *
  go_loopw [3, 4] (fun n i wr => ∃ (k : Nat) (m : Int), k ≤ s.length ∧ n = .int .i64 m ∧ i = .int .i64 k ∧ Ext w0 wr ∧ Hid (k ≤ 20 → m = cntTo s k)) (fun _ i _ => s.length - (intOf i).toNat)
  case atStart => exact ⟨0, 0, Nat.zero_le _, rfl, rfl, Ext.refl _, fun _ => by simp [cntTo]⟩
  case round =>
    obtain ⟨k, m, hk, rfl, rfl, hx, hm⟩ := hrel
    have d0 := hx.cell C0.out
    have hd0 : w.heap.size < wr.heap.size := lt_of_cell d0
    by_cases hlt : k < s.length
    · obtain ⟨b, off, ac, cc, au, cu, ak, ck, af, cf, am, cs, rfl, hb, e0, e1, e2, e3, e4, e5, hR, _⟩ := tbl_at2 (HV.out.ext keeps_tbl (X0.out.trans hx)) hlt
      have HG := hid (getD_at hlt (default : Tbl))
      have HT := hid (HL.out s[k] (List.getElem_mem hlt))
      clear hR
      by_cases hk20 : k < 20
      · have hmm := hm.out (by omega)
        have hbd := cntTo_le s HL.out k (by omega)
        have ht := HT.out
        unfold TblLim lenLim at ht
        obtain ⟨t1, t2, t3, t4, t5⟩ := ht
        have m0 : 0 ≤ m := by omega
        have m1 : m ≤ 14073748835532800 := by omega
        have HM := hid hmm
        clear hmm hbd
        go_wp2_with fail
        go_roundw
        case rel => exact ⟨k + 1, _, by omega, rfl, by go_num, hx.allocR _, fun _ => by rw [cntTo_succ, HG.out, HM.out]; simp [cntT]; omega⟩
        case measure => simp [intOf]; omega
      · go_wp2_with fail
        go_roundw
        case rel => exact ⟨k + 1, _, by omega, rfl, by go_num, hx.allocR _, fun h => by omega⟩
        case measure => simp [intOf]; omega
    · have hks : k = s.length := by omega
      have HK := hid hks
      clear hks
      by_cases h20 : s.length ≤ 20
      · have h20' : decide ((s.length : Int) ≤ 20) = true := by simp; omega
        go_wp2_with fail
        go_ret
        exact ⟨ret_bool (by have := hm.out (by omega); rw [HK.out] at this; rw [this]; unfold fewB; simp [h20]; omega), X0.out.trans hx⟩
      · have h20' : decide ((s.length : Int) ≤ 20) = false := by simp; omega
        go_wp2_with fail
        go_ret
        exact ⟨ret_bool (by simp [fewB, h20]), X0.out.trans hx⟩
end Go.Proofs.YtgelmhcbiffghaaDoor
