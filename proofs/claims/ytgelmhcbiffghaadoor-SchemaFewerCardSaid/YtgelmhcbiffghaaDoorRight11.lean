/-
  WHAT IS PROVED HERE: what schema.Right answers: 'rightF'.
-/
import Derived.Test.YtgelmhcbiffghaaDoorLook11
import Derived.Deep.LoopGhost
import Derived.Laws.EntriesVeiled
namespace Go.Proofs.YtgelmhcbiffghaaDoor
open Go.RowKit

def lookFn : Nat → Nat
  | 0 => 36
  | 1 => 37
  | 2 => 38
  | 3 => 40
  | 4 => 42
  | 5 => 44
  | _ => 46
def fnV (f : Nat) : Value := .func (.func f) #[] #[]
def looksObj : Obj := .cells #[fnV (lookFn 0), fnV (lookFn 1), fnV (lookFn 2), fnV (lookFn 3), fnV (lookFn 4), fnV (lookFn 5), fnV (lookFn 6)] 58

set_option maxHeartbeats 400000 in
theorem looks_any (w : World) : Calls Tryd.prog 22 #[] w fun e w' => e = .returned (.slice (some ⟨w.heap.size, 0, none⟩) 7 7) ∧ w' = w.alloc looksObj := by
  go_enter Tryd.func22, Tryd.ntmps22
  go_wp2
  go_ret
  exact ⟨rfl, rfl⟩

theorem enLook (i : Nat) (hi : i < 7) : Enters Tryd.prog (lookFn i) := by
  match i, hi with
  | 0, _ => exact enters_of Tryd.func36 (by kernel_rfl) (by kernel_rfl)
  | 1, _ => exact enters_of Tryd.func37 (by kernel_rfl) (by kernel_rfl)
  | 2, _ => exact enters_of Tryd.func38 (by kernel_rfl) (by kernel_rfl)
  | 3, _ => exact enters_of Tryd.func40 (by kernel_rfl) (by kernel_rfl)
  | 4, _ => exact enters_of Tryd.func42 (by kernel_rfl) (by kernel_rfl)
  | 5, _ => exact enters_of Tryd.func44 (by kernel_rfl) (by kernel_rfl)
  | 6, _ => exact enters_of Tryd.func46 (by kernel_rfl) (by kernel_rfl)

theorem look_all (i : Nat) (hi : i < 7) (v : Value) (s : List Tbl) (k : Nat) (w : World) (hv : SliceOf 6 tblOk w v s) (hk : k < s.length) (hz : ∀ j, j < i → lookErr s k j = 0) :
    Calls Tryd.prog (lookFn i) #[.agg #[v], .int .i64 k] w fun e w' => e = .returned (.int .i64 (lookErr s k i)) ∧ Ext w w' := by
  match i, hi with
  | 0, _ => exact look1 v s k w hv hk
  | 1, _ => exact look2 v s k w hv hk
  | 2, _ => exact look3 v s k w hv hk
  | 3, _ => exact look4 v s k w hv hk (by
      have := hz 1 (by omega)
      simp only [lookErr, boundErr, getD_at hk] at this
      split at this
      · simp at this
      · rename_i h
        simp only [Bool.or_eq_true, decide_eq_true_eq, not_or] at h
        omega)
  | 4, _ => exact look5 v s k w hv hk
  | 5, _ => exact look6 v s k w hv hk
  | 6, _ => exact look7 v s k w hv hk

theorem looks_cell (w w' : World) (h : Ext (w.alloc looksObj) w') (i : Nat) (hi : i < 7) : w'.cell? ⟨w.heap.size, i, none⟩ = some (fnV (lookFn i)) := by
  refine Ext.cell h ?_
  unfold looksObj
  rw [World.cell?_alloc_new]
  match i, hi with
  | 0, _ => rfl
  | 1, _ => rfl
  | 2, _ => rfl
  | 3, _ => rfl
  | 4, _ => rfl
  | 5, _ => rfl
  | 6, _ => rfl

set_option maxHeartbeats 1000000 in
theorem Right_any (v : Value) (s : List Tbl) (w : World) (hv : SliceOf 6 tblOk w v s) :
    Calls Tryd.prog 13 #[.agg #[v]] w fun e w' => e = .returned (.int .i64 (rightF s)) ∧ Ext w w' := by
  obtain ⟨a, cap, rfl, _, hlen, _⟩ := hv.form
  have HV := hid hv
  clear hv
  by_cases h1 : s.length < 1
  · have h1' : decide ((s.length : Int) < 1) = true := by simp; omega
    go_enter Tryd.func13, Tryd.ntmps13
    go_wp2_with fail
    go_step3
    go_wp2_with fail
    rw [Exit.noGoto_ret]
    go_ret
    exact ⟨ret_int (by simp [rightF, h1]), Ext.alloc _ _⟩
  have h1' : decide ((s.length : Int) < 1) = false := by simp; omega
  by_cases h2 : 16 < s.length
  · have h2' : decide ((16 : Int) < (s.length : Int)) = true := by simp; omega
    go_enter Tryd.func13, Tryd.ntmps13
    go_wp2_with fail
    go_step3
    go_wp2_with fail
    rw [Exit.noGoto_ret]
    go_ret
    exact ⟨ret_int (by simp [rightF, h2]), Ext.alloc _ _⟩
  have h2' : decide ((16 : Int) < (s.length : Int)) = false := by simp; omega
  have HR : Hid (rightF s = firstE s.length (tabErr s)) := by unfold Hid rightF; simp [h1, h2]
  go_enter Tryd.func13, Tryd.ntmps13
  go_wp2_with fail
  go_step3
  go_wp2_with fail
  go_step3
  go_wp2_with fail
  clear h1' h2'
  have x0 := Ext.alloc w (.cells #[.slice a s.length cap] 26)
  have f0 : (w.alloc (.cells #[.slice a s.length cap] 26)).cell? ⟨w.heap.size, 0, none⟩ = some (.slice a s.length cap) := by simp [go_sem]
  have X0 := hid x0
  have F0 := hid f0
  generalize w.alloc (.cells #[.slice a s.length cap] 26) = w0 at *
  clear x0 f0
  go_loopg [3, 20] s.length (fun g n i wr => ∃ k : Nat, k + g = s.length ∧ n = .int .i64 0 ∧ i = .int .i64 k ∧ Ext w0 wr ∧ Hid (∀ j, j < k → tabErr s j = 0))
  case atStart => exact ⟨0, by omega, rfl, rfl, Ext.refl _, fun j h => absurd h (Nat.not_lt_zero _)⟩
  case round =>
    obtain ⟨k, hk, rfl, rfl, hx, hp⟩ := hrel
    by_cases hlt : k < s.length
    · go_wp2_with fail
      refine (looks_any _).mono ?_
      rintro e w1 ⟨rfl, rfl⟩
      go_wp2_with fail
      obtain ⟨wo, rfl⟩ : ∃ wo : World, wo = wr := ⟨_, rfl⟩
      go_loopg [3, 25] 7 (fun g n i wi => ∃ m : Nat, m + g = 7 ∧ n = .int .i64 0 ∧ i = .int .i64 m ∧ Ext (wo.alloc looksObj) wi ∧ Hid (∀ j, j < m → lookErr s k j = 0))
      case atStart => exact ⟨0, by omega, rfl, rfl, Ext.refl _, fun j h => absurd h (Nat.not_lt_zero _)⟩
      case round =>
        obtain ⟨m, hm, rfl, rfl, hy, hq⟩ := hrel
        by_cases hm7 : m < 7
        · have c0 := looks_cell wo wr hy m hm7
          unfold fnV at c0
          have xa : Ext w wr := X0.out.trans (hx.trans (Ext.trans (Ext.alloc _ _) hy))
          have xb : Ext w0 wr := hx.trans (Ext.trans (Ext.alloc _ _) hy)
          have c1 := xb.cell F0.out
          have HC := hid (look_all m hm7 _ s k (wr.alloc (.cells #[.func (.func (lookFn m)) #[] #[]] 58)) (HV.out.ext keeps_tbl (xa.allocR _)) hlt hq.out)
          have hcf := fun a w => enLook m hm7 a w
          have hb1 : w.heap.size < wr.heap.size := lt_of_cell c1
          have hb2 : wo.heap.size < wr.heap.size := lt_of_cell c0
          go_wp2_with fail
          clear hcf
          refine HC.out.mono ?_
          rintro e w2 ⟨rfl, hx2⟩
          by_cases hz : lookErr s k m = 0
          · have hz' : (lookErr s k m != 0) = false := by simp [hz]
            have HZ := hid hz
            clear hz
            go_wp2_with fail
            rw [HZ.out]
            go_roundg (6 - m)
            case measure => omega
            case rel => exact ⟨m + 1, by omega, rfl, by go_num, hy.trans ((Ext.alloc _ _).trans hx2), fun j hj => by
              rcases Nat.lt_succ_iff_lt_or_eq.1 hj with h | rfl
              · exact hq.out j h
              · exact HZ.out⟩
          · have hz' : (lookErr s k m != 0) = true := by simp [hz]
            go_wp2_with fail
            rw [Exit.noGoto_ret]
            go_ret
            exact ⟨ret_int (by rw [HR.out, firstE_at hlt hp.out (by unfold tabErr; rw [firstE_at hm7 hq.out hz]; exact hz)]; unfold tabErr; rw [firstE_at hm7 hq.out hz]), xa.trans ((Ext.alloc _ _).trans hx2)⟩
        · go_wp2_with fail
          go_roundg (s.length - k - 1)
          case measure => omega
          case rel => exact ⟨k + 1, by omega, rfl, by go_num, hx.trans (Ext.trans (Ext.alloc _ _) hy), fun j hj => by
            rcases Nat.lt_succ_iff_lt_or_eq.1 hj with h | rfl
            · exact hp.out j h
            · exact firstE_zero (fun i hi => hq.out i (by omega))⟩
    · go_wp2_with fail
      try rw [Exit.noGoto_ret]
      go_ret
      exact ⟨ret_int (by rw [HR.out, firstE_zero (fun j hj => hp.out j (by omega))]), X0.out.trans hx⟩
end Go.Proofs.YtgelmhcbiffghaaDoor
