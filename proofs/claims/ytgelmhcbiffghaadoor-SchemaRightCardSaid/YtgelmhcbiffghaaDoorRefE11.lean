/-
  WHAT IS PROVED HERE: what the document's Right answers: 'rightF'; and the walk of SchemaRight.
-/
import Derived.Test.YtgelmhcbiffghaaDoorRefD11
import Derived.Test.YtgelmhcbiffghaaDoorAlive11
import Derived.Test.YtgelmhcbiffghaaDoorFew11
namespace Go.Proofs.YtgelmhcbiffghaaDoor
open Go.RowKit

theorem firstE_one (f : Nat → Int) : ∀ n, firstE (n + 1) f = if f 0 ≠ 0 then f 0 else firstE n (fun j => f (j + 1)) := by
  intro n
  induction n with
  | zero => simp [firstE]
  | succ n ih =>
    rw [firstE, ih]
    by_cases h0 : f 0 = 0
    · simp [h0, firstE]
    · simp [h0]
theorem tabErr_eq (s : List Tbl) (k : Nat) : tabErr s k = if nameErr s k ≠ 0 then nameErr s k else if boundErr (s.getD k default) ≠ 0 then boundErr (s.getD k default) else partsE s.length (s.getD k default) := by
  unfold tabErr partsE
  rw [firstE_one, firstE_one, firstE_one, firstE_one, firstE_one, firstE_one, firstE_one]
  simp only [firstE]
  show (if nameErr s k ≠ 0 then nameErr s k else if boundErr (s.getD k default) ≠ 0 then boundErr (s.getD k default) else if colsErr (s.getD k default) ≠ 0 then colsErr (s.getD k default) else if keyErr (s.getD k default) ≠ 0 then keyErr (s.getD k default) else if firstE (s.getD k default).uniq.length (uniqErr (s.getD k default)) ≠ 0 then firstE (s.getD k default).uniq.length (uniqErr (s.getD k default)) else if firstE (s.getD k default).frn.length (frnErr s.length (s.getD k default)) ≠ 0 then firstE (s.getD k default).frn.length (frnErr s.length (s.getD k default)) else if firstE (s.getD k default).sums.length (smErr (s.getD k default)) ≠ 0 then firstE (s.getD k default).sums.length (smErr (s.getD k default)) else 0) = _
  by_cases h : firstE (s.getD k default).sums.length (smErr (s.getD k default)) = 0
  · rw [h]; simp
  · simp only [ne_eq, h, not_false_eq_true, if_true]

set_option maxHeartbeats 2000000 in
theorem RefTable (v : Value) (s : List Tbl) (k : Nat) (w : World) (hv : SliceOf 6 tblOk w v s) (hk : k < s.length) :
    Calls Tryd.prog 23 #[.agg #[v], .int .i64 k] w fun e w' => e = .returned (.int .i64 (tabErr s k)) ∧ Ext w w' := by
  obtain ⟨a, cap, rfl, _, hlen, _⟩ := hv.form
  obtain ⟨b, off, ac, cc, au, cu, ak, ck, af, cf, am, cs, rfl, hb, e0, e1, e2, e3, e4, e5, hR, hn, _⟩ := tbl_at2 hv hk
  have HV := hid hv
  have HR := hid hR
  have HG := hid (getD_at hk (default : Tbl))
  have TE := hid (tabErr_eq s k)
  have Hname := hid (fun w => RefName_any s[k].name w hn)
  clear hv hR hn
  have hk64 : (k : Int) < 9223372036854775807 := by omega
  have X0 := hid (show Ext w ((w.alloc (.cells #[.slice (some ⟨b, off, none⟩) s.length cap] 26)).alloc (.cells #[.string s[k].name, .slice ac s[k].cols.length cc, .slice au s[k].uniq.length cu, .slice ak s[k].checks ck, .slice af s[k].frn.length cf, .slice am s[k].sums.length cs] 36)) from (Ext.alloc _ _).allocR _)
  have TT := hid (show ∀ w', Ext ((w.alloc (.cells #[.slice (some ⟨b, off, none⟩) s.length cap] 26)).alloc (.cells #[.string s[k].name, .slice ac s[k].cols.length cc, .slice au s[k].uniq.length cu, .slice ak s[k].checks ck, .slice af s[k].frn.length cf, .slice am s[k].sums.length cs] 36)) w' → (w'.cell? ⟨w.heap.size, 0, none⟩ = some (.slice (some ⟨b, off, none⟩) s.length cap) ∧ w'.cell? ⟨w.heap.size + 1, 0, none⟩ = some (.string s[k].name) ∧ w'.cell? ⟨w.heap.size + 1, 1, none⟩ = some (.slice ac s[k].cols.length cc) ∧ w'.cell? ⟨w.heap.size + 1, 2, none⟩ = some (.slice au s[k].uniq.length cu) ∧ w'.cell? ⟨w.heap.size + 1, 3, none⟩ = some (.slice ak s[k].checks ck) ∧ w'.cell? ⟨w.heap.size + 1, 4, none⟩ = some (.slice af s[k].frn.length cf) ∧ w'.cell? ⟨w.heap.size + 1, 5, none⟩ = some (.slice am s[k].sums.length cs)) from fun w' h => ⟨h.cell (by simp [go_sem]), h.cell (by simp [go_sem]), h.cell (by simp [go_sem]), h.cell (by simp [go_sem]), h.cell (by simp [go_sem]), h.cell (by simp [go_sem]), h.cell (by simp [go_sem])⟩)
  cases hnm : nameL s[k].name.toList
  · have Hn := hid hnm
    clear hnm
    go_enter Tryd.func23, Tryd.ntmps23
    go_wp2_with fail
    refine (Hname.out _).mono ?_
    rintro e w1 ⟨rfl, x1⟩
    rw [Hn.out]
    go_wp2_with fail
    go_ret
    exact ⟨ret_int (by
      have : nameErr s k = 1 := by unfold nameErr; rw [HG.out, Hn.out]; rfl
      rw [TE.out, this]; rfl), X0.out.trans x1⟩
  have Hn := hid hnm
  clear hnm
  go_enter Tryd.func23, Tryd.ntmps23
  go_wp2_with fail
  refine (Hname.out _).mono ?_
  rintro e w1 ⟨rfl, x1⟩
  rw [Hn.out]
  go_wp2_with fail
  clear e0 e1 e2 e3 e4 e5
  go_loopw [6] (fun i wr => ∃ m : Nat, m ≤ k ∧ i = .int .i64 m ∧ Ext w1 wr ∧ Hid (∀ j (hj : j < s.length), j < m → sameT s[k].name s[j] = false)) (fun i _ => k - (intOf i).toNat)
  case atStart => exact ⟨0, Nat.zero_le _, rfl, Ext.refl _, fun j _ h => absurd h (Nat.not_lt_zero _)⟩
  case round =>
    obtain ⟨m, hm, rfl, hx, hp⟩ := hrel
    obtain ⟨s0, t0, t1, t2, t3, t4, t5⟩ := TT.out wr (x1.trans hx)
    by_cases hlt : m < k
    · obtain ⟨_, _, _, _, _, _, _, _, _, _, _, _, h0, hb2, g0, _⟩ := tbl_at2 (HV.out.ext keeps_tbl (X0.out.trans (x1.trans hx))) (show m < s.length by omega)
      cases h0
      have m0 : (m : Int) < (s.length : Int) := by omega
      clear t1 t2 t3 t4 t5
      cases hs : (s[m].name.toList == s[k].name.toList)
      · have HS := hid hs
        go_wp2_with fail
        go_quiet (fail)
        go_wp2_with fail
        go_roundw
        case rel => exact ⟨m + 1, by omega, by go_num, hx.drewNR _, fun j hj hjm => by
          rcases Nat.lt_succ_iff_lt_or_eq.1 hjm with h | rfl
          · exact hp.out j hj h
          · exact HS.out⟩
        case measure => simp [intOf]; omega
      · have HS := hid hs
        go_wp2_with fail
        go_quiet (fail)
        go_wp2_with fail
        go_ret
        exact ⟨ret_int (by
          have : nameErr s k = 5 := by unfold nameErr; rw [HG.out, Hn.out, any_take_true (p := sameT s[k].name) (show m < s.length by omega) hlt HS.out]; rfl
          rw [TE.out, this]; rfl), (X0.out.trans (x1.trans hx)).drewNR _⟩
    · have NE : Hid (nameErr s k = 0) := by
        unfold Hid nameErr
        rw [HG.out, Hn.out, any_take (by omega) (fun j hj hjk => hp.out j hj (by omega))]
        rfl
      have TE2 := TE.out
      rw [HG.out] at TE2
      replace TE := hid TE2
      clear TE2 hp
      by_cases q0 : s[k].cols.length < 1
      · have q0' : decide ((s[k].cols.length : Int) < 1) = true := by simp; omega
        have HB : Hid (boundErr s[k] = 2) := by
          unfold Hid boundErr
          rw [if_pos]
          simp only [Bool.or_eq_true, decide_eq_true_eq]
          omega
        go_wp2_with fail
        go_ret
        exact ⟨ret_int (by rw [TE.out, if_neg (by rw [NE.out]; simp), if_pos (by rw [HB.out]; simp), HB.out]), X0.out.trans (x1.trans hx)⟩
      have q0' : decide ((s[k].cols.length : Int) < 1) = false := by simp; omega
      by_cases q1 : 16 < s[k].cols.length
      · have q1' : decide ((16 : Int) < (s[k].cols.length : Int)) = true := by simp; omega
        have HB : Hid (boundErr s[k] = 2) := by
          unfold Hid boundErr
          rw [if_pos]
          simp only [Bool.or_eq_true, decide_eq_true_eq]
          omega
        go_wp2_with fail
        go_ret
        exact ⟨ret_int (by rw [TE.out, if_neg (by rw [NE.out]; simp), if_pos (by rw [HB.out]; simp), HB.out]), X0.out.trans (x1.trans hx)⟩
      have q1' : decide ((16 : Int) < (s[k].cols.length : Int)) = false := by simp; omega
      by_cases q2 : 16 < s[k].checks
      · have q2' : decide ((16 : Int) < (s[k].checks : Int)) = true := by simp; omega
        have HB : Hid (boundErr s[k] = 2) := by
          unfold Hid boundErr
          rw [if_pos]
          simp only [Bool.or_eq_true, decide_eq_true_eq]
          omega
        go_wp2_with fail
        go_ret
        exact ⟨ret_int (by rw [TE.out, if_neg (by rw [NE.out]; simp), if_pos (by rw [HB.out]; simp), HB.out]), X0.out.trans (x1.trans hx)⟩
      have q2' : decide ((16 : Int) < (s[k].checks : Int)) = false := by simp; omega
      by_cases q3 : 16 < s[k].uniq.length
      · have q3' : decide ((16 : Int) < (s[k].uniq.length : Int)) = true := by simp; omega
        have HB : Hid (boundErr s[k] = 2) := by
          unfold Hid boundErr
          rw [if_pos]
          simp only [Bool.or_eq_true, decide_eq_true_eq]
          omega
        go_wp2_with fail
        go_ret
        exact ⟨ret_int (by rw [TE.out, if_neg (by rw [NE.out]; simp), if_pos (by rw [HB.out]; simp), HB.out]), X0.out.trans (x1.trans hx)⟩
      have q3' : decide ((16 : Int) < (s[k].uniq.length : Int)) = false := by simp; omega
      by_cases q4 : 16 < s[k].frn.length
      · have q4' : decide ((16 : Int) < (s[k].frn.length : Int)) = true := by simp; omega
        have HB : Hid (boundErr s[k] = 2) := by
          unfold Hid boundErr
          rw [if_pos]
          simp only [Bool.or_eq_true, decide_eq_true_eq]
          omega
        go_wp2_with fail
        go_ret
        exact ⟨ret_int (by rw [TE.out, if_neg (by rw [NE.out]; simp), if_pos (by rw [HB.out]; simp), HB.out]), X0.out.trans (x1.trans hx)⟩
      have q4' : decide ((16 : Int) < (s[k].frn.length : Int)) = false := by simp; omega
      by_cases q5 : 16 < s[k].sums.length
      · have q5' : decide ((16 : Int) < (s[k].sums.length : Int)) = true := by simp; omega
        have HB : Hid (boundErr s[k] = 2) := by
          unfold Hid boundErr
          rw [if_pos]
          simp only [Bool.or_eq_true, decide_eq_true_eq]
          omega
        go_wp2_with fail
        go_ret
        exact ⟨ret_int (by rw [TE.out, if_neg (by rw [NE.out]; simp), if_pos (by rw [HB.out]; simp), HB.out]), X0.out.trans (x1.trans hx)⟩
      have q5' : decide ((16 : Int) < (s[k].sums.length : Int)) = false := by simp; omega
      have HB : Hid (boundErr s[k] = 0) := by
        unfold Hid boundErr
        rw [if_neg]
        simp only [Bool.or_eq_true, decide_eq_true_eq, not_or]
        omega
      go_wp2_with fail
      refine (RefParts s[k] _ (some ⟨b, off, none⟩) s.length cap _ (keeps_tbl _ _ _ _ (X0.out.trans (x1.trans hx)) HR.out) (by omega)).mono ?_
      rintro e w2 ⟨rfl, x2⟩
      go_wp2_with fail
      go_ret
      exact ⟨ret_int (by rw [TE.out, if_neg (by rw [NE.out]; simp), if_neg (by rw [HB.out]; simp)]), X0.out.trans (x1.trans (hx.trans x2))⟩

set_option maxHeartbeats 1000000 in
theorem RefRight (v : Value) (s : List Tbl) (w : World) (hv : SliceOf 6 tblOk w v s) :
    Calls Tryd.prog 14 #[.agg #[v]] w fun e w' => e = .returned (.int .i64 (rightF s)) ∧ Ext w w' := by
  obtain ⟨a, cap, rfl, _, hlen, _⟩ := hv.form
  have HV := hid hv
  clear hv
  by_cases h1 : s.length < 1
  · have h1' : decide ((s.length : Int) < 1) = true := by simp; omega
    go_enter Tryd.func14, Tryd.ntmps14
    go_wp2_with fail
    go_ret
    exact ⟨ret_int (by simp [rightF, h1]), Ext.alloc _ _⟩
  have h1' : decide ((s.length : Int) < 1) = false := by simp; omega
  by_cases h2 : 16 < s.length
  · have h2' : decide ((16 : Int) < (s.length : Int)) = true := by simp; omega
    go_enter Tryd.func14, Tryd.ntmps14
    go_wp2_with fail
    go_ret
    exact ⟨ret_int (by simp [rightF, h2]), Ext.alloc _ _⟩
  have h2' : decide ((16 : Int) < (s.length : Int)) = false := by simp; omega
  have HR : Hid (rightF s = firstE s.length (tabErr s)) := by unfold Hid rightF; simp [h1, h2]
  go_enter Tryd.func14, Tryd.ntmps14
  go_wp2_with fail
  clear h1' h2'
  have X0 := hid (Ext.alloc w (.cells #[.slice a s.length cap] 26))
  have F0 := hid (show (w.alloc (.cells #[.slice a s.length cap] 26)).cell? ⟨w.heap.size, 0, none⟩ = some (.slice a s.length cap) by simp [go_sem])
  generalize w.alloc (.cells #[.slice a s.length cap] 26) = w0 at *
  go_loopw [3] (fun i wr => ∃ k : Nat, k ≤ s.length ∧ i = .int .i64 k ∧ Ext w0 wr ∧ Hid (∀ j, j < k → tabErr s j = 0)) (fun i _ => s.length - (intOf i).toNat)
  case atStart => exact ⟨0, Nat.zero_le _, rfl, Ext.refl _, fun j h => absurd h (Nat.not_lt_zero _)⟩
  case round =>
    obtain ⟨k, hk, rfl, hx, hp⟩ := hrel
    have c0 := hx.cell F0.out
    by_cases hlt : k < s.length
    · go_wp2_with fail
      refine (RefTable _ s k _ (HV.out.ext keeps_tbl (X0.out.trans hx)) hlt).mono ?_
      rintro e w2 ⟨rfl, hx2⟩
      by_cases hz : tabErr s k = 0
      · have hz' : (tabErr s k != 0) = false := by simp [hz]
        have HZ := hid hz
        clear hz
        go_wp2_with fail
        go_roundw
        case rel => exact ⟨k + 1, by omega, by go_num, hx.trans hx2, fun j hj => by
          rcases Nat.lt_succ_iff_lt_or_eq.1 hj with h | rfl
          · exact hp.out j h
          · exact HZ.out⟩
        case measure => simp [intOf]; omega
      · have hz' : (tabErr s k != 0) = true := by simp [hz]
        go_wp2_with fail
        go_ret
        exact ⟨ret_int (by rw [HR.out, firstE_at hlt hp.out hz]), X0.out.trans (hx.trans hx2)⟩
    · go_wp2_with fail
      go_ret
      exact ⟨ret_int (by rw [HR.out, firstE_zero (fun j hj => hp.out j (by omega))]), X0.out.trans hx⟩
end Go.Proofs.YtgelmhcbiffghaaDoor
namespace Go.Proofs.YtgelmhcbiffghaaDoor.schemaRight
open Go.RowKit

set_option maxHeartbeats 2000000 in
theorem walk (v : Value) (s : List Tbl) (w : World) (hv : SliceOf 6 tblOk w v s) (hlim : ∀ t ∈ s, TblLim t) :
    Calls Tryd.prog 4 #[.agg #[v]] w fun e w' => e = .returned (.bool true) ∧ Ext w w' := by
  obtain ⟨a, cap, rfl, _, hlen, _⟩ := hv.form
  have HV := hid hv
  have HL := hid hlim
  clear hv hlim
  have X0 := hid (Ext.alloc w (.cells #[.slice a s.length cap] 26))
  have C0 := hid (show (w.alloc (.cells #[.slice a s.length cap] 26)).cell? ⟨w.heap.size, 0, none⟩ = some (.slice a s.length cap) by simp [go_sem])
  cases hfew : fewB s
  all_goals
    have HF := hid hfew
    clear hfew
    go_enter Tryd.func4, Tryd.ntmps4
    go_wp2_with fail
    refine (Few_any _ s _ (HV.out.ext keeps_tbl X0.out) HL.out).mono ?_
    rintro e w1 ⟨rfl, x1⟩
    rw [HF.out]
    go_wp2_with fail
  · refine (alive_any _).mono ?_
    rintro e w2 ⟨rfl, x2⟩
    go_wp2_with fail
    go_ret
    exact ⟨rfl, X0.out.trans (x1.trans x2)⟩
  · have c1 := x1.cell C0.out
    have HRa := hid (fun w' (hx : Ext w1 w') => Right_any _ s w' (HV.out.ext keeps_tbl (X0.out.trans (x1.trans hx))))
    have HRb := hid (fun w' (hx : Ext w1 w') => RefRight _ s w' (HV.out.ext keeps_tbl (X0.out.trans (x1.trans hx))))
    go_region_held3 (fun w' => w'.cell? ⟨w.heap.size, 0, none⟩ = some (.slice a s.length cap)) (first | go_keep | exact hx2.cell c1 | exact hx3.cell (hx2.cell c1) | exact hx3b.cell (hx3.cell (hx2.cell c1)) | exact hx3b.cell (hx2.cell c1) | exact hx3.cell (hx3b.cell (hx2.cell c1)))
      (first
        | (go_at_call 9; refine (alive_any _).mono ?_; rintro e w' ⟨rfl, hx2⟩)
        | (go_at_call 13; refine (HRa.out _ ?_).mono ?_; (first | exact (Ext.drew _).trans hx2 | exact ((Ext.drew _).trans hx2).trans hx3b); rintro e w' ⟨rfl, hx3⟩)
        | (go_at_call 14; refine (HRb.out _ ?_).mono ?_; (first | exact ((Ext.drew _).trans hx2).trans hx3 | exact (Ext.drew _).trans hx2); rintro e w' ⟨rfl, hx3b⟩))
    all_goals go_wp2_with fail
    all_goals go_ret
    all_goals exact ⟨ret_bool (by simp), X0.out.trans (x1.trans (by repeat (first | exact Ext.refl _ | apply Ext.drewR | (refine Ext.trans ?_ (by assumption)))))⟩
end Go.Proofs.YtgelmhcbiffghaaDoor.schemaRight
