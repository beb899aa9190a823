/-
  WHAT IS PROVED HERE: what slices.IndexFunc, slices.ContainsFunc, schema.Table and schema.Column answer.
-/
import Derived.Test.YtgelmhcbiffghaaDoorSpec11
namespace Go.Proofs.YtgelmhcbiffghaaDoor
open Go.RowKit

set_option maxHeartbeats 400000 in
theorem IndexFuncT (f : Nat) (hE : Enters Tryd.prog f) (v : Value) (s : List Tbl) (cap : Array Value) (p : Tbl → Bool) (w : World) (hv : SliceOf 6 tblOk w v s)
   (hf : ∀ w' t l, Ext w w' → tblOk w' t l → Calls Tryd.prog f (#[.agg l.toArray] ++ cap) w' fun e w'' => e = .returned (.bool (p t)) ∧ Ext w' w'') :
    Calls Tryd.prog 24 #[v, .func (.func f) #[] cap] w fun e w' => e = .returned (.int .i64 (idxOf p s)) ∧ Ext w w' := by
  obtain ⟨a, cp, rfl, h1, h2, h3, h4⟩ := hv.out
  have h2' := hid h2
  have h4' := hid h4
  have hf' := hid hf
  have hl : s.length ≤ 9223372036854775807 := by unfold maxLen at h2; omega
  clear h2 h3 h4 hf hv
  go_enter Tryd.func24, Tryd.ntmps24
  go_wp2
  go_loopw [8] (fun i wr => ∃ k : Nat, k ≤ s.length ∧ i = .int .i64 k ∧ Ext w wr ∧ Hid ((∀ j (hj : j < s.length), j < k → p s[j] = false))) (fun i _ => s.length - (intOf i).toNat)
  case atStart => exact ⟨0, Nat.zero_le _, rfl, Ext.refl _, fun j _ h => absurd h (Nat.not_lt_zero _)⟩
  case round =>
    obtain ⟨k, hk, rfl, hx, hp⟩ := hrel
    by_cases hlt : k < s.length
    · obtain ⟨b, off, rfl, l, hl6, hR, hc⟩ := h4'.out k hlt
      match l, hl6 with
      | [c0, c1, c2, c3, c4, c5], _ =>
      have hc' := hc.ext hx
      have e0 : wr.cell? ⟨b, off + k * 6, none⟩ = some c0 := hc' 0 (by simp)
      have e1 : wr.cell? ⟨b, off + k * 6 + 1, none⟩ = some c1 := hc' 1 (by simp)
      have e2 : wr.cell? ⟨b, off + k * 6 + 2, none⟩ = some c2 := hc' 2 (by simp)
      have e3 : wr.cell? ⟨b, off + k * 6 + 3, none⟩ = some c3 := hc' 3 (by simp)
      have e4 : wr.cell? ⟨b, off + k * 6 + 4, none⟩ = some c4 := hc' 4 (by simp)
      have e5 : wr.cell? ⟨b, off + k * 6 + 5, none⟩ = some c5 := hc' 5 (by simp)
      have hR' := hid (keeps_tbl _ _ _ _ hx hR)
      clear hR hc hc'
      have hcf := fun a w => hE a w
      go_wp2_with fail
      clear hcf
      refine (hf'.out _ _ _ hx hR'.out).mono ?_
      rintro e w1 ⟨rfl, hx1⟩
      cases hpk : p s[k]
      · go_wp2
        go_roundw
        case rel => exact ⟨k + 1, by omega, by go_num, hx.trans hx1, fun j hj hjk => by
          rcases Nat.lt_succ_iff_lt_or_eq.1 hjk with h | rfl
          · exact hp.out j hj h
          · exact hpk⟩
        case measure => simp [intOf]; omega
      · go_wp2
        go_ret
        exact ⟨ret_int (idxOf_of_at hlt hpk hp.out).symm, hx.trans hx1⟩
    · go_wp2
      go_ret
      exact ⟨ret_int (idxOf_none (fun j hj => hp.out j hj (by omega))).symm, hx⟩

set_option maxHeartbeats 400000 in
theorem IndexFuncC (f : Nat) (hE : Enters Tryd.prog f) (v : Value) (s : List Col) (cap : Array Value) (p : Col → Bool) (w : World) (hv : SliceOf 4 colOk w v s)
   (hf : ∀ w' t l, Ext w w' → colOk w' t l → Calls Tryd.prog f (#[.agg l.toArray] ++ cap) w' fun e w'' => e = .returned (.bool (p t)) ∧ Ext w' w'') :
    Calls Tryd.prog 26 #[v, .func (.func f) #[] cap] w fun e w' => e = .returned (.int .i64 (idxOf p s)) ∧ Ext w w' := by
  obtain ⟨a, cp, rfl, h1, h2, h3, h4⟩ := hv.out
  have h2' := hid h2
  have h4' := hid h4
  have hf' := hid hf
  have hl : s.length ≤ 9223372036854775807 := by unfold maxLen at h2; omega
  clear h2 h3 h4 hf hv
  go_enter Tryd.func26, Tryd.ntmps26
  go_wp2
  go_loopw [8] (fun i wr => ∃ k : Nat, k ≤ s.length ∧ i = .int .i64 k ∧ Ext w wr ∧ Hid ((∀ j (hj : j < s.length), j < k → p s[j] = false))) (fun i _ => s.length - (intOf i).toNat)
  case atStart => exact ⟨0, Nat.zero_le _, rfl, Ext.refl _, fun j _ h => absurd h (Nat.not_lt_zero _)⟩
  case round =>
    obtain ⟨k, hk, rfl, hx, hp⟩ := hrel
    by_cases hlt : k < s.length
    · obtain ⟨b, off, rfl, l, hl6, hR, hc⟩ := h4'.out k hlt
      match l, hl6 with
      | [c0, c1, c2, c3], _ =>
      have hc' := hc.ext hx
      have e0 : wr.cell? ⟨b, off + k * 4, none⟩ = some c0 := hc' 0 (by simp)
      have e1 : wr.cell? ⟨b, off + k * 4 + 1, none⟩ = some c1 := hc' 1 (by simp)
      have e2 : wr.cell? ⟨b, off + k * 4 + 2, none⟩ = some c2 := hc' 2 (by simp)
      have e3 : wr.cell? ⟨b, off + k * 4 + 3, none⟩ = some c3 := hc' 3 (by simp)
      have hR' := hid (keeps_col _ _ _ _ hx hR)
      clear hR hc hc'
      have hcf := fun a w => hE a w
      go_wp2_with fail
      clear hcf
      refine (hf'.out _ _ _ hx hR'.out).mono ?_
      rintro e w1 ⟨rfl, hx1⟩
      cases hpk : p s[k]
      · go_wp2
        go_roundw
        case rel => exact ⟨k + 1, by omega, by go_num, hx.trans hx1, fun j hj hjk => by
          rcases Nat.lt_succ_iff_lt_or_eq.1 hjk with h | rfl
          · exact hp.out j hj h
          · exact hpk⟩
        case measure => simp [intOf]; omega
      · go_wp2
        go_ret
        exact ⟨ret_int (idxOf_of_at hlt hpk hp.out).symm, hx.trans hx1⟩
    · go_wp2
      go_ret
      exact ⟨ret_int (idxOf_none (fun j hj => hp.out j hj (by omega))).symm, hx⟩

set_option maxHeartbeats 400000 in
theorem IndexFuncS (f : Nat) (hE : Enters Tryd.prog f) (v : Value) (s : List Sm) (cap : Array Value) (p : Sm → Bool) (w : World) (hv : SliceOf 3 smOk w v s)
   (hf : ∀ w' t l, Ext w w' → smOk w' t l → Calls Tryd.prog f (#[.agg l.toArray] ++ cap) w' fun e w'' => e = .returned (.bool (p t)) ∧ Ext w' w'') :
    Calls Tryd.prog 75 #[v, .func (.func f) #[] cap] w fun e w' => e = .returned (.int .i64 (idxOf p s)) ∧ Ext w w' := by
  obtain ⟨a, cp, rfl, h1, h2, h3, h4⟩ := hv.out
  have h2' := hid h2
  have h4' := hid h4
  have hf' := hid hf
  have hl : s.length ≤ 9223372036854775807 := by unfold maxLen at h2; omega
  clear h2 h3 h4 hf hv
  go_enter Tryd.func75, Tryd.ntmps75
  go_wp2
  go_loopw [8] (fun i wr => ∃ k : Nat, k ≤ s.length ∧ i = .int .i64 k ∧ Ext w wr ∧ Hid ((∀ j (hj : j < s.length), j < k → p s[j] = false))) (fun i _ => s.length - (intOf i).toNat)
  case atStart => exact ⟨0, Nat.zero_le _, rfl, Ext.refl _, fun j _ h => absurd h (Nat.not_lt_zero _)⟩
  case round =>
    obtain ⟨k, hk, rfl, hx, hp⟩ := hrel
    by_cases hlt : k < s.length
    · obtain ⟨b, off, rfl, l, hl6, hR, hc⟩ := h4'.out k hlt
      match l, hl6 with
      | [c0, c1, c2], _ =>
      have hc' := hc.ext hx
      have e0 : wr.cell? ⟨b, off + k * 3, none⟩ = some c0 := hc' 0 (by simp)
      have e1 : wr.cell? ⟨b, off + k * 3 + 1, none⟩ = some c1 := hc' 1 (by simp)
      have e2 : wr.cell? ⟨b, off + k * 3 + 2, none⟩ = some c2 := hc' 2 (by simp)
      have hR' := hid (keeps_sm _ _ _ _ hx hR)
      clear hR hc hc'
      have hcf := fun a w => hE a w
      go_wp2_with fail
      clear hcf
      refine (hf'.out _ _ _ hx hR'.out).mono ?_
      rintro e w1 ⟨rfl, hx1⟩
      cases hpk : p s[k]
      · go_wp2
        go_roundw
        case rel => exact ⟨k + 1, by omega, by go_num, hx.trans hx1, fun j hj hjk => by
          rcases Nat.lt_succ_iff_lt_or_eq.1 hjk with h | rfl
          · exact hp.out j hj h
          · exact hpk⟩
        case measure => simp [intOf]; omega
      · go_wp2
        go_ret
        exact ⟨ret_int (idxOf_of_at hlt hpk hp.out).symm, hx.trans hx1⟩
    · go_wp2
      go_ret
      exact ⟨ret_int (idxOf_none (fun j hj => hp.out j hj (by omega))).symm, hx⟩

set_option maxHeartbeats 400000 in
theorem ContainsFuncC (f : Nat) (hE : Enters Tryd.prog f) (v : Value) (s : List Col) (cap : Array Value) (p : Col → Bool) (w : World) (hv : SliceOf 4 colOk w v s)
   (hf : ∀ w' t l, Ext w w' → colOk w' t l → Calls Tryd.prog f (#[.agg l.toArray] ++ cap) w' fun e w'' => e = .returned (.bool (p t)) ∧ Ext w' w'') :
    Calls Tryd.prog 57 #[v, .func (.func f) #[] cap] w fun e w' => e = .returned (.bool (s.any p)) ∧ Ext w w' := by
  have hi := hid (IndexFuncC f hE v s cap p w hv hf)
  clear hv hf hE
  go_enter Tryd.func57, Tryd.ntmps57
  go_wp2_with fail
  refine hi.out.mono ?_
  rintro e w1 ⟨rfl, hx⟩
  go_wp2_with fail
  go_ret
  exact ⟨ret_bool (idxOf_any p s), hx⟩

set_option maxHeartbeats 400000 in
theorem ContainsFuncS (f : Nat) (hE : Enters Tryd.prog f) (v : Value) (s : List Sm) (cap : Array Value) (p : Sm → Bool) (w : World) (hv : SliceOf 3 smOk w v s)
   (hf : ∀ w' t l, Ext w w' → smOk w' t l → Calls Tryd.prog f (#[.agg l.toArray] ++ cap) w' fun e w'' => e = .returned (.bool (p t)) ∧ Ext w' w'') :
    Calls Tryd.prog 63 #[v, .func (.func f) #[] cap] w fun e w' => e = .returned (.bool (s.any p)) ∧ Ext w w' := by
  have hi := hid (IndexFuncS f hE v s cap p w hv hf)
  clear hv hf hE
  go_enter Tryd.func63, Tryd.ntmps63
  go_wp2_with fail
  refine hi.out.mono ?_
  rintro e w1 ⟨rfl, hx⟩
  go_wp2_with fail
  go_ret
  exact ⟨ret_bool (idxOf_any p s), hx⟩

set_option maxHeartbeats 400000 in
theorem TableLit (b o : Nat) (n name : ByteArray) (c1 c2 c3 c4 c5 : Value) (w : World) (h : w.cell? ⟨b, o, none⟩ = some (.string name)) :
    Calls Tryd.prog 25 #[.agg #[.string n, c1, c2, c3, c4, c5], .pointer (some ⟨b, o, none⟩)] w fun e w' => e = .returned (.bool (n.toList == name.toList)) ∧ Ext w w' := by
  have hb : b < w.heap.size := lt_of_cell h
  go_enter Tryd.func25, Tryd.ntmps25
  go_wp2
  go_ret
  exact ⟨rfl, Ext.alloc _ _⟩
set_option maxHeartbeats 400000 in
theorem ColumnLit (b o : Nat) (n name : ByteArray) (c1 c2 c3 : Value) (w : World) (h : w.cell? ⟨b, o, none⟩ = some (.string name)) :
    Calls Tryd.prog 27 #[.agg #[.string n, c1, c2, c3], .pointer (some ⟨b, o, none⟩)] w fun e w' => e = .returned (.bool (n.toList == name.toList)) ∧ Ext w w' := by
  have hb : b < w.heap.size := lt_of_cell h
  go_enter Tryd.func27, Tryd.ntmps27
  go_wp2
  go_ret
  exact ⟨rfl, Ext.alloc _ _⟩
set_option maxHeartbeats 400000 in
theorem NamedLit (b o : Nat) (n name : ByteArray) (c1 c2 c3 : Value) (w : World) (h : w.cell? ⟨b, o, none⟩ = some (.string name)) :
    Calls Tryd.prog 56 #[.agg #[.string n, c1, c2, c3], .pointer (some ⟨b, o, none⟩)] w fun e w' => e = .returned (.bool (n.toList == name.toList)) ∧ Ext w w' := by
  have hb : b < w.heap.size := lt_of_cell h
  go_enter Tryd.func56, Tryd.ntmps56
  go_wp2
  go_ret
  exact ⟨rfl, Ext.alloc _ _⟩
set_option maxHeartbeats 400000 in
theorem LikeLit (b o : Nat) (x y p q : Int) (c : Value) (w : World) (h : w.cell? ⟨b, o, none⟩ = some (.int .i64 p)) (h' : w.cell? ⟨b, o + 1, none⟩ = some (.int .i64 q)) :
    Calls Tryd.prog 62 #[.agg #[.int .i64 x, .int .i64 y, c], .pointer (some ⟨b, o, none⟩)] w fun e w' => e = .returned (.bool (x == p && y == q)) ∧ Ext w w' := by
  have hb : b < w.heap.size := lt_of_cell h
  cases hxp : (x == p)
  all_goals
    go_enter Tryd.func62, Tryd.ntmps62
    go_wp2
    go_ret
    exact ⟨rfl, Ext.alloc _ _⟩

theorem enT : Enters Tryd.prog 25 := enters_of Tryd.func25 (by kernel_rfl) (by kernel_rfl)
theorem enC : Enters Tryd.prog 27 := enters_of Tryd.func27 (by kernel_rfl) (by kernel_rfl)
theorem enN : Enters Tryd.prog 56 := enters_of Tryd.func56 (by kernel_rfl) (by kernel_rfl)
theorem enL : Enters Tryd.prog 62 := enters_of Tryd.func62 (by kernel_rfl) (by kernel_rfl)

theorem FindTable (v : Value) (s : List Tbl) (name : ByteArray) (b o : Nat) (w : World) (hv : SliceOf 6 tblOk w v s) (h : w.cell? ⟨b, o, none⟩ = some (.string name)) :
    Calls Tryd.prog 24 #[v, .func (.func 25) #[] #[.pointer (some ⟨b, o, none⟩)]] w fun e w' => e = .returned (.int .i64 (idxOf (sameT name) s)) ∧ Ext w w' :=
  IndexFuncT _ enT v s _ (sameT name) w hv (fun w' t l hx hR => by
    obtain ⟨vc, vu, a, cap, vf, vs, rfl, _⟩ := hR.out
    exact TableLit b o t.name name _ _ _ _ _ w' (hx.cell h))
theorem FindColumn (v : Value) (s : List Col) (name : ByteArray) (b o : Nat) (w : World) (hv : SliceOf 4 colOk w v s) (h : w.cell? ⟨b, o, none⟩ = some (.string name)) :
    Calls Tryd.prog 26 #[v, .func (.func 27) #[] #[.pointer (some ⟨b, o, none⟩)]] w fun e w' => e = .returned (.int .i64 (idxOf (fun x => x.name.toList == name.toList) s)) ∧ Ext w w' :=
  IndexFuncC _ enC v s _ (fun x => x.name.toList == name.toList) w hv (fun w' t l hx hR => by
    obtain ⟨rfl, _⟩ := hR
    exact ColumnLit b o t.name name _ _ _ w' (hx.cell h))
theorem HasNamed (v : Value) (s : List Col) (c : Col) (b o : Nat) (w : World) (hv : SliceOf 4 colOk w v s) (h : w.cell? ⟨b, o, none⟩ = some (.string c.name)) :
    Calls Tryd.prog 57 #[v, .func (.func 56) #[] #[.pointer (some ⟨b, o, none⟩)]] w fun e w' => e = .returned (.bool (s.any (sameC c))) ∧ Ext w w' :=
  ContainsFuncC _ enN v s _ (sameC c) w hv (fun w' t l hx hR => by
    obtain ⟨rfl, _⟩ := hR
    exact NamedLit b o t.name c.name _ _ _ w' (hx.cell h))
theorem HasLike (v : Value) (s : List Sm) (c : Sm) (b o : Nat) (w : World) (hv : SliceOf 3 smOk w v s) (h : w.cell? ⟨b, o, none⟩ = some (.int .i64 c.col)) (h' : w.cell? ⟨b, o + 1, none⟩ = some (.int .i64 c.by_)) :
    Calls Tryd.prog 63 #[v, .func (.func 62) #[] #[.pointer (some ⟨b, o, none⟩)]] w fun e w' => e = .returned (.bool (s.any (sameS c))) ∧ Ext w w' :=
  ContainsFuncS _ enL v s _ (sameS c) w hv (fun w' t l hx hR => by
    obtain ⟨rfl, _⟩ := hR
    exact LikeLit b o t.col t.by_ c.col c.by_ _ w' (hx.cell h) (hx.cell h'))

def maxZ (k : Int) : Int := max k 0
set_option maxHeartbeats 400000 in
theorem Table_any (v : Value) (s : List Tbl) (name : ByteArray) (w : World) (hv : SliceOf 6 tblOk w v s) :
    Calls Tryd.prog 15 #[.agg #[v], .string name] w fun e w' => e = .returned (.tuple #[.int .i64 (maxZ (idxOf (sameT name) s)), .bool (decide (0 ≤ idxOf (sameT name) s))]) ∧ Ext w w' := by
  have hx0 := hid (fun x (h : Ext w x) b o hc => FindTable v s name b o x (hv.ext keeps_tbl h) hc)
  have hbd := idxOf_bd (sameT name) s
  have hlen : s.length ≤ 9223372036854775807 := by obtain ⟨_, _, _, _, h, _⟩ := hv.form; exact h
  clear hv
  go_enter Tryd.func15, Tryd.ntmps15
  go_wp2_with fail
  refine (hx0.out _ ?hx w.heap.size.succ 0 ?hc).mono ?_
  case hx => exact ((Ext.alloc _ _).allocR _)
  case hc => simp [go_sem]
  rintro e w1 ⟨rfl, hx⟩
  by_cases hk : 0 ≤ idxOf (sameT name) s
  · have hk' : decide (0 ≤ idxOf (sameT name) s) = true := by simpa using hk
    go_wp2_with fail
    go_ret2
    exact ⟨ret_two (by simp [maxZ]) (by simp; omega), Ext.trans ((Ext.alloc _ _).allocR _) hx⟩
  · have hk' : decide (0 ≤ idxOf (sameT name) s) = false := by simpa using hk
    go_wp2_with fail
    go_ret2
    exact ⟨ret_two (by simp [maxZ]) (by simp; omega), Ext.trans ((Ext.alloc _ _).allocR _) hx⟩
set_option maxHeartbeats 400000 in
theorem Column_any (v0 v v2 v3 v4 v5 : Value) (s : List Col) (name : ByteArray) (w : World) (hv : SliceOf 4 colOk w v s) :
    Calls Tryd.prog 16 #[.agg #[v0, v, v2, v3, v4, v5], .string name] w fun e w' => e = .returned (.tuple #[.int .i64 (maxZ (idxOf (fun x => x.name.toList == name.toList) s)), .bool (decide (0 ≤ idxOf (fun x => x.name.toList == name.toList) s))]) ∧ Ext w w' := by
  have hx0 := hid (fun x (h : Ext w x) b o hc => FindColumn v s name b o x (hv.ext keeps_col h) hc)
  have hbd := idxOf_bd (fun x => x.name.toList == name.toList) s
  have hlen : s.length ≤ 9223372036854775807 := by obtain ⟨_, _, _, _, h, _⟩ := hv.form; exact h
  clear hv
  go_enter Tryd.func16, Tryd.ntmps16
  go_wp2_with fail
  refine (hx0.out _ ?hx w.heap.size.succ 0 ?hc).mono ?_
  case hx => exact ((Ext.alloc _ _).allocR _)
  case hc => simp [go_sem]
  rintro e w1 ⟨rfl, hx⟩
  by_cases hk : 0 ≤ idxOf (fun x : Col => x.name.toList == name.toList) s
  · have hk' : decide (0 ≤ idxOf (fun x : Col => x.name.toList == name.toList) s) = true := by simpa using hk
    go_wp2_with fail
    go_ret2
    exact ⟨ret_two (by simp [maxZ]) (by simp; omega), Ext.trans ((Ext.alloc _ _).allocR _) hx⟩
  · have hk' : decide (0 ≤ idxOf (fun x : Col => x.name.toList == name.toList) s) = false := by simpa using hk
    go_wp2_with fail
    go_ret2
    exact ⟨ret_two (by simp [maxZ]) (by simp; omega), Ext.trans ((Ext.alloc _ _).allocR _) hx⟩
end Go.Proofs.YtgelmhcbiffghaaDoor
