/-
  WHAT IS PROVED HERE: the walk of SchemaAhead: it returns true at every schema and every table.
-/
import Derived.Test.YtgelmhcbiffghaaDoorAlive11
import Derived.Test.YtgelmhcbiffghaaDoorFew11
import Derived.Test.YtgelmhcbiffghaaDoorAheadPlain
import Derived.Deep.RegionHeld3
import Derived.Deep.RegionLawGrows
namespace Go.Proofs.YtgelmhcbiffghaaDoor
open Go.RowKit

theorem tbl1 {w : World} {b : Nat} {x : Tbl} {x0 x1 x2 x3 x4 x5 : Value} (hc : CellsAt w b 0 [x0, x1, x2, x3, x4, x5]) (hx : tblOk w x [x0, x1, x2, x3, x4, x5]) : SliceOf 6 tblOk w (.slice (some ⟨b, 0, none⟩) 1 1) [x] :=
  SliceOf.rows (xs := [x]) hc [[x0, x1, x2, x3, x4, x5]] rfl (by simp [maxLen]) (fun i hi => by
    match i, hi with
    | 0, _ => exact ⟨rfl, hx, fun j hj => by match j, hj with | 0, _ => rfl | 1, _ => rfl | 2, _ => rfl | 3, _ => rfl | 4, _ => rfl | 5, _ => rfl⟩)

/-- All cells of a slice, one behind the other. -/
theorem SliceOf.cells {α : Type} {n : Nat} {R : World → α → List Value → Prop} {w : World} {a : Option Addr} {len cap : Nat} {xs : List α} (h : SliceOf n R w (.slice a len cap) xs) :
    ∃ l : List Value, l.length = len * n ∧ (a = none → len = 0 ∧ cap = 0) ∧ (∀ b, a = some b → ∀ j u, l[j]? = some u → w.cell? (b.add j) = some u) ∧ (∀ i (hi : i < xs.length), ∃ r, r.length = n ∧ R w xs[i] r ∧ ∀ j, j < n → l[i * n + j]? = r[j]?) := by
  obtain ⟨a', cap', h1, h2, h3, h4, h5⟩ := h.out
  simp only [Value.slice.injEq] at h1
  obtain ⟨rfl, rfl, rfl⟩ := h1
  have hch : ∀ i : Fin xs.length, ∃ r : List Value, ∃ b off, a = some ⟨b, off, none⟩ ∧ r.length = n ∧ R w xs[i.val] r ∧ CellsAt w b (off + i.val * n) r := fun i => by
    obtain ⟨b, off, e, r, e1, e2, e3⟩ := h5 i.val i.isLt
    exact ⟨r, b, off, e, e1, e2, e3⟩
  let f : Fin xs.length → List Value := fun i => Classical.choose (hch i)
  have hf : ∀ i, ∃ b off, a = some ⟨b, off, none⟩ ∧ (f i).length = n ∧ R w xs[i.val] (f i) ∧ CellsAt w b (off + i.val * n) (f i) := fun i => Classical.choose_spec (hch i)
  have key : ∀ (m : Nat) (g : Fin m → List Value), (∀ i, (g i).length = n) → (List.ofFn g).flatten.length = m * n ∧ ∀ (i : Fin m) j, j < n → (List.ofFn g).flatten[i.val * n + j]? = (g i)[j]? := by
    intro m
    induction m with
    | zero => intro g _; exact ⟨by simp, fun i => i.elim0⟩
    | succ m ih =>
      intro g hg
      obtain ⟨q1, q2⟩ := ih (fun i => g i.succ) (fun i => hg i.succ)
      rw [List.ofFn_succ, List.flatten_cons]
      refine ⟨by rw [List.length_append, q1, hg 0, Nat.succ_mul]; omega, fun i j hj => ?_⟩
      rcases i with ⟨i, hi⟩
      cases i with
      | zero => simp only [Nat.zero_mul, Nat.zero_add]; rw [List.getElem?_append_left (by rw [hg 0]; exact hj)]; rfl
      | succ i =>
        have := q2 ⟨i, by omega⟩ j hj
        rw [List.getElem?_append_right (by rw [hg 0, Nat.succ_mul]; omega), hg 0]
        rw [show (i + 1) * n + j - n = i * n + j by rw [Nat.succ_mul]; omega]
        exact this
  obtain ⟨q1, q2⟩ := key xs.length f (fun i => by obtain ⟨_, _, _, h, _⟩ := hf i; exact h)
  refine ⟨(List.ofFn f).flatten, q1, fun ha => ?_, fun b hb j u hj => ?_, fun i hi => ?_⟩
  · have : xs.length = 0 := by have := h4 ha; omega
    exact ⟨this, h4 ha⟩
  · have hjl : j < xs.length * n := by rw [← q1]; exact (List.getElem?_eq_some_iff.1 hj).1
    have hn : 0 < n := by
      rcases Nat.eq_zero_or_pos n with h0 | h0
      · rw [h0] at hjl; simp at hjl
      · exact h0
    have hi : j / n < xs.length := by rw [Nat.div_lt_iff_lt_mul hn]; exact hjl
    have hr : j % n < n := Nat.mod_lt _ hn
    have hq := q2 ⟨j / n, hi⟩ (j % n) hr
    obtain ⟨b', off, e, e1, _, e3⟩ := hf ⟨j / n, hi⟩
    have hjj : j / n * n + j % n = j := by rw [Nat.mul_comm]; exact Nat.div_add_mod j n
    simp only [hjj] at hq
    rw [hq] at hj
    obtain ⟨hh, hv⟩ := List.getElem?_eq_some_iff.1 hj
    rw [e] at hb
    simp only [Option.some.injEq] at hb
    subst hb
    have hc := e3 (j % n) (by omega)
    rw [hv] at hc
    have ha : (⟨b', off, none⟩ : Addr).add j = ⟨b', off + j / n * n + j % n, none⟩ := by
      have : (⟨b', off, none⟩ : Addr).add j = ⟨b', off + j, none⟩ := by
        unfold Addr.add
        by_cases h0 : j = 0
        · simp [h0]
        · simp [h0]
      rw [this, Nat.add_assoc, hjj]
    rw [ha]
    exact hc
  · obtain ⟨_, _, _, e1, e2, _⟩ := hf ⟨i, hi⟩
    exact ⟨f ⟨i, hi⟩, e1, e2, fun j hj => q2 ⟨i, hi⟩ j hj⟩

/-- What an append that grew has made is a slice that reads as both. -/
theorem SliceOf.grown {α : Type} {n : Nat} {R : World → α → List Value → Prop} (hR : Keeps R) {w w' : World} {base : Nat} {e : TypeId} {v : Value} {xs ys : List α} {l m : List Value} (hx : Ext w w') (h : w'.ownsRow base e n v (xs.length + ys.length) (l ++ m)) (hl : l.length = xs.length * n)
    (h1 : ∀ i (hi : i < xs.length), ∃ r, r.length = n ∧ R w xs[i] r ∧ ∀ j, j < n → l[i * n + j]? = r[j]?) (h2 : ∀ i (hi : i < ys.length), ∃ r, r.length = n ∧ R w ys[i] r ∧ ∀ j, j < n → m[i * n + j]? = r[j]?) : SliceOf n R w' v (xs ++ ys) := by
  have hlen : (xs ++ ys).length = xs.length + ys.length := by simp
  rcases h.2 with ⟨rfl, h0⟩ | ⟨g, cap, cur, rfl, _, hg, hc, hm, hs, ht⟩
  · have e1 : xs = [] := List.length_eq_zero_iff.1 (by omega)
    have e2 : ys = [] := List.length_eq_zero_iff.1 (by omega)
    subst e1 e2
    exact SliceOf.nil
  · rw [← hlen] at h ⊢
    refine SliceOf.of (by rw [hlen]; exact hc) hm (fun i hi => ?_)
    have hcell : ∀ j, j < n → w'.cell? ⟨g, 0 + i * n + j, none⟩ = (l ++ m)[i * n + j]? := fun j hj => by
      have hlt : i * n + j < (xs ++ ys).length * n := by
        have := Nat.mul_le_mul_right n (show i + 1 ≤ (xs ++ ys).length by omega)
        rw [Nat.succ_mul] at this
        omega
      have := h.cellAt (i * n + j) hlt
      rw [show 0 + i * n + j = i * n + j by omega]
      exact this
    by_cases hi1 : i < xs.length
    · obtain ⟨r, e1, e2, e3⟩ := h1 i hi1
      refine ⟨r, e1, by rw [List.getElem_append_left hi1]; exact hR _ _ _ _ hx e2, fun j hj => ?_⟩
      rw [hcell j (by omega), List.getElem?_append_left (by
        have := Nat.mul_le_mul_right n (show i + 1 ≤ xs.length by omega)
        rw [Nat.succ_mul] at this
        omega), e3 j (by omega)]
      exact List.getElem?_eq_getElem hj
    · obtain ⟨r, e1, e2, e3⟩ := h2 (i - xs.length) (by omega)
      refine ⟨r, e1, by rw [List.getElem_append_right (by omega)]; exact hR _ _ _ _ hx e2, fun j hj => ?_⟩
      have hle : xs.length * n ≤ i * n := Nat.mul_le_mul_right n (by omega)
      have hsub : i * n + j - l.length = (i - xs.length) * n + j := by rw [hl, Nat.sub_mul]; omega
      rw [hcell j (by omega), List.getElem?_append_right (by omega), hsub, e3 j (by omega)]
      exact List.getElem?_eq_getElem hj
end Go.Proofs.YtgelmhcbiffghaaDoor
namespace Go.Proofs.YtgelmhcbiffghaaDoor.schemaAhead
open Go.RowKit

theorem info36 : (Tryd.prog.info? 36).map (fun i => (i.zero, i.size, i.bytes)) = some (some (.agg #[.string ByteArray.empty, .slice none 0 0, .slice none 0 0, .slice none 0 0, .slice none 0 0, .slice none 0 0]), 6, 136) := by kernel_rfl
theorem grownExt {w w' : World} (h : w.grownBy w' none) : Ext w w' := (Below.refl _ _).grown h (Nat.le_refl _) (fun k hk => by cases hk)

set_option maxHeartbeats 4000000 in
set_option maxRecDepth 100000 in
theorem walk (v : Value) (s : List Tbl) (t : Tbl) (l : List Value) (w : World) (hv : SliceOf 6 tblOk w v s) (hlim : ∀ t ∈ s, TblLim t) (ht : tblOk w t l) (htl : TblLim t) :
    Calls Tryd.prog 8 #[.agg #[v], .agg l.toArray] w fun e w' => e = .returned (.bool true) ∧ Ext w w' := by
  obtain ⟨a, cap, rfl, hlc, hlen, _⟩ := hv.form
  have HT := hid ht
  obtain ⟨vc, vu, ak, ck, vf, vs, rfl, hnm, _, hC, hU, hF, hS⟩ := ht.out
  obtain ⟨ac, cc, rfl, _⟩ := hC.form
  obtain ⟨au, cu, rfl, _⟩ := hU.form
  obtain ⟨af, cf, rfl, _, hlf, _⟩ := hF.form
  obtain ⟨am, cs, rfl, _⟩ := hS.form
  have HV := hid hv
  have HL := hid hlim
  have HTL := hid htl
  clear hv hlim ht htl hC hU hF hS hnm
  have X0 := hid (show Ext w ((w.alloc (.cells #[.slice a s.length cap] 26)).alloc (.cells #[.string t.name, .slice ac t.cols.length cc, .slice au t.uniq.length cu, .slice ak t.checks ck, .slice af t.frn.length cf, .slice am t.sums.length cs] 36)) from (Ext.alloc _ _).allocR _)
  have TT := hid (show ∀ w', Ext ((w.alloc (.cells #[.slice a s.length cap] 26)).alloc (.cells #[.string t.name, .slice ac t.cols.length cc, .slice au t.uniq.length cu, .slice ak t.checks ck, .slice af t.frn.length cf, .slice am t.sums.length cs] 36)) w' → (w'.cell? ⟨w.heap.size, 0, none⟩ = some (.slice a s.length cap) ∧ w'.cell? ⟨w.heap.size + 1, 0, none⟩ = some (.string t.name) ∧ w'.cell? ⟨w.heap.size + 1, 1, none⟩ = some (.slice ac t.cols.length cc) ∧ w'.cell? ⟨w.heap.size + 1, 2, none⟩ = some (.slice au t.uniq.length cu) ∧ w'.cell? ⟨w.heap.size + 1, 3, none⟩ = some (.slice ak t.checks ck) ∧ w'.cell? ⟨w.heap.size + 1, 4, none⟩ = some (.slice af t.frn.length cf) ∧ w'.cell? ⟨w.heap.size + 1, 5, none⟩ = some (.slice am t.sums.length cs)) from fun w' h => ⟨h.cell (by simp [go_sem]), h.cell (by simp [go_sem]), h.cell (by simp [go_sem]), h.cell (by simp [go_sem]), h.cell (by simp [go_sem]), h.cell (by simp [go_sem]), h.cell (by simp [go_sem])⟩)
  cases hf1 : fewB s
  · have F1 := hid hf1
    clear hf1
    go_enter Tryd.func8, Tryd.ntmps8
    go_wp2_with fail
    refine (Few_any _ s _ (HV.out.ext keeps_tbl X0.out) HL.out).mono ?_
    rintro e w1 ⟨rfl, x1⟩
    rw [F1.out]
    have y1 := x1
    obtain ⟨s0, t0, t1, t2, t3, t4, t5⟩ := TT.out w1 y1
    go_wp2_with fail
    refine (alive_any _).mono ?_
    rintro e wz ⟨rfl, xz⟩
    go_wp2_with fail
    go_ret
    exact ⟨rfl, X0.out.trans (y1.trans xz)⟩
  have F1 := hid hf1
  clear hf1
  cases hf2 : fewB [t]
  · have F2 := hid hf2
    clear hf2
    go_enter Tryd.func8, Tryd.ntmps8
    go_wp2_with fail
    refine (Few_any _ s _ (HV.out.ext keeps_tbl X0.out) HL.out).mono ?_
    rintro e w1 ⟨rfl, x1⟩
    rw [F1.out]
    have y1 := x1
    obtain ⟨s0, t0, t1, t2, t3, t4, t5⟩ := TT.out w1 y1
    go_wp2_with fail
    refine (Few_any _ [t] _ (tbl1 (CellsAt.new _ _ _ _ rfl) (keeps_tbl _ _ _ _ ((X0.out.trans y1).allocR _) HT.out)) (by intro x hx; simp only [List.mem_singleton] at hx; rw [hx]; exact HTL.out)).mono ?_
    rintro e w2 ⟨rfl, x2⟩
    rw [F2.out]
    have y2 := (y1.allocR _).trans x2
    clear s0 t0 t1 t2 t3 t4 t5
    obtain ⟨s0, t0, t1, t2, t3, t4, t5⟩ := TT.out w2 y2
    go_wp2_with fail
    refine (alive_any _).mono ?_
    rintro e wz ⟨rfl, xz⟩
    go_wp2_with fail
    go_ret
    exact ⟨rfl, X0.out.trans (y2.trans xz)⟩
  have F2 := hid hf2
  clear hf2
  by_cases hr : rightF s = 0
  case neg =>
    have hr' : (rightF s != 0) = true := by simpa using hr
    go_enter Tryd.func8, Tryd.ntmps8
    go_wp2_with fail
    refine (Few_any _ s _ (HV.out.ext keeps_tbl X0.out) HL.out).mono ?_
    rintro e w1 ⟨rfl, x1⟩
    rw [F1.out]
    have y1 := x1
    obtain ⟨s0, t0, t1, t2, t3, t4, t5⟩ := TT.out w1 y1
    go_wp2_with fail
    refine (Few_any _ [t] _ (tbl1 (CellsAt.new _ _ _ _ rfl) (keeps_tbl _ _ _ _ ((X0.out.trans y1).allocR _) HT.out)) (by intro x hx; simp only [List.mem_singleton] at hx; rw [hx]; exact HTL.out)).mono ?_
    rintro e w2 ⟨rfl, x2⟩
    rw [F2.out]
    have y2 := (y1.allocR _).trans x2
    clear s0 t0 t1 t2 t3 t4 t5
    obtain ⟨s0, t0, t1, t2, t3, t4, t5⟩ := TT.out w2 y2
    go_wp2_with fail
    refine (Right_any _ s _ (HV.out.ext keeps_tbl (X0.out.trans y2))).mono ?_
    rintro e w3 ⟨rfl, x3⟩
    have y3 := y2.trans x3
    clear s0 t0 t1 t2 t3 t4 t5
    obtain ⟨s0, t0, t1, t2, t3, t4, t5⟩ := TT.out w3 y3
    go_wp2_with fail
    refine (alive_any _).mono ?_
    rintro e wz ⟨rfl, xz⟩
    go_wp2_with fail
    go_ret
    exact ⟨rfl, X0.out.trans (y3.trans xz)⟩
  case pos =>
    have HR := hid hr
    clear hr
    have HG := hid (good_of HR.out)
    by_cases h16 : 16 ≤ s.length
    · have h16' : decide ((16 : Int) ≤ (s.length : Int)) = true := by simp; omega
      go_enter Tryd.func8, Tryd.ntmps8
      go_wp2_with fail
      refine (Few_any _ s _ (HV.out.ext keeps_tbl X0.out) HL.out).mono ?_
      rintro e w1 ⟨rfl, x1⟩
      rw [F1.out]
      have y1 := x1
      obtain ⟨s0, t0, t1, t2, t3, t4, t5⟩ := TT.out w1 y1
      go_wp2_with fail
      refine (Few_any _ [t] _ (tbl1 (CellsAt.new _ _ _ _ rfl) (keeps_tbl _ _ _ _ ((X0.out.trans y1).allocR _) HT.out)) (by intro x hx; simp only [List.mem_singleton] at hx; rw [hx]; exact HTL.out)).mono ?_
      rintro e w2 ⟨rfl, x2⟩
      rw [F2.out]
      have y2 := (y1.allocR _).trans x2
      clear s0 t0 t1 t2 t3 t4 t5
      obtain ⟨s0, t0, t1, t2, t3, t4, t5⟩ := TT.out w2 y2
      go_wp2_with fail
      refine (Right_any _ s _ (HV.out.ext keeps_tbl (X0.out.trans y2))).mono ?_
      rintro e w3 ⟨rfl, x3⟩
      have y3 := y2.trans x3
      clear s0 t0 t1 t2 t3 t4 t5
      obtain ⟨s0, t0, t1, t2, t3, t4, t5⟩ := TT.out w3 y3
      rw [HR.out]
      go_wp2_with fail
      refine (alive_any _).mono ?_
      rintro e wz ⟨rfl, xz⟩
      go_wp2_with fail
      go_ret
      exact ⟨rfl, X0.out.trans (y3.trans xz)⟩
    have h16' : decide ((16 : Int) ≤ (s.length : Int)) = false := by simp; omega
    by_cases hfr : 0 < t.frn.length
    · have hfr' : decide ((0 : Int) < (t.frn.length : Int)) = true := decide_eq_true (by omega)
      have hfr'' : decide (0 < t.frn.length) = true := decide_eq_true (by omega)
      go_enter Tryd.func8, Tryd.ntmps8
      go_wp2_with fail
      refine (Few_any _ s _ (HV.out.ext keeps_tbl X0.out) HL.out).mono ?_
      rintro e w1 ⟨rfl, x1⟩
      rw [F1.out]
      have y1 := x1
      obtain ⟨s0, t0, t1, t2, t3, t4, t5⟩ := TT.out w1 y1
      go_wp2_with fail
      refine (Few_any _ [t] _ (tbl1 (CellsAt.new _ _ _ _ rfl) (keeps_tbl _ _ _ _ ((X0.out.trans y1).allocR _) HT.out)) (by intro x hx; simp only [List.mem_singleton] at hx; rw [hx]; exact HTL.out)).mono ?_
      rintro e w2 ⟨rfl, x2⟩
      rw [F2.out]
      have y2 := (y1.allocR _).trans x2
      clear s0 t0 t1 t2 t3 t4 t5
      obtain ⟨s0, t0, t1, t2, t3, t4, t5⟩ := TT.out w2 y2
      go_wp2_with fail
      refine (Right_any _ s _ (HV.out.ext keeps_tbl (X0.out.trans y2))).mono ?_
      rintro e w3 ⟨rfl, x3⟩
      have y3 := y2.trans x3
      clear s0 t0 t1 t2 t3 t4 t5
      obtain ⟨s0, t0, t1, t2, t3, t4, t5⟩ := TT.out w3 y3
      rw [HR.out]
      go_wp2_with fail
      refine (alive_any _).mono ?_
      rintro e wz ⟨rfl, xz⟩
      go_wp2_with fail
      go_ret
      exact ⟨rfl, X0.out.trans (y3.trans xz)⟩
    have hfr' : decide ((0 : Int) < (t.frn.length : Int)) = false := decide_eq_false (by omega)
    have hfr'' : decide (0 < t.frn.length) = false := decide_eq_false (by omega)
    have HFR : Hid (t.frn = []) := List.length_eq_zero_iff.1 (by omega)
    have AL := hid (ahead_law HG.out (by omega) HFR.out)
    obtain ⟨b, off, rfl⟩ : ∃ b off, a = some ⟨b, off, none⟩ := by
      have h1 := HG.out.few
      obtain ⟨b, off, _, _, _, _, _, _, _, _, _, _, h, _⟩ := tbl_at2 HV.out (k := 0) (by omega)
      exact ⟨b, off, h⟩
    go_enter Tryd.func8, Tryd.ntmps8
    go_wp2_with fail
    refine (Few_any _ s _ (HV.out.ext keeps_tbl X0.out) HL.out).mono ?_
    rintro e w1 ⟨rfl, x1⟩
    rw [F1.out]
    have y1 := x1
    obtain ⟨s0, t0, t1, t2, t3, t4, t5⟩ := TT.out w1 y1
    go_wp2_with fail
    refine (Few_any _ [t] _ (tbl1 (CellsAt.new _ _ _ _ rfl) (keeps_tbl _ _ _ _ ((X0.out.trans y1).allocR _) HT.out)) (by intro x hx; simp only [List.mem_singleton] at hx; rw [hx]; exact HTL.out)).mono ?_
    rintro e w2 ⟨rfl, x2⟩
    rw [F2.out]
    have y2 := (y1.allocR _).trans x2
    clear s0 t0 t1 t2 t3 t4 t5
    obtain ⟨s0, t0, t1, t2, t3, t4, t5⟩ := TT.out w2 y2
    go_wp2_with fail
    refine (Right_any _ s _ (HV.out.ext keeps_tbl (X0.out.trans y2))).mono ?_
    rintro e w3 ⟨rfl, x3⟩
    have y3 := y2.trans x3
    clear s0 t0 t1 t2 t3 t4 t5
    obtain ⟨s0, t0, t1, t2, t3, t4, t5⟩ := TT.out w3 y3
    rw [HR.out]
    go_wp2_with fail
    refine (Table_any _ s t.name _ (HV.out.ext keeps_tbl (X0.out.trans y3))).mono ?_
    rintro e w4 ⟨rfl, x4⟩
    rw [idxOf_any]
    have y4 := y3.trans x4
    clear s0 t0 t1 t2 t3 t4 t5
    obtain ⟨s0, t0, t1, t2, t3, t4, t5⟩ := TT.out w4 y4
    go_wp2_with fail
    refine (Right_any _ [t] _ (tbl1 (CellsAt.new _ _ _ _ rfl) (keeps_tbl _ _ _ _ ((X0.out.trans y4).allocR _) HT.out))).mono ?_
    rintro e w5 ⟨rfl, x5⟩
    have y5 := (y4.allocR _).trans x5
    clear s0 t0 t1 t2 t3 t4 t5
    obtain ⟨s0, t0, t1, t2, t3, t4, t5⟩ := TT.out w5 y5
    obtain ⟨olds, ho1, ho2, ho3, ho4⟩ := (HV.out.ext keeps_tbl (X0.out.trans y5)).cells
    have HO := hid (And.intro ho1 (And.intro ho3 ho4))
    clear ho1 ho2 ho3 ho4
    obtain ⟨i0, hi0, hz0, hz1, hz2⟩ := info_parts info36
    have HI := hid (And.intro hi0 (And.intro hz0 (And.intro hz1 hz2)))
    clear hi0 hz0 hz1 hz2
    go_wp2_with fail
    go_region_held3 (fun w' => w'.cell? ⟨w.heap.size, 0, none⟩ = some (.slice (some ⟨b, off, none⟩) s.length cap) ∧ w'.cell? ⟨w.heap.size + 1, 0, none⟩ = some (.string t.name) ∧ w'.cell? ⟨w.heap.size + 1, 1, none⟩ = some (.slice ac t.cols.length cc) ∧ w'.cell? ⟨w.heap.size + 1, 2, none⟩ = some (.slice au t.uniq.length cu) ∧ w'.cell? ⟨w.heap.size + 1, 3, none⟩ = some (.slice ak t.checks ck) ∧ w'.cell? ⟨w.heap.size + 1, 4, none⟩ = some (.slice af t.frn.length cf) ∧ w'.cell? ⟨w.heap.size + 1, 5, none⟩ = some (.slice am t.sums.length cs)) (first | go_keep | exact ⟨x6.cell s0, x6.cell t0, x6.cell t1, x6.cell t2, x6.cell t3, x6.cell t4, x6.cell t5⟩ | exact ⟨(x6.trans x7).cell s0, (x6.trans x7).cell t0, (x6.trans x7).cell t1, (x6.trans x7).cell t2, (x6.trans x7).cell t3, (x6.trans x7).cell t4, (x6.trans x7).cell t5⟩)
      (first
        | (go_at_call 13; refine (Right_any _ (s ++ [t]) _ hsl).mono ?_; rintro e w7 ⟨rfl, x7⟩)
        | (refine step_append_grows (by rfl) _ _ 24 (by rfl) 36 i0 _ 6 136 Tryd.underlying24 HI.out.1 HI.out.2.1 HI.out.2.2.1 HI.out.2.2.2 rfl (by decide) (some ⟨b, off, none⟩) s.length s.length olds (by rfl) (by simp) HO.out.1 (fun b' hb' j u hj => (Ext.alloc _ _).drewR.cell (HO.out.2.1 b' hb' j u hj)) ⟨w5.heap.size, 0, none⟩ 1 1 [.string t.name, .slice ac t.cols.length cc, .slice au t.uniq.length cu, .slice ak t.checks ck, .slice af t.frn.length cf, .slice am t.sums.length cs] (by rfl) (by rfl) (new_cells w5 #[.string t.name, .slice ac t.cols.length cc, .slice au t.uniq.length cu, .slice ak t.checks ck, .slice af t.frn.length cf, .slice am t.sums.length cs] 36 _ rfl) (by intro u hu; simp only [List.mem_cons, List.not_mem_nil, or_false] at hu; rcases hu with rfl | rfl | rfl | rfl | rfl | rfl <;> rfl) (by omega) (by unfold maxLen; omega) (by omega) ?_; intro v' w6 hown hgrow; have x6 : Ext w5 w6 := ((Ext.alloc _ _).drewR).trans (grownExt hgrow); have hsl : SliceOf 6 tblOk w6 v' (s ++ [t]) := SliceOf.grown keeps_tbl (w := w5) (ys := [t]) x6 hown HO.out.1 HO.out.2.2 (fun i hi => by
            match i, hi with
            | 0, _ => exact ⟨[.string t.name, .slice ac t.cols.length cc, .slice au t.uniq.length cu, .slice ak t.checks ck, .slice af t.frn.length cf, .slice am t.sums.length cs], rfl, keeps_tbl _ _ _ _ (X0.out.trans y5) HT.out, fun j hj => by simp⟩); obtain ⟨va, vcap, hv', _⟩ := hsl.form; rw [show (s ++ [t]).length = s.length + 1 from by simp] at hv'; subst hv'))
    cases hany : s.any (sameT t.name)
    · have HB := hid (AL.out.2.1 hany)
      rw [HB.out]
      have hcc : (rightF [t] == rightF [t]) = true := by simp
      clear hany
      cases h0 : (rightF [t] == 0)
      all_goals
        go_wp2_with fail
        refine (alive_any _).mono ?_
        rintro e wz ⟨rfl, xz⟩
        go_wp2_with fail
        go_ret
        exact ⟨rfl, X0.out.trans (y5.trans (x6.trans (x7.trans xz)))⟩
    · cases h0 : (rightF [t] == 0)
      · cases hba : (rightF (s ++ [t]) == rightF [t])
        all_goals
          clear hany
          go_wp2_with fail
          refine (alive_any _).mono ?_
          rintro e wz ⟨rfl, xz⟩
          go_wp2_with fail
          go_ret
          exact ⟨rfl, X0.out.trans (y5.trans (x6.trans (x7.trans xz)))⟩
      · have HB := hid (AL.out.1 hany (AL.out.2.2 (by simpa using h0)))
        rw [HB.out]
        clear hany
        go_wp2_with fail
        refine (alive_any _).mono ?_
        rintro e wz ⟨rfl, xz⟩
        go_wp2_with fail
        go_ret
        exact ⟨rfl, X0.out.trans (y5.trans (x6.trans (x7.trans xz)))⟩
end Go.Proofs.YtgelmhcbiffghaaDoor.schemaAhead
