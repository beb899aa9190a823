/-
  WHAT IS PROVED HERE: the walk of SchemaFewer: it returns true at every schema and every number.
-/
import Derived.Test.YtgelmhcbiffghaaDoorAheadLaw
import Derived.Test.YtgelmhcbiffghaaDoorFewerPlain
import Derived.IntWalk
namespace Go.Proofs.YtgelmhcbiffghaaDoor
open Go.RowKit

theorem step_append_own {P : Program} {ops : Array Oper} {o : Oper} {a : Act} {w : World} {K : Act → World → Prop} {Q : Exit → Act → World → Prop} {E : Prop} (hg : o.guard = none) (s x : Operand) (t : TypeId)
    (ho : o.op = .call { callee := .builtin .append, args := #[s, x], argTypes := #[t, t] })
    (base : Nat) (e : TypeId) (i : TypeInfo) (z : Value) (size bytes : Nat) (ht : P.underlying t = some (.slice e)) (hi : P.info? e = some i) (hz : i.zero = some z)
    (hsize : i.size = size) (hby : i.bytes = bytes) (hzs : z.cells.size = size) (hsz : 0 < size)
    (v : Value) (n : Nat) (xs : List Value) (hs : a.eval s = v) (hown : w.ownsRow base e size v n xs)
    (ad : Addr) (m c : Nat) (news : List Value) (hx : a.eval x = .slice (some ad) m c) (hl : news.length = m * size) (hnews : ∀ j u, news[j]? = some u → w.cell? (ad.add j) = some u) (h1 : ∀ u ∈ news, u.oneCell' = true)
    (h63 : n + m ≤ maxLen) (hbytes : (n + m) * bytes ≤ 140737488355328) (hbase : base ≤ w.heap.size)
    (h : ∀ v' w', w'.ownsRow base e size v' (n + m) (xs ++ news) → w.grownBy w' v.ownBlock → (v' = .slice none 0 0 ↔ v = .slice none 0 0 ∧ m = 0) → K (a.put o.dst v') w') :
    if Region.wanted o (yielded ops a.tmps) = true then Oper.wp P o a w K Q else E := by
  rw [if_pos (by simp [Region.wanted, hg])]
  exact wp_append_own w s x t ho base e i z size bytes ht hi hz hsize hby hzs hsz v n xs hs hown ad m c news hx hl hnews h1 h63 hbytes hbase h

/-- The cells of tables are of one cell each. -/
theorem tbl_one {w : World} {s : List Tbl} {l : List Value} (hl : l.length = s.length * 6) (h : ∀ i (hi : i < s.length), ∃ r, r.length = 6 ∧ tblOk w s[i] r ∧ ∀ j, j < 6 → l[i * 6 + j]? = r[j]?) : ∀ u ∈ l, u.oneCell' = true := by
  intro u hu
  obtain ⟨q, hq, rfl⟩ := List.mem_iff_getElem.1 hu
  have hi : q / 6 < s.length := by omega
  obtain ⟨r, h1, h2, h3⟩ := h (q / 6) hi
  have h4 := h3 (q % 6) (by omega)
  rw [show q / 6 * 6 + q % 6 = q by omega, List.getElem?_eq_getElem hq] at h4
  obtain ⟨vc, vu, a, cap, vf, vs, rfl, _, _, h5, h6, h7, h8⟩ := h2.out
  obtain ⟨_, _, rfl, _⟩ := h5.form
  obtain ⟨_, _, rfl, _⟩ := h6.form
  obtain ⟨_, _, rfl, _⟩ := h7.form
  obtain ⟨_, _, rfl, _⟩ := h8.form
  have hm : l[q] ∈ [Value.string s[q / 6].name, _, _, _, _, _] := List.mem_of_getElem? h4.symm
  simp only [List.mem_cons, List.not_mem_nil, or_false] at hm
  rcases hm with e | e | e | e | e | e <;> rw [e] <;> rfl
theorem drop_cells {l : List Value} {w : World} {b off : Nat} (h : ∀ j u, l[j]? = some u → w.cell? ((⟨b, off, none⟩ : Addr).add j) = some u) (d : Nat) : ∀ j u, (l.drop d)[j]? = some u → w.cell? ((⟨b, off + d, none⟩ : Addr).add j) = some u := by
  intro j u hj
  rw [List.getElem?_drop] at hj
  have := h (d + j) u hj
  rw [Go.Proofs.YtgelmhcbiffghaaDoor.add_eq] at this ⊢
  rw [Nat.add_assoc]
  exact this
/-- A row put in the stead of the k-th. -/
theorem splice_at {olds r : List Value} {n k : Nat} (ho : olds.length = n * 6) (hr : r.length = 6) (hk : k < n) {i j : Nat} (_ : i < n) (hj : j < 6) : (olds.take (k * 6) ++ r ++ olds.drop ((k + 1) * 6))[i * 6 + j]? = if i = k then r[j]? else olds[i * 6 + j]? := by
  have hl : (olds.take (k * 6)).length = k * 6 := by rw [List.length_take]; omega
  by_cases h1 : i < k
  · rw [if_neg (by omega), List.append_assoc, List.getElem?_append_left (by omega), List.getElem?_take, if_pos (by omega)]
  · by_cases h2 : i = k
    · subst h2
      rw [if_pos rfl, List.getElem?_append_left (by rw [List.length_append]; omega), List.getElem?_append_right (by omega), hl]
      congr 1
      omega
    · rw [if_neg h2, List.getElem?_append_right (by rw [List.length_append]; omega), List.getElem?_drop, List.length_append, hl, hr]
      congr 1
      omega
/-- What the three appends have made. -/
theorem spliced {w w' : World} {base : Nat} {e : TypeId} {v : Value} {s : List Tbl} {t : Tbl} {olds r : List Value} {k : Nat} (hk : k < s.length) (hx : Ext w w') (h : w'.ownsRow base e 6 v s.length (olds.take (k * 6) ++ r ++ olds.drop ((k + 1) * 6))) (ho : olds.length = s.length * 6)
    (h1 : ∀ i (hi : i < s.length), ∃ r, r.length = 6 ∧ tblOk w s[i] r ∧ ∀ j, j < 6 → olds[i * 6 + j]? = r[j]?) (hr : r.length = 6) (ht : tblOk w t r) : SliceOf 6 tblOk w' v (s.set k t) := by
  have hg := SliceOf.grown keeps_tbl (w := w) (w' := w') (base := base) (e := e) (v := v) (xs := s.set k t) (ys := []) (l := olds.take (k * 6) ++ r ++ olds.drop ((k + 1) * 6)) (m := []) hx (by simpa using h) (by simp; omega) (fun i hi => by
    have hi' : i < s.length := by simpa using hi
    by_cases hik : i = k
    · subst hik
      refine ⟨r, hr, by simpa using ht, fun j hj => ?_⟩
      rw [splice_at ho hr hk hi' hj, if_pos rfl]
    · obtain ⟨r', e1, e2, e3⟩ := h1 i hi'
      refine ⟨r', e1, by rw [List.getElem_set_ne (fun h => hik h.symm)]; exact e2, fun j hj => ?_⟩
      rw [splice_at ho hr hk hi' hj, if_neg hik]
      exact e3 j hj) (fun i hi => by simp at hi)
  simpa using hg
end Go.Proofs.YtgelmhcbiffghaaDoor
namespace Go.Proofs.YtgelmhcbiffghaaDoor.schemaFewer
open Go.RowKit

set_option maxHeartbeats 4000000 in
set_option maxRecDepth 100000 in
theorem walk (v : Value) (s : List Tbl) (at_ : Int) (w : World) (hv : SliceOf 6 tblOk w v s) (hlim : ∀ t ∈ s, TblLim t) (hat : (Lit.int .u8 at_).wf = true) :
    Calls Tryd.prog 7 #[.agg #[v], .int .u8 at_] w fun e w' => e = .returned (.bool true) ∧ Ext w w' := by
  obtain ⟨a, cap, rfl, hlc, hlen, hcapl⟩ := hv.form
  have HV := hid hv
  have HL := hid hlim
  have hat0 : 0 ≤ at_ ∧ at_ ≤ 255 := by
    simp [Lit.wf, IntKind.min, IntKind.max, IntKind.signed, IntKind.bits] at hat
    omega
  clear hv hlim hat
  have X0 := hid (Ext.alloc w (.cells #[.slice a s.length cap] 26))
  have C0 := hid (show (w.alloc (.cells #[.slice a s.length cap] 26)).cell? ⟨w.heap.size, 0, none⟩ = some (.slice a s.length cap) by simp [go_sem])
  cases hfew : fewB s
  · have HF := hid hfew
    clear hfew
    go_enter Tryd.func7, Tryd.ntmps7
    go_wp2_with fail
    refine (Few_any _ s _ (HV.out.ext keeps_tbl X0.out) HL.out).mono ?_
    rintro e w1 ⟨rfl, x1⟩
    rw [HF.out]
    go_wp2_with fail
    refine (alive_any _).mono ?_
    rintro e wz ⟨rfl, xz⟩
    go_wp2_with fail
    go_ret
    exact ⟨rfl, X0.out.trans (x1.trans xz)⟩
  have HF := hid hfew
  clear hfew
  by_cases hr : rightF s = 0
  case neg =>
    have hr' : (rightF s != 0) = true := by simpa using hr
    go_enter Tryd.func7, Tryd.ntmps7
    go_wp2_with fail
    refine (Few_any _ s _ (HV.out.ext keeps_tbl X0.out) HL.out).mono ?_
    rintro e w1 ⟨rfl, x1⟩
    rw [HF.out]
    have c1 := x1.cell C0.out
    go_wp2_with fail
    refine (Right_any _ s _ (HV.out.ext keeps_tbl (X0.out.trans x1))).mono ?_
    rintro e w2 ⟨rfl, x2⟩
    have c2 := x2.cell c1
    clear c1
    go_wp2_with fail
    refine (alive_any _).mono ?_
    rintro e wz ⟨rfl, xz⟩
    go_wp2_with fail
    go_ret
    exact ⟨rfl, X0.out.trans ((x1.trans x2).trans xz)⟩
  case pos =>
    have HR := hid hr
    clear hr
    have HG := hid (good_of HR.out)
    have hf16 := HG.out.few
    have hn0 : ((s.length : Int) == 0) = false := beq_eq_false_iff_ne.2 (by omega)
    obtain ⟨at_n, rfl⟩ : ∃ n : Nat, at_ = n := ⟨at_.toNat, by omega⟩
    obtain ⟨b, off, rfl⟩ : ∃ b off, a = some ⟨b, off, none⟩ := by
      obtain ⟨b, off, _, _, _, _, _, _, _, _, _, _, h, _⟩ := tbl_at2 HV.out (k := 0) (by omega)
      exact ⟨b, off, h⟩
    have hk : at_n % s.length < s.length := Nat.mod_lt _ (by omega)
    go_enter Tryd.func7, Tryd.ntmps7
    go_wp2_with fail
    refine (Few_any _ s _ (HV.out.ext keeps_tbl X0.out) HL.out).mono ?_
    rintro e w1 ⟨rfl, x1⟩
    rw [HF.out]
    have c1 := x1.cell C0.out
    go_wp2_with fail
    refine (Right_any _ s _ (HV.out.ext keeps_tbl (X0.out.trans x1))).mono ?_
    rintro e w2 ⟨rfl, x2⟩
    have c2 := x2.cell c1
    clear c1
    rw [HR.out]
    have y2 := x1.trans x2
    obtain ⟨_, _, ac, cc, au, cu, ak, ck, af, cf, am, cs, hh, hb, e0, e1, e2, e3, e4, e5, hRt, hnm, hCt, _⟩ := tbl_at2 (HV.out.ext keeps_tbl (X0.out.trans y2)) hk
    cases hh
    have HC := hid hCt
    clear hRt hCt
    have hd2 : w.heap.size < w2.heap.size := lt_of_cell c2
    go_wp2_with fail
    rw [show ((at_n : Int) % (s.length : Int)) = ((at_n % s.length : Nat) : Int) from by simp]
    clear e0 e1 e2 e3 e4 e5
    generalize at_n % s.length = k at *
    have Y3 := hid (y2.allocR (.cells #[.string s[k].name, .slice ac s[k].cols.length cc, .slice none 0 0, .slice none 0 0, .slice none 0 0, .slice none 0 0] 36))
    have Z3 := hid (show Ext w2 (w2.alloc (.cells #[.string s[k].name, .slice ac s[k].cols.length cc, .slice none 0 0, .slice none 0 0, .slice none 0 0, .slice none 0 0] 36)) from Ext.alloc _ _)
    have TB := hid (show tblOk (w2.alloc (.cells #[.string s[k].name, .slice ac s[k].cols.length cc, .slice none 0 0, .slice none 0 0, .slice none 0 0, .slice none 0 0] 36)) (bare s[k]) [.string s[k].name, .slice ac s[k].cols.length cc, .slice none 0 0, .slice none 0 0, .slice none 0 0, .slice none 0 0] from ⟨_, _, _, _, _, _, rfl, hnm, by simp [bare], (HC.out.ext keeps_col Z3.out), SliceOf.nil, SliceOf.nil, SliceOf.nil⟩)
    have CB := hid (CellsAt.new w2 [.string s[k].name, .slice ac s[k].cols.length cc, .slice none 0 0, .slice none 0 0, .slice none 0 0, .slice none 0 0] 36 _ rfl)
    have C3 := hid (Z3.out.cell c2)
    have HW := hid (show w2.heap.size = w2.heap.size from rfl)
    clear c2 hd2 hb
    generalize hbt : w2.heap.size = bt at *
    generalize w2.alloc (.cells #[.string s[k].name, .slice ac s[k].cols.length cc, .slice none 0 0, .slice none 0 0, .slice none 0 0, .slice none 0 0] 36) = w3 at *
    obtain ⟨olds, ho1, _, ho3, ho4⟩ := (HV.out.ext keeps_tbl (X0.out.trans Y3.out)).cells
    have HO := hid (And.intro ho1 (And.intro (ho3 _ rfl) ho4))
    have HOne := hid (tbl_one ho1 ho4)
    clear ho1 ho3 ho4
    obtain ⟨i0, hi0, hz0, hz1, hz2⟩ := info_parts schemaAhead.info36
    have HI := hid (And.intro hi0 (And.intro hz0 (And.intro hz1 hz2)))
    clear hi0 hz0 hz1 hz2
    have c0 := C3.out
    have b0 : w3.cell? ⟨bt, 0, none⟩ = some (.string s[k].name) := by simpa using CB.out 0 (by simp)
    have b1 : w3.cell? ⟨bt, 1, none⟩ = some (.slice ac s[k].cols.length cc) := by simpa using CB.out 1 (by simp)
    have b2 : w3.cell? ⟨bt, 2, none⟩ = some (.slice none 0 0) := by simpa using CB.out 2 (by simp)
    have b3 : w3.cell? ⟨bt, 3, none⟩ = some (.slice none 0 0) := by simpa using CB.out 3 (by simp)
    have b4 : w3.cell? ⟨bt, 4, none⟩ = some (.slice none 0 0) := by simpa using CB.out 4 (by simp)
    have b5 : w3.cell? ⟨bt, 5, none⟩ = some (.slice none 0 0) := by simpa using CB.out 5 (by simp)
    have k0 : (0 : Int) ≤ (k : Int) := by omega
    have k1 : (k : Int) ≤ (cap : Int) := by omega
    have k2 : (k : Int) + 1 ≤ (s.length : Int) := by omega
    have k3 : IntKind.i64.wrap ((k : Int) + 1) = (k : Int) + 1 := IntWalk.i64_in _ (by omega)
    have k4 : (0 : Int) ≤ (k : Int) + 1 := by omega
    have k5 : ((k : Int) + 1).toNat = k + 1 := by omega
    by_cases hcapk : cap = k + 1
    · subst hcapk
      have k6 : (s.length : Int) ≤ (k : Int) + 1 := by omega
      have k7 : (k : Int) ≤ (k : Int) + 1 := by omega
      go_region_held3 (fun w' => w'.cell? ⟨w.heap.size, 0, none⟩ = some (.slice (some ⟨b, off, none⟩) s.length (k + 1)) ∧ w'.cell? ⟨bt, 0, none⟩ = some (.string s[k].name) ∧ w'.cell? ⟨bt, 1, none⟩ = some (.slice ac s[k].cols.length cc) ∧ w'.cell? ⟨bt, 2, none⟩ = some (.slice none 0 0) ∧ w'.cell? ⟨bt, 3, none⟩ = some (.slice none 0 0) ∧ w'.cell? ⟨bt, 4, none⟩ = some (.slice none 0 0) ∧ w'.cell? ⟨bt, 5, none⟩ = some (.slice none 0 0)) (first | go_keep | exact ⟨x4.cell c0, x4.cell b0, x4.cell b1, x4.cell b2, x4.cell b3, x4.cell b4, x4.cell b5⟩ | exact ⟨x5.cell c0, x5.cell b0, x5.cell b1, x5.cell b2, x5.cell b3, x5.cell b4, x5.cell b5⟩ | exact ⟨x6.cell c0, x6.cell b0, x6.cell b1, x6.cell b2, x6.cell b3, x6.cell b4, x6.cell b5⟩)
        (first
          | (refine step_append_own (by rfl) _ _ 24 (by rfl) w3.heap.size 36 i0 _ 6 136 Tryd.underlying24 HI.out.1 HI.out.2.1 HI.out.2.2.1 HI.out.2.2.2 rfl (by decide) (.slice none 0 0) 0 [] (by rfl) (World.ownsRow_nil _ _ _ _) ⟨b, off, none⟩ k (k + 1) (olds.take (k * 6)) (by rfl) (by have := HO.out.1; rw [List.length_take]; omega) (fun j u hj => (Ext.drew w3).cell (HO.out.2.1 j u (by rw [List.getElem?_take] at hj; split at hj; exact hj; simp at hj))) (fun u hu => HOne.out u (List.mem_of_mem_take hu)) (by unfold maxLen; omega) (by omega) (Nat.le_refl _) ?_; intro v1 w4 hown1 hgrow1 _; have x4 : Ext w3 w4 := (Ext.drew _).trans ((Below.refl _ _).grown hgrow1 (Nat.le_refl _) (fun q hq => by cases hq)); simp only [Nat.zero_add, List.nil_append] at hown1)
          | (refine step_append_own (by rfl) _ _ 24 (by rfl) w3.heap.size 36 i0 _ 6 136 Tryd.underlying24 HI.out.1 HI.out.2.1 HI.out.2.2.1 HI.out.2.2.2 rfl (by decide) (.slice none 0 0) 0 [] (by rfl) (World.ownsRow_nil _ _ _ _) ⟨b, off, none⟩ k (k + 1) (olds.take (k * 6)) (by rfl) (by have := HO.out.1; rw [List.length_take]; omega) (fun j u hj => ((Ext.drew w3).trans (Ext.alloc _ _)).cell (HO.out.2.1 j u (by rw [List.getElem?_take] at hj; split at hj; exact hj; simp at hj))) (fun u hu => HOne.out u (List.mem_of_mem_take hu)) (by unfold maxLen; omega) (by omega) (by simp) ?_; intro v1 w4 hown1 hgrow1 _; have xx := (Below.refl _ _).grown hgrow1 (Nat.le_refl _) (fun q hq => by cases hq); have x4 : Ext w3 w4 := ((Ext.drew _).trans (Ext.alloc _ _)).trans xx; have nc0 := (new_cells w3.drew #[.string s[k].name, .slice ac s[k].cols.length cc, .slice none 0 0, .slice none 0 0, .slice none 0 0, .slice none 0 0] 36 _ rfl); have nc := fun j u hj => Ext.cell xx (nc0 j u hj); simp only [Nat.zero_add, List.nil_append] at hown1)
          | (refine step_append_own (by rfl) _ _ 24 (by rfl) w3.heap.size 36 i0 _ 6 136 Tryd.underlying24 HI.out.1 HI.out.2.1 HI.out.2.2.1 HI.out.2.2.2 rfl (by decide) v1 k (olds.take (k * 6)) (by rfl) (hown1.alloc _) ⟨w4.heap.size, 0, none⟩ 1 1 [.string s[k].name, .slice ac s[k].cols.length cc, .slice none 0 0, .slice none 0 0, .slice none 0 0, .slice none 0 0] (by rfl) (by rfl) (new_cells w4 #[.string s[k].name, .slice ac s[k].cols.length cc, .slice none 0 0, .slice none 0 0, .slice none 0 0, .slice none 0 0] 36 _ rfl) (by intro u hu; simp only [List.mem_cons, List.not_mem_nil, or_false] at hu; rcases hu with rfl | rfl | rfl | rfl | rfl | rfl <;> rfl) (by unfold maxLen; omega) (by omega) (by have := x4.size; simp; omega) ?_; intro v2 w5 hown2 hgrow2 _; have x5 : Ext w3 w5 := (x4.allocR _).grown hgrow2 (by have := x4.size; simp; omega) (fun q hq => (hown1.lt q hq).1))
          | (refine step_append_own (by rfl) _ _ 24 (by rfl) w3.heap.size 36 i0 _ 6 136 Tryd.underlying24 HI.out.1 HI.out.2.1 HI.out.2.2.1 HI.out.2.2.2 rfl (by decide) v1 k (olds.take (k * 6)) (by rfl) hown1 ⟨w3.heap.size, 0, none⟩ 1 1 [.string s[k].name, .slice ac s[k].cols.length cc, .slice none 0 0, .slice none 0 0, .slice none 0 0, .slice none 0 0] (by rfl) (by rfl) nc (by intro u hu; simp only [List.mem_cons, List.not_mem_nil, or_false] at hu; rcases hu with rfl | rfl | rfl | rfl | rfl | rfl <;> rfl) (by unfold maxLen; omega) (by omega) x4.size ?_; intro v2 w5 hown2 hgrow2 _; have x5 : Ext w3 w5 := x4.grown hgrow2 x4.size (fun q hq => (hown1.lt q hq).1))
          | (refine step_append_own (by rfl) _ _ 24 (by rfl) w3.heap.size 36 i0 _ 6 136 Tryd.underlying24 HI.out.1 HI.out.2.1 HI.out.2.2.1 HI.out.2.2.2 rfl (by decide) v2 (k + 1) (olds.take (k * 6) ++ [.string s[k].name, .slice ac s[k].cols.length cc, .slice none 0 0, .slice none 0 0, .slice none 0 0, .slice none 0 0]) (by rfl) hown2 ⟨b, off, none⟩ 0 0 [] (by rfl) (by rfl) (fun j u hj => by simp at hj) (fun u hu => by simp at hu) (by unfold maxLen; omega) (by omega) x5.size ?_; intro v3 w6 hown3' hgrow3 _; have hown3 : w6.ownsRow w3.heap.size 36 6 v3 (k + 1 + (s.length - (k + 1))) (olds.take (k * 6) ++ [.string s[k].name, .slice ac s[k].cols.length cc, .slice none 0 0, .slice none 0 0, .slice none 0 0, .slice none 0 0] ++ olds.drop ((k + 1) * 6)) := (by have := HO.out.1; rw [List.drop_eq_nil_of_le (by omega), show s.length - (k + 1) = 0 by omega]; exact hown3'); clear hown3'; have x6 : Ext w3 w6 := x5.grown hgrow3 x5.size (fun q hq => (hown2.lt q hq).1))
          | fail)
      all_goals
        rw [show k + 1 + (s.length - (k + 1)) = s.length by omega] at hown3
        have SL := hid (spliced (t := bare s[k]) hk x6 hown3 HO.out.1 HO.out.2.2 rfl TB.out)
        obtain ⟨va, vcap, hv3, hq1, hq2, hq3⟩ := SL.out.form
        have hLl : (s.set k (bare s[k])).length = s.length := by simp
        rw [hLl] at hv3 hq1
        subst hv3
        have RL := hid (good_right (fewer_good HG.out hk))
        have RT := hid (fewer_twice HG.out hk)
        have TB6 := hid (keeps_tbl _ _ _ _ x6 TB.out)
        have d0 := x6.cell b0
        have d1 := x6.cell b1
        have d2 := x6.cell b2
        have d3 := x6.cell b3
        have d4 := x6.cell b4
        have d5 := x6.cell b5
        have X6 := hid (X0.out.trans (Y3.out.trans x6))
        clear hown1 hown2 hown3 hgrow1 hgrow2 hgrow3 x4 x5 x6 b0 b1 b2 b3 b4 b5 c0 HO HOne HV C0 C3 CB Y3 Z3 TB HC
        generalize s.set k (bare s[k]) = L at *
        obtain ⟨bL, oL, rfl⟩ : ∃ bL oL, va = some ⟨bL, oL, none⟩ := by
          obtain ⟨bL, oL, _, _, _, _, _, _, _, _, _, _, h, _⟩ := tbl_at2 SL.out (k := 0) (by omega)
          exact ⟨bL, oL, h⟩
        obtain ⟨ns, hn1, _, hn3, hn4⟩ := SL.out.cells
        have HN := hid (And.intro hn1 (And.intro hn3 hn4))
        clear hn1 hn3 hn4
        have hs0 : (0 : Int) ≤ (s.length : Int) := by omega
        have hs1 : (s.length : Int) ≤ (vcap : Int) := by omega
        go_wp2_with fail
        go_region_held3 (fun w' => w'.cell? ⟨bt, 0, none⟩ = some (.string s[k].name) ∧ w'.cell? ⟨bt, 1, none⟩ = some (.slice ac s[k].cols.length cc) ∧ w'.cell? ⟨bt, 2, none⟩ = some (.slice none 0 0) ∧ w'.cell? ⟨bt, 3, none⟩ = some (.slice none 0 0) ∧ w'.cell? ⟨bt, 4, none⟩ = some (.slice none 0 0) ∧ w'.cell? ⟨bt, 5, none⟩ = some (.slice none 0 0)) (first | go_keep | exact ⟨x7.cell d0, x7.cell d1, x7.cell d2, x7.cell d3, x7.cell d4, x7.cell d5⟩ | exact ⟨(x7.trans x8).cell d0, (x7.trans x8).cell d1, (x7.trans x8).cell d2, (x7.trans x8).cell d3, (x7.trans x8).cell d4, (x7.trans x8).cell d5⟩)
          (first
            | (go_at_call 13; refine (Right_any _ (L ++ [bare s[k]]) _ hsl).mono ?_; rintro e w8 ⟨rfl, x8⟩)
            | (refine step_append_grows (by rfl) _ _ 24 (by rfl) 36 i0 _ 6 136 Tryd.underlying24 HI.out.1 HI.out.2.1 HI.out.2.2.1 HI.out.2.2.2 rfl (by decide) (some ⟨bL, oL, none⟩) s.length s.length ns (by rfl) (by simp) HN.out.1 (fun b' hb' j u hj => (Ext.alloc _ _).drewR.cell (HN.out.2.1 b' hb' j u hj)) ⟨w6.heap.size, 0, none⟩ 1 1 [.string s[k].name, .slice ac s[k].cols.length cc, .slice none 0 0, .slice none 0 0, .slice none 0 0, .slice none 0 0] (by rfl) (by rfl) (new_cells w6 #[.string s[k].name, .slice ac s[k].cols.length cc, .slice none 0 0, .slice none 0 0, .slice none 0 0, .slice none 0 0] 36 _ rfl) (by intro u hu; simp only [List.mem_cons, List.not_mem_nil, or_false] at hu; rcases hu with rfl | rfl | rfl | rfl | rfl | rfl <;> rfl) (by omega) (by unfold maxLen; omega) (by omega) ?_; intro v' w7 hown hgrow; have x7 : Ext w6 w7 := ((Ext.alloc _ _).drewR).trans (schemaAhead.grownExt hgrow); rw [← hLl] at hown; have hsl : SliceOf 6 tblOk w7 v' (L ++ [bare s[k]]) := SliceOf.grown keeps_tbl (w := w6) (ys := [bare s[k]]) x7 hown (by rw [hLl]; exact HN.out.1) HN.out.2.2 (fun i hi => by
                match i, hi with
                | 0, _ => exact ⟨[.string s[k].name, .slice ac s[k].cols.length cc, .slice none 0 0, .slice none 0 0, .slice none 0 0, .slice none 0 0], rfl, TB6.out, fun j hj => by simp⟩); obtain ⟨va, vcap', hv', _⟩ := hsl.form; rw [show (L ++ [bare s[k]]).length = s.length + 1 from by simp [hLl]] at hv'; subst hv')
            | fail)
        have SL8 := hid (SL.out.ext keeps_tbl (x7.trans x8))
        rw [RT.out]
        have RLo := RL.out
        have h16' : ((s.length : Int) == 16) = decide (s.length = 16) := by
          rw [Bool.eq_iff_iff]
          simp
          omega
        by_cases h16 : s.length = 16
        · rw [if_pos h16]
          go_wp2_with fail
          refine (alive_any _).mono ?_
          rintro e w9 ⟨rfl, x9⟩
          go_wp2_with fail
          have SL9 := SL8.out.ext keeps_tbl x9
          rw [h16] at SL9
          have HS9 := hid SL9
          clear SL9
          refine (Right_any _ L _ HS9.out).mono ?_
          rintro e wa ⟨rfl, xa⟩
          rw [RL.out]
          go_wp2_with fail
          go_ret
          exact ⟨rfl, X6.out.trans (x7.trans (x8.trans (x9.trans xa)))⟩
        · rw [if_neg h16]
          go_wp2_with fail
          refine (alive_any _).mono ?_
          rintro e w9 ⟨rfl, x9⟩
          go_wp2_with fail
          have HS9 := hid (SL8.out.ext keeps_tbl x9)
          refine (Right_any _ L _ HS9.out).mono ?_
          rintro e wa ⟨rfl, xa⟩
          rw [RL.out]
          go_wp2_with fail
          go_ret
          exact ⟨rfl, X6.out.trans (x7.trans (x8.trans (x9.trans xa)))⟩
    · have hcapk' : ¬ k + 1 = cap := fun h => hcapk h.symm
      go_region_held3 (fun w' => w'.cell? ⟨w.heap.size, 0, none⟩ = some (.slice (some ⟨b, off, none⟩) s.length cap) ∧ w'.cell? ⟨bt, 0, none⟩ = some (.string s[k].name) ∧ w'.cell? ⟨bt, 1, none⟩ = some (.slice ac s[k].cols.length cc) ∧ w'.cell? ⟨bt, 2, none⟩ = some (.slice none 0 0) ∧ w'.cell? ⟨bt, 3, none⟩ = some (.slice none 0 0) ∧ w'.cell? ⟨bt, 4, none⟩ = some (.slice none 0 0) ∧ w'.cell? ⟨bt, 5, none⟩ = some (.slice none 0 0)) (first | go_keep | exact ⟨x4.cell c0, x4.cell b0, x4.cell b1, x4.cell b2, x4.cell b3, x4.cell b4, x4.cell b5⟩ | exact ⟨x5.cell c0, x5.cell b0, x5.cell b1, x5.cell b2, x5.cell b3, x5.cell b4, x5.cell b5⟩ | exact ⟨x6.cell c0, x6.cell b0, x6.cell b1, x6.cell b2, x6.cell b3, x6.cell b4, x6.cell b5⟩)
        (first
          | (refine step_append_own (by rfl) _ _ 24 (by rfl) w3.heap.size 36 i0 _ 6 136 Tryd.underlying24 HI.out.1 HI.out.2.1 HI.out.2.2.1 HI.out.2.2.2 rfl (by decide) (.slice none 0 0) 0 [] (by rfl) (World.ownsRow_nil _ _ _ _) ⟨b, off, none⟩ k cap (olds.take (k * 6)) (by rfl) (by have := HO.out.1; rw [List.length_take]; omega) (fun j u hj => (Ext.drew w3).cell (HO.out.2.1 j u (by rw [List.getElem?_take] at hj; split at hj; exact hj; simp at hj))) (fun u hu => HOne.out u (List.mem_of_mem_take hu)) (by unfold maxLen; omega) (by omega) (Nat.le_refl _) ?_; intro v1 w4 hown1 hgrow1 _; have x4 : Ext w3 w4 := (Ext.drew _).trans ((Below.refl _ _).grown hgrow1 (Nat.le_refl _) (fun q hq => by cases hq)); simp only [Nat.zero_add, List.nil_append] at hown1)
          | (refine step_append_own (by rfl) _ _ 24 (by rfl) w3.heap.size 36 i0 _ 6 136 Tryd.underlying24 HI.out.1 HI.out.2.1 HI.out.2.2.1 HI.out.2.2.2 rfl (by decide) (.slice none 0 0) 0 [] (by rfl) (World.ownsRow_nil _ _ _ _) ⟨b, off, none⟩ k cap (olds.take (k * 6)) (by rfl) (by have := HO.out.1; rw [List.length_take]; omega) (fun j u hj => ((Ext.drew w3).trans (Ext.alloc _ _)).cell (HO.out.2.1 j u (by rw [List.getElem?_take] at hj; split at hj; exact hj; simp at hj))) (fun u hu => HOne.out u (List.mem_of_mem_take hu)) (by unfold maxLen; omega) (by omega) (by simp) ?_; intro v1 w4 hown1 hgrow1 _; have xx := (Below.refl _ _).grown hgrow1 (Nat.le_refl _) (fun q hq => by cases hq); have x4 : Ext w3 w4 := ((Ext.drew _).trans (Ext.alloc _ _)).trans xx; have nc0 := (new_cells w3.drew #[.string s[k].name, .slice ac s[k].cols.length cc, .slice none 0 0, .slice none 0 0, .slice none 0 0, .slice none 0 0] 36 _ rfl); have nc := fun j u hj => Ext.cell xx (nc0 j u hj); simp only [Nat.zero_add, List.nil_append] at hown1)
          | (refine step_append_own (by rfl) _ _ 24 (by rfl) w3.heap.size 36 i0 _ 6 136 Tryd.underlying24 HI.out.1 HI.out.2.1 HI.out.2.2.1 HI.out.2.2.2 rfl (by decide) v1 k (olds.take (k * 6)) (by rfl) (hown1.alloc _) ⟨w4.heap.size, 0, none⟩ 1 1 [.string s[k].name, .slice ac s[k].cols.length cc, .slice none 0 0, .slice none 0 0, .slice none 0 0, .slice none 0 0] (by rfl) (by rfl) (new_cells w4 #[.string s[k].name, .slice ac s[k].cols.length cc, .slice none 0 0, .slice none 0 0, .slice none 0 0, .slice none 0 0] 36 _ rfl) (by intro u hu; simp only [List.mem_cons, List.not_mem_nil, or_false] at hu; rcases hu with rfl | rfl | rfl | rfl | rfl | rfl <;> rfl) (by unfold maxLen; omega) (by omega) (by have := x4.size; simp; omega) ?_; intro v2 w5 hown2 hgrow2 _; have x5 : Ext w3 w5 := (x4.allocR _).grown hgrow2 (by have := x4.size; simp; omega) (fun q hq => (hown1.lt q hq).1))
          | (refine step_append_own (by rfl) _ _ 24 (by rfl) w3.heap.size 36 i0 _ 6 136 Tryd.underlying24 HI.out.1 HI.out.2.1 HI.out.2.2.1 HI.out.2.2.2 rfl (by decide) v1 k (olds.take (k * 6)) (by rfl) hown1 ⟨w3.heap.size, 0, none⟩ 1 1 [.string s[k].name, .slice ac s[k].cols.length cc, .slice none 0 0, .slice none 0 0, .slice none 0 0, .slice none 0 0] (by rfl) (by rfl) nc (by intro u hu; simp only [List.mem_cons, List.not_mem_nil, or_false] at hu; rcases hu with rfl | rfl | rfl | rfl | rfl | rfl <;> rfl) (by unfold maxLen; omega) (by omega) x4.size ?_; intro v2 w5 hown2 hgrow2 _; have x5 : Ext w3 w5 := x4.grown hgrow2 x4.size (fun q hq => (hown1.lt q hq).1))
          | (refine step_append_own (by rfl) _ _ 24 (by rfl) w3.heap.size 36 i0 _ 6 136 Tryd.underlying24 HI.out.1 HI.out.2.1 HI.out.2.2.1 HI.out.2.2.2 rfl (by decide) v2 (k + 1) (olds.take (k * 6) ++ [.string s[k].name, .slice ac s[k].cols.length cc, .slice none 0 0, .slice none 0 0, .slice none 0 0, .slice none 0 0]) (by rfl) hown2 ⟨b, off + (k + 1) * 6, none⟩ (s.length - (k + 1)) (cap - (k + 1)) (olds.drop ((k + 1) * 6)) (by rfl) (by have := HO.out.1; rw [List.length_drop, this]; omega) (fun j u hj => x5.cell (drop_cells HO.out.2.1 ((k + 1) * 6) j u hj)) (fun u hu => HOne.out u (List.mem_of_mem_drop hu)) (by unfold maxLen; omega) (by omega) x5.size ?_; intro v3 w6 hown3 hgrow3 _; have x6 : Ext w3 w6 := x5.grown hgrow3 x5.size (fun q hq => (hown2.lt q hq).1))
          | fail)
      all_goals
        rw [show k + 1 + (s.length - (k + 1)) = s.length by omega] at hown3
        have SL := hid (spliced (t := bare s[k]) hk x6 hown3 HO.out.1 HO.out.2.2 rfl TB.out)
        obtain ⟨va, vcap, hv3, hq1, hq2, hq3⟩ := SL.out.form
        have hLl : (s.set k (bare s[k])).length = s.length := by simp
        rw [hLl] at hv3 hq1
        subst hv3
        have RL := hid (good_right (fewer_good HG.out hk))
        have RT := hid (fewer_twice HG.out hk)
        have TB6 := hid (keeps_tbl _ _ _ _ x6 TB.out)
        have d0 := x6.cell b0
        have d1 := x6.cell b1
        have d2 := x6.cell b2
        have d3 := x6.cell b3
        have d4 := x6.cell b4
        have d5 := x6.cell b5
        have X6 := hid (X0.out.trans (Y3.out.trans x6))
        clear hown1 hown2 hown3 hgrow1 hgrow2 hgrow3 x4 x5 x6 b0 b1 b2 b3 b4 b5 c0 HO HOne HV C0 C3 CB Y3 Z3 TB HC
        generalize s.set k (bare s[k]) = L at *
        obtain ⟨bL, oL, rfl⟩ : ∃ bL oL, va = some ⟨bL, oL, none⟩ := by
          obtain ⟨bL, oL, _, _, _, _, _, _, _, _, _, _, h, _⟩ := tbl_at2 SL.out (k := 0) (by omega)
          exact ⟨bL, oL, h⟩
        obtain ⟨ns, hn1, _, hn3, hn4⟩ := SL.out.cells
        have HN := hid (And.intro hn1 (And.intro hn3 hn4))
        clear hn1 hn3 hn4
        have hs0 : (0 : Int) ≤ (s.length : Int) := by omega
        have hs1 : (s.length : Int) ≤ (vcap : Int) := by omega
        go_wp2_with fail
        go_region_held3 (fun w' => w'.cell? ⟨bt, 0, none⟩ = some (.string s[k].name) ∧ w'.cell? ⟨bt, 1, none⟩ = some (.slice ac s[k].cols.length cc) ∧ w'.cell? ⟨bt, 2, none⟩ = some (.slice none 0 0) ∧ w'.cell? ⟨bt, 3, none⟩ = some (.slice none 0 0) ∧ w'.cell? ⟨bt, 4, none⟩ = some (.slice none 0 0) ∧ w'.cell? ⟨bt, 5, none⟩ = some (.slice none 0 0)) (first | go_keep | exact ⟨x7.cell d0, x7.cell d1, x7.cell d2, x7.cell d3, x7.cell d4, x7.cell d5⟩ | exact ⟨(x7.trans x8).cell d0, (x7.trans x8).cell d1, (x7.trans x8).cell d2, (x7.trans x8).cell d3, (x7.trans x8).cell d4, (x7.trans x8).cell d5⟩)
          (first
            | (go_at_call 13; refine (Right_any _ (L ++ [bare s[k]]) _ hsl).mono ?_; rintro e w8 ⟨rfl, x8⟩)
            | (refine step_append_grows (by rfl) _ _ 24 (by rfl) 36 i0 _ 6 136 Tryd.underlying24 HI.out.1 HI.out.2.1 HI.out.2.2.1 HI.out.2.2.2 rfl (by decide) (some ⟨bL, oL, none⟩) s.length s.length ns (by rfl) (by simp) HN.out.1 (fun b' hb' j u hj => (Ext.alloc _ _).drewR.cell (HN.out.2.1 b' hb' j u hj)) ⟨w6.heap.size, 0, none⟩ 1 1 [.string s[k].name, .slice ac s[k].cols.length cc, .slice none 0 0, .slice none 0 0, .slice none 0 0, .slice none 0 0] (by rfl) (by rfl) (new_cells w6 #[.string s[k].name, .slice ac s[k].cols.length cc, .slice none 0 0, .slice none 0 0, .slice none 0 0, .slice none 0 0] 36 _ rfl) (by intro u hu; simp only [List.mem_cons, List.not_mem_nil, or_false] at hu; rcases hu with rfl | rfl | rfl | rfl | rfl | rfl <;> rfl) (by omega) (by unfold maxLen; omega) (by omega) ?_; intro v' w7 hown hgrow; have x7 : Ext w6 w7 := ((Ext.alloc _ _).drewR).trans (schemaAhead.grownExt hgrow); rw [← hLl] at hown; have hsl : SliceOf 6 tblOk w7 v' (L ++ [bare s[k]]) := SliceOf.grown keeps_tbl (w := w6) (ys := [bare s[k]]) x7 hown (by rw [hLl]; exact HN.out.1) HN.out.2.2 (fun i hi => by
                match i, hi with
                | 0, _ => exact ⟨[.string s[k].name, .slice ac s[k].cols.length cc, .slice none 0 0, .slice none 0 0, .slice none 0 0, .slice none 0 0], rfl, TB6.out, fun j hj => by simp⟩); obtain ⟨va, vcap', hv', _⟩ := hsl.form; rw [show (L ++ [bare s[k]]).length = s.length + 1 from by simp [hLl]] at hv'; subst hv')
            | fail)
        have SL8 := hid (SL.out.ext keeps_tbl (x7.trans x8))
        rw [RT.out]
        have RLo := RL.out
        have h16' : ((s.length : Int) == 16) = decide (s.length = 16) := by
          rw [Bool.eq_iff_iff]
          simp
          omega
        by_cases h16 : s.length = 16
        · rw [if_pos h16]
          go_wp2_with fail
          refine (alive_any _).mono ?_
          rintro e w9 ⟨rfl, x9⟩
          go_wp2_with fail
          have SL9 := SL8.out.ext keeps_tbl x9
          rw [h16] at SL9
          have HS9 := hid SL9
          clear SL9
          refine (Right_any _ L _ HS9.out).mono ?_
          rintro e wa ⟨rfl, xa⟩
          rw [RL.out]
          go_wp2_with fail
          go_ret
          exact ⟨rfl, X6.out.trans (x7.trans (x8.trans (x9.trans xa)))⟩
        · rw [if_neg h16]
          go_wp2_with fail
          refine (alive_any _).mono ?_
          rintro e w9 ⟨rfl, x9⟩
          go_wp2_with fail
          have HS9 := hid (SL8.out.ext keeps_tbl x9)
          refine (Right_any _ L _ HS9.out).mono ?_
          rintro e wa ⟨rfl, xa⟩
          rw [RL.out]
          go_wp2_with fail
          go_ret
          exact ⟨rfl, X6.out.trans (x7.trans (x8.trans (x9.trans xa)))⟩
end Go.Proofs.YtgelmhcbiffghaaDoor.schemaFewer
