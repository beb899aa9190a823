/-
  WHAT IS PROVED HERE: new slices, and append: the interpreter says what the model does.
-/
import Derived.Test.YtkflfgkmbgjohaaDoorAbs9
set_option linter.unusedVariables false
set_option linter.unusedSimpArgs false
namespace Go.Proofs.YtkflfgkmbgjohaaDoor
open Go Go.RowKit

theorem upds_append {α : Type} : ∀ (l l' : List (Nat × α)) (T : Nat → α), upds T (l ++ l') = upds (upds T l) l'
  | [], _, _ => rfl
  | (i, v) :: l, l', T => by
    show upds (upd T i v) (l ++ l') = _
    rw [upds_append l l']; rfl
theorem ver_of_freeze {a b : O} (h : a = b ∨ a = b.freeze) : a.ver = b.ver := by
  rcases h with h | h
  · rw [h]
  · rw [h, freeze_ver]

/-- A slice in a new block. -/
theorem newVec_ok {E : Env} {ι : Ix} {S : Sb} {h : Nat → O} {w w' : World} (hr : RelH E ι S h w) (id sz : Nat) (ys : List D) (news : List Value) (fz : Bool) (c : Array Value) (cap : Nat) (hflat : Flat S w sz ys news) (hc : ∀ (j : Nat) u, news[j]? = some u → c[j]? = some u) (hcap : c.size = cap * sz) (hlen : ys.length ≤ cap)
    (hb : Below w.heap.size w w') (hz : w'.heap.size = w.heap.size + 1) (hcell : ∀ o, w'.cell? ⟨w.heap.size, o, none⟩ = c[o]?) (hfr : ∀ o, o < c.size → w'.frozen? ⟨w.heap.size, o, none⟩ = false) :
    ∃ ι' S', Mono ι S w ι' S' w' ∧ VA ι' S' w' (.sl id ((h id).ver + 1) 0 ys.length) (.slice (some ⟨w.heap.size, 0, none⟩) ys.length cap) ∧ RelH E ι' S' (upd h id (.vec ((h id).ver + 1) sz ys fz)) w' := by
  have hnone : ι id ((h id).ver + 1) = none := hr.vers id _ (by omega)
  let L : Loc := ⟨w.heap.size, 0, sz, cap⟩
  let S' : Sb := if fz then addS S w.heap.size 0 (ys.length * sz) else S
  have hsub : ∀ b o, S b o → S' b o := fun b o hs => by
    show (if fz then addS S w.heap.size 0 (ys.length * sz) else S) b o
    cases fz
    · exact hs
    · exact Or.inl hs
  have hback : ∀ b o, S' b o → S b o ∨ (fz = true ∧ b = w.heap.size ∧ o < ys.length * sz) := fun b o hs => by
    change (if fz then addS S w.heap.size 0 (ys.length * sz) else S) b o at hs
    cases fz
    · exact Or.inl hs
    · rcases hs with hs | ⟨h1, h2, h3⟩
      · exact Or.inl hs
      · exact Or.inr ⟨rfl, h1, by omega⟩
  have m : Mono ι S w (ixNew ι id ((h id).ver + 1) L) S' w' := by
    have := Mono.newBlock (w' := w') (L := L) hnone hr.inw (fun p hp => hb.cell hp)
    exact ⟨this.ix, hsub, this.cell⟩
  refine ⟨ixNew ι id ((h id).ver + 1) L, S', m, ?_, ?_⟩
  · unfold VA
    refine ⟨_, cap, rfl, hlen, ?_⟩
    by_cases h0 : cap = 0
    · exact Or.inl h0
    · exact Or.inr ⟨L, ixNew_same _ _ _ _, by simp [L], by simp [L]⟩
  · refine hr.lay id (.vec ((h id).ver + 1) sz ys fz) L rfl m (by omega) (hr.below.trans (hb.mono hr.size)) ?_ (fun i Li e hl hL => ?_) (fun b p hs => ?_)
    · refine Or.inr ⟨L, ixNew_same _ _ _ _, rfl, hr.size, by show w.heap.size < _; omega, hlen, fun o h1 h2 => ?_, ?_, fun o ho hs => ?_, fun hf o ho hs => ?_, fun hf o h1 h2 => ?_⟩
      · have : o < c.size := by rw [hcap]; simpa [L] using h2
        exact ⟨by show (w'.cell? ⟨w.heap.size, o, none⟩).isSome = true; rw [hcell]; simp [this], hfr o this⟩
      · refine (hflat.mono m.sb m.cell).vec fun j u hj => ?_
        show w'.cell? ⟨w.heap.size, 0 + j, none⟩ = some u
        rw [Nat.zero_add, hcell]; exact hc j u hj
      · rcases hback _ _ hs with hs | ⟨_, _, hs⟩
        · exact Nat.lt_irrefl _ (hr.inw _ _ hs)
        · have : 0 + ys.length * sz ≤ o := ho
          omega
      · rcases hback _ _ hs with hs | ⟨hs, _⟩
        · exact Nat.lt_irrefl _ (hr.inw _ _ hs)
        · rw [hf] at hs; cases hs
      · show (if fz then addS S w.heap.size 0 (ys.length * sz) else S) _ _
        rw [hf]
        exact Or.inr ⟨rfl, Nat.zero_le _, by have : o < 0 + ys.length * sz := h2; omega⟩
    · have hlt := ((hr.objs i).lt hl hL).2
      refine ⟨fun e => by have : Li.b = w.heap.size := e; omega, fun p hs => ?_, fun p => ⟨hb.cell (p := ⟨Li.b, p, none⟩) hlt, hb.frozen (p := ⟨Li.b, p, none⟩) hlt⟩⟩
      rcases hback _ _ hs with hs | ⟨_, e, _⟩
      · exact hs
      · omega
    · rcases hback _ _ hs with hs | ⟨_, rfl, _⟩
      · exact Or.inl hs
      · exact Or.inr ⟨hr.size, by omega⟩

/-! ### a slice that is written out -/
theorem flatten_get {α : Type} (zs : List α) : ∀ (len i : Nat), i < len * zs.length → ((List.replicate len zs).flatten)[i]? = zs[i % zs.length]?
  | 0, i, h => by simp at h
  | len + 1, i, h => by
    rw [List.replicate_succ, List.flatten_cons]
    by_cases h1 : i < zs.length
    · rw [List.getElem?_append_left h1, Nat.mod_eq_of_lt h1]
    · rw [List.getElem?_append_right (by omega), flatten_get zs len (i - zs.length) (by rw [Nat.succ_mul] at h; omega), ← Nat.mod_eq_sub_mod (by omega)]
theorem zeros_eq (len sz : Nat) (zs : Array Value) (hs : zs.size = sz) (h0 : 0 < sz) : ((Array.range (len * sz)).map (fun i => zs[i % zs.size]!)).toList = (List.replicate len zs.toList).flatten := by
  subst hs
  apply List.ext_getElem?
  intro i
  by_cases hi : i < len * zs.size
  · rw [flatten_get _ _ _ (by simpa using hi)]
    have hm : i % zs.size < zs.size := Nat.mod_lt _ h0
    simp [hi, hm]
  · rw [List.getElem?_eq_none (by simp; omega), List.getElem?_eq_none (by simp [List.length_flatten]; omega)]
theorem chunk_flat {S : Sb} {w : World} {ag : Bool} {sz : Nat} (h1 : (ag || sz == 1) = true) : ∀ (len : Nat) (ds : List D) (us : List Value), CellsL S w ds us → ds.length = len * sz → (∀ u ∈ us, u.oneCell' = true) → Flat S w sz (chunk ag sz len ds) us
  | 0, ds, us, h, hl, _ => by
    have := (CellsL_get.1 h).1
    have hu : us = [] := List.length_eq_zero_iff.1 (by omega)
    subst hu
    exact Flat.nil _ _ _
  | len + 1, ds, us, h, hl, h2 => by
    obtain ⟨g1, g2⟩ := CellsL_get.1 h
    have hl' : ds.length = len * sz + sz := by rw [hl, Nat.succ_mul]
    have e : us = us.take sz ++ us.drop sz := (List.take_append_drop sz us).symm
    have hd : CellsL S w (ds.drop sz) (us.drop sz) := CellsL_get.2 ⟨by simp [g1], fun i x u hx hu => g2 (sz + i) x u (by rw [List.getElem?_drop] at hx; exact hx) (by rw [List.getElem?_drop] at hu; exact hu)⟩
    have ht : CellsL S w (ds.take sz) (us.take sz) := CellsL_get.2 ⟨by simp [g1], fun i x u hx hu => by
      rw [List.getElem?_take] at hx hu
      split at hx
      · rename_i hi; rw [if_pos hi] at hu; exact g2 i x u hx hu
      · cases hx⟩
    have ih := chunk_flat h1 len (ds.drop sz) (us.drop sz) hd (by simp; omega) (fun u hu => h2 u (List.mem_of_mem_drop hu))
    rw [e]
    unfold chunk
    cases ag with
    | true =>
      simp only [if_true]
      exact Flat.cons (by simp; omega) (by show (ds.take sz).length = sz; simp; omega) (by unfold CellsD; exact ht) (fun u hu => h2 u (List.mem_of_mem_take hu)) ih
    | false =>
      simp only [Bool.false_or, beq_iff_eq] at h1
      subst h1
      simp only [Bool.false_eq_true, if_false]
      cases ds with
      | nil => simp at hl'
      | cons x ds =>
        cases us with
        | nil => simp at g1
        | cons u us =>
          simp only [List.head?_cons, Option.getD_some]
          obtain ⟨f1, f2⟩ := g2 0 x u rfl rfl
          refine Flat.cons (by simp) ?_ (by simpa using f2) (fun v hv => h2 v (List.mem_of_mem_take hv)) ih
          cases x with
          | agg ys => cases f1
          | s v => rfl
          | lst zs => rfl
theorem telem_under {P : Program} {t e : TypeId} (h : telem P t = some e) : P.underlying t = some (.slice e) := by
  unfold telem at h
  split at h
  · rename_i e' h'; cases h; exact h'
  · cases h
theorem fillA_length (place : Nat → Option (Nat × Nat)) : ∀ (parts : List (Nat × A)) (cs r : List A), fillA place cs parts = some r → r.length = cs.length
  | [], cs, r, h => by simp only [fillA, Option.some.injEq] at h; rw [h]
  | (i, x) :: parts, cs, r, h => by
    unfold fillA at h
    split at h
    · cases h
    · split at h
      · cases h
      · rename_i hc
        rw [fillA_length place parts _ r h, put_length]
        have : ¬ (cs.length < _ + x.cells.length) := fun e => hc (Or.inr (Or.inl e))
        omega
theorem buildSlice_ok {P : Program} {E : Env} {ι : Ix} {S : Sb} {h : Nat → O} {w : World} (hr : RelH E ι S h w) {id : Nat} {t : TypeId} {len : Nat} {parts : List (Nat × A)} {vparts : Array (Nat × Value)} (hp : VP ι S w parts vparts.toList) {e : Eff} (he : buildSliceE P h id t len parts = some e) :
    ∃ u w', (Instr.buildSlice t len vparts).run P w = .ok u w' ∧ Steps E ι S h w e u w' := by
  unfold buildSliceE at he
  split at he
  · cases he
  · rename_i el hte
    have ht := telem_under hte
    split at he
    · rename_i sz ag z hs ha hz
      split at he
      · rename_i hc
        obtain ⟨c1, c2, c3, c4⟩ := hc
        split at he
        · cases he
        · rename_i cs hfill
          split at he
          · cases he
          · rename_i hone
            simp only [Bool.not_eq_true', Bool.not_eq_false] at hone
            split at he
            · cases he
            · rename_i ds ids hfz
              simp only [Option.some.injEq] at he
              subst he
              have hz0 : VL ι S w ((List.replicate len (z.cells.toList.map ofCell)).flatten) ((Array.range (len * sz)).map (fun i => z.cells[i % z.cells.size]!)).toList := by
                rw [zeros_eq len sz z.cells c4 c3]
                have := VL_ofCell ι S w (List.replicate len z.cells.toList).flatten
                rwa [List.map_flatten, List.map_replicate] at this
              obtain ⟨us, h2, h3⟩ := fill_ok (fun i => some (i * sz, sz)) parts vparts.toList _ cs _ hp hz0 hfill
              have hlen : us.size = len * sz := by
                have h4 := fillA_length _ _ _ _ hfill
                have h5 := (VL_get.1 h3).1
                simp only [Array.length_toList] at h5
                have h6 := (VL_get.1 hz0).1
                simp only [Array.length_toList, Array.size_map, Array.size_range] at h6
                omega
              have hcl := (VL_get.1 h3).1
              simp only [Array.length_toList] at hcl
              obtain ⟨S1, m1, r1, f1, f2⟩ := RelH.freezeL (h0 := h) ids (fun _ => Or.inl rfl) hr
              have hcells := fzCells_ok hr m1 h3 hfz f1
              have hdl : ds.length = len * sz := by have := (CellsL_get.1 hcells).1; simp only [Array.length_toList] at this; omega
              have hflat := chunk_flat (S := S1) (w := w) c2 len ds us.toList hcells hdl (ones_of h3 hone)
              have hchunk : (chunk ag sz len ds).length = len := by
                have := hflat.1
                rw [Array.length_toList, hlen] at this
                exact (Nat.eq_of_mul_eq_mul_right c3 this).symm
              have hver := ver_of_freeze (f2 id)
              have hb : Below w.heap.size w (w.alloc (.cells us el)) := (Below.refl _ _).alloc (Nat.le_refl _) _
              obtain ⟨ι2, S2, m2, v2, r2⟩ := newVec_ok r1 id sz (chunk ag sz len ds) us.toList false us len hflat (fun j u hj => by simpa using hj) hlen (by omega) hb (by simp) (fun o => by simp) (fun o _ => by simp)
              rw [hver, hchunk] at v2
              rw [hver] at r2
              refine ⟨_, _, ?_, ι2, S2, m1.trans m2, v2, by rw [upds_append]; exact r2⟩
              have hle : ¬ (16777216 < len * sz) := by omega
              by_cases h0 : len = 0
              · subst h0
                have h2' : Instr.fill (fun i => some (i * sz, sz)) #[] vparts.toList = some us := by
                  have : ((Array.range (0 * sz)).map (fun i => z.cells[i % z.cells.size]!)) = #[] := by simp
                  rw [this] at h2; exact h2
                have e0 : Array.map (fun (_ : Nat) => (default : Value)) (Array.range 0) = #[] := by simp
                simp [Instr.buildSlice, Sem.run_bind, Result.andThen, run_under ht, run_size hs, e0, h2', newRow]
              · have hne : ¬ (len * sz = 0) := Nat.mul_ne_zero h0 (by omega)
                simp only [Instr.buildSlice, Sem.run_bind, Result.andThen, run_under ht, run_size hs]
                rw [if_neg (by simpa using hle), if_neg hne]
                simp [Sem.run_bind, Result.andThen, run_zero hz, h2, newRow]
      · cases he
    · cases he

/-! ### append -/
theorem lenOf_slice {P : Program} {w : World} (a : Option Addr) (n c : Nat) : (Builtin.lenOf (.slice a n c)).run P w = .ok n w := rfl
theorem elems_ok {P : Program} {E : Env} {ι : Ix} {S : Sb} {h : Nat → O} {w : World} (hr : RelH E ι S h w) {x : A} {vx : Value} (hv : VA ι S w x vx) {ys : List D} {rx : List Nat} (hx : elemsOf h x = some (ys, rx)) {sz : Nat} (hh : headOk sz ys = true) (h0 : 0 < sz) :
    ∃ news, Flat S w sz ys news ∧ ∀ w', (∀ p : Addr, w'.cell? p = w.cell? p) → (Builtin.lenOf vx).run P w' = .ok ys.length w' ∧ (Builtin.firstCells sz ys.length vx).run P w' = .ok news.toArray w' := by
  have fromRow : ∀ (a : Option Addr) (cap : Nat) (zs : List D) (b o n : Nat), a = some ⟨b, o, none⟩ → zs ≠ [] → headOk sz zs = true → VecRow S w b n o zs → ∃ news, Flat S w sz zs news ∧ ∀ w', (∀ p : Addr, w'.cell? p = w.cell? p) → (Builtin.lenOf (.slice a zs.length cap)).run P w' = .ok zs.length w' ∧ (Builtin.firstCells sz zs.length (.slice a zs.length cap)).run P w' = .ok news.toArray w' := by
    intro a cap zs b o n ha hne hh hrow
    subst ha
    have hn : n = sz := by
      cases zs with
      | nil => exact absurd rfl hne
      | cons z zs =>
        obtain ⟨us, _, k2, _⟩ := hrow 0 z rfl
        simp only [headOk, beq_iff_eq] at hh
        omega
    subst hn
    obtain ⟨news, k1, k2⟩ := hrow.flat
    refine ⟨news, k1, fun w' hw => ⟨lenOf_slice _ _ _, run_firstCells_some (P := P) w' n zs.length ⟨b, o, none⟩ zs.length cap news k1.1 fun j v hj => ?_⟩⟩
    rw [add_at, hw]
    exact k2 j v hj
  have empty : ∀ (a : Option Addr) (cap : Nat), ∃ news, Flat S w sz [] news ∧ ∀ w', (∀ p : Addr, w'.cell? p = w.cell? p) → (Builtin.lenOf (.slice a 0 cap)).run P w' = .ok 0 w' ∧ (Builtin.firstCells sz 0 (.slice a 0 cap)).run P w' = .ok news.toArray w' := fun a cap => by
    refine ⟨[], Flat.nil _ _ _, fun w' _ => ⟨rfl, ?_⟩⟩
    cases a with
    | none => exact run_firstCells_none (P := P) w' _ _ _ _
    | some a => exact run_firstCells_some (P := P) w' sz 0 a 0 cap [] (by simp) (by simp)
  unfold elemsOf at hx
  split at hx
  · rename_i zs
    simp only [Option.some.injEq, Prod.mk.injEq] at hx
    obtain ⟨rfl, rfl⟩ := hx
    obtain ⟨a, cap, rfl, _, h2⟩ := VA_lst.1 hv
    rcases h2 with rfl | ⟨b, o, n, h2, h3⟩
    · exact empty a cap
    · by_cases hne : zs = []
      · subst hne; exact empty a cap
      · exact fromRow a cap zs b o n h2 hne hh h3.vec
  · rename_i zs
    simp only [Option.some.injEq, Prod.mk.injEq] at hx
    obtain ⟨rfl, rfl⟩ := hx
    unfold VA at hv
    obtain ⟨a, rfl, h2⟩ := hv
    rcases h2 with rfl | ⟨b, o, n, h2, h3⟩
    · exact empty a _
    · by_cases hne : zs = []
      · subst hne; exact empty a _
      · exact fromRow a _ zs b o n h2 hne hh h3.vec
  · rename_i id ver off len
    split at hx
    · rename_i v n xs fz ho
      split at hx
      · rename_i hc
        obtain ⟨rfl, hl⟩ := hc
        simp only [Option.some.injEq, Prod.mk.injEq] at hx
        obtain ⟨rfl, rfl⟩ := hx
        obtain ⟨a, cap, rfl, h1, h2⟩ := view_row hr ho hl hv
        have hlen : ((xs.drop off).take len).length = len := by simp only [List.length_take, List.length_drop]; omega
        rcases h2 with rfl | ⟨L, hL, hn, ha, hrow⟩
        · simp only [List.take_zero]
          exact empty a cap
        · by_cases hne : len = 0
          · subst hne
            simp only [List.take_zero]
            exact empty a cap
          · have := fromRow a cap ((xs.drop off).take len) _ _ n ha (fun e => by rw [e] at hlen; simp at hlen; omega) hh hrow
            rw [hlen] at this
            rw [hlen]
            exact this
      · cases hx
    · cases hx
  · rename_i s
    simp only [Option.some.injEq, Prod.mk.injEq] at hx
    obtain ⟨rfl, rfl⟩ := hx
    unfold VA ValD CellsD at hv
    simp only [List.cons.injEq, and_true] at hv
    obtain ⟨rfl, _⟩ := hv
    refine ⟨s.data.toList.map fun b => .int .u8 b.toNat, ?_, fun w' _ => ⟨?_, ?_⟩⟩
    · refine ⟨?_, fun u hu => ?_, fun i y hy => ?_⟩
      · cases hs : s.data.toList with
        | nil => simp
        | cons b l =>
          rw [hs] at hh
          simp only [List.map_cons, headOk, D.cells, List.length_cons, List.length_nil, beq_iff_eq] at hh
          simp [← hh]
      · obtain ⟨b, _, rfl⟩ := List.mem_map.1 hu; rfl
      · rw [List.getElem?_map] at hy
        obtain ⟨b, hb, rfl⟩ := Option.map_eq_some_iff.1 hy
        have hsz : sz = 1 := by
          cases hs : s.data.toList with
          | nil => rw [hs] at hb; simp at hb
          | cons b l =>
            rw [hs] at hh
            simp only [List.map_cons, headOk, D.cells, List.length_cons, List.length_nil, beq_iff_eq] at hh
            omega
        subst hsz
        refine ⟨[.int .u8 b.toNat], rfl, rfl, by unfold CellsD; exact ⟨rfl, rfl⟩, fun j u hj => ?_⟩
        cases j with
        | zero =>
          simp only [List.getElem?_cons_zero, Option.some.injEq] at hj
          subst hj
          rw [Nat.mul_one, Nat.add_zero, List.getElem?_map, hb]; rfl
        | succ j => simp at hj
    · rw [List.length_map, Array.length_toList]; rfl
    · simp only [Builtin.firstCells, Sem.run_pure]
      congr 1
      apply Array.ext'
      have : (s.extract 0 s.size) = s := by
        apply ByteArray.ext
        simp
      simp only [List.length_map, Array.length_toList]
      rw [show s.data.size = s.size from rfl, this]
      simp
  · cases hx
end Go.Proofs.YtkflfgkmbgjohaaDoor
