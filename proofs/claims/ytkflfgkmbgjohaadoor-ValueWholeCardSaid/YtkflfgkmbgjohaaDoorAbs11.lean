/-
  WHAT IS PROVED HERE: append, and texts out of bytes and back: the interpreter says what the model does.
-/
import Derived.Test.YtkflfgkmbgjohaaDoorAbs10
set_option linter.unusedVariables false
set_option linter.unusedSimpArgs false
namespace Go.Proofs.YtkflfgkmbgjohaaDoor
open Go Go.RowKit

section
variable {P : Program} {w : World} {t t' ty e : TypeId} {d' : TypeDesc} {sz m sLen sCap : Nat} {z vx : Value}
theorem info_of (hs : tsize P e = some sz) (hz : tzero P e = some z) : ∃ i, P.info? e = some i ∧ i.size = sz ∧ i.zero = some z ∧ i.bytes = P.bytesOf e := by
  obtain ⟨i, hi, h1⟩ := Option.map_eq_some_iff.1 hs
  refine ⟨i, hi, h1, ?_, ?_⟩
  · unfold tzero at hz; rw [hi] at hz; exact hz
  · unfold Program.bytesOf; rw [hi]; rfl
theorem run_app_room (ht : P.underlying t = some (.slice e)) (hu : P.underlying t' = some d') (hd : slOrStr d' = true) (hs : tsize P e = some sz) (a : Option Addr) (news : List Value)
    (hlen : (Builtin.lenOf vx).run P w = .ok m w) (hnews : (Builtin.firstCells sz m vx).run P w = .ok news.toArray w) (hroom : sLen + m ≤ sCap) {w' : World} (hst : ∀ ad, a = some ad → (storeCells (ad.add (sLen * sz)) news).run P w = .ok () w') (hno : a = none → w' = w) :
    (Builtin.append_ #[t, t'] ty #[.slice a sLen sCap, vx]).run P w = .ok (.slice a (sLen + m) sCap) w' := by
  cases a with
  | none =>
    have := hno rfl
    subst this
    cases d' <;> first | (simp [slOrStr] at hd; done) | simp [Builtin.append_, run_under ht, run_under hu, run_size hs, Sem.run_bind, Result.andThen, hlen, hnews, hroom]
  | some ad =>
    have := hst ad rfl
    cases d' <;> first | (simp [slOrStr] at hd; done) | simp [Builtin.append_, run_under ht, run_under hu, run_size hs, Sem.run_bind, Result.andThen, hlen, hnews, hroom, this]
theorem run_app_grow (ht : P.underlying t = some (.slice e)) (hu : P.underlying t' = some d') (hd : slOrStr d' = true) (hs : tsize P e = some sz) (hz : tzero P e = some z) (a : Option Addr) (olds news : List Value)
    (hlen : (Builtin.lenOf vx).run P w = .ok m w) (hnews : (Builtin.firstCells sz m vx).run P w.drew = .ok news.toArray w.drew) (holds : (Builtin.firstCells sz sLen (.slice a sLen sCap)).run P w.drew = .ok olds.toArray w.drew)
    (hg : sCap < sLen + m) (hb : (sLen + m) * (P.bytesOf e + 1) ≤ 70368744177664) :
    (Builtin.append_ #[t, t'] ty #[.slice a sLen sCap, vx]).run P w = .ok (.slice (some ⟨w.heap.size, 0, none⟩) (sLen + m) (grownCap w (sLen + m) sCap e)) (w.drew.alloc (.cells (olds.toArray ++ news.toArray ++ Builtin.zeroCells z.cells (grownCap w (sLen + m) sCap e - (sLen + m))) e)) := by
  obtain ⟨i, hi, h1, h2, h3⟩ := info_of hs hz
  have hn : ¬ (sLen + m ≤ sCap) := by omega
  rw [Nat.mul_add, Nat.mul_one] at hb
  have h63' : ¬ (9223372036854775807 < ((sLen : Int) + (m : Int))) := by omega
  have h48' : ¬ (281474976710656 < Builtin.nextslicecap (sLen + m) sCap * i.bytes) := by
    have := growslice_fits (need := sLen + m) (old := sCap) (bytes := i.bytes) hg (by rw [h3]; omega)
    omega
  have hti : ∀ w : World, (typeInfo e).run P w = .ok i w := fun w => run_info hi
  have hze : ∀ w : World, (zeroValue e).run P w = .ok z w := fun w => run_zero hz
  cases d' <;> first | (simp [slOrStr] at hd; done) | (simp [Builtin.append_, run_under ht, run_under hu, run_size hs, hti, hze, hlen, hn, h63', h48', Question.forced, hnews, holds, newRow, grownCap]; congr 2; apply Array.ext'; simp)
end
theorem zeroCells_size (zs : Array Value) (n : Nat) : (Builtin.zeroCells zs n).size = n * zs.size := by simp [Builtin.zeroCells]
theorem vec_headOk {E : Env} {ι : Ix} {S : Sb} {h : Nat → O} {w : World} (hr : RelH E ι S h w) {id ver n : Nat} {xs : List D} {fz : Bool} (ho : h id = .vec ver n xs fz) (off : Nat) : headOk n (xs.drop off) = true := by
  cases hd : xs.drop off with
  | nil => rfl
  | cons x l =>
    have hob := hr.objs id
    rw [ho] at hob
    rcases hob with ⟨g, _⟩ | ⟨L, _, _, _, _, _, _, g7, _⟩
    · subst g; simp at hd
    · obtain ⟨us, _, h2, _⟩ := (g7.drop off) 0 x (by rw [hd]; rfl)
      simp [headOk, h2]
/-- A slice that grows into a new block. -/
theorem grow_ok {P : Program} {E : Env} {ι : Ix} {S : Sb} {h : Nat → O} {w : World} (hr : RelH E ι S h w) {id : Nat} {t t' ty e : TypeId} {d' : TypeDesc} {sz sCap : Nat} {z vx : Value} (ht : P.underlying t = some (.slice e)) (hu : P.underlying t' = some d') (hd : slOrStr d' = true) (hs : tsize P e = some sz) (hz : tzero P e = some z) (hz2 : z.cells.size = sz)
    {xs ys : List D} {olds news : List Value} (ho : Flat S w sz xs olds) (hn : Flat S w sz ys news) {a : Option Addr} (fz : Bool)
    (hlen : (Builtin.lenOf vx).run P w = .ok ys.length w) (hnews : (Builtin.firstCells sz ys.length vx).run P w.drew = .ok news.toArray w.drew) (holds : (Builtin.firstCells sz xs.length (.slice a xs.length sCap)).run P w.drew = .ok olds.toArray w.drew)
    (hg : sCap < xs.length + ys.length) (hb : (xs.length + ys.length) * (P.bytesOf e + 1) ≤ 70368744177664) :
    ∃ u w' ι' S', (Builtin.append_ #[t, t'] ty #[.slice a xs.length sCap, vx]).run P w = .ok u w' ∧ Mono ι S w ι' S' w' ∧ VA ι' S' w' (.sl id ((h id).ver + 1) 0 (xs.length + ys.length)) u ∧ RelH E ι' S' (upd h id (.vec ((h id).ver + 1) sz (xs ++ ys) fz)) w' := by
  have hrun := run_app_grow (ty := ty) ht hu hd hs hz a olds news hlen hnews holds hg hb
  have hge := grownCap_ge w (xs.length + ys.length) sCap e
  have hflat := ho.append hn
  have hsize : (olds.toArray ++ news.toArray ++ Builtin.zeroCells z.cells (grownCap w (xs.length + ys.length) sCap e - (xs.length + ys.length))).size = grownCap w (xs.length + ys.length) sCap e * sz := by
    rw [Array.size_append, Array.size_append, zeroCells_size, hz2]
    simp only [List.size_toArray]
    rw [ho.1, hn.1, ← Nat.add_mul, ← Nat.add_mul]
    congr 1; omega
  obtain ⟨ι', S', m, v, r⟩ := newVec_ok hr id sz (xs ++ ys) (olds ++ news) fz _ _ hflat (fun j u hj => by
    have hj' : j < (olds ++ news).length := (List.getElem?_eq_some_iff.1 hj).1
    have e1 : (olds.toArray ++ news.toArray) = (olds ++ news).toArray := by simp
    rw [e1, Array.getElem?_append_left (by simpa using hj')]
    simpa using hj) hsize (by rw [List.length_append]; exact hge) (w' := w.drew.alloc (.cells (olds.toArray ++ news.toArray ++ Builtin.zeroCells z.cells (grownCap w (xs.length + ys.length) sCap e - (xs.length + ys.length))) e)) ((Below.refl _ _).drew.alloc (Nat.le_refl _) _) (by simp) (fun o => World.cell?_alloc_new w.drew _ _ _) (fun o _ => World.frozen?_alloc_new w.drew _ _ _)
  rw [List.length_append] at v
  exact ⟨_, _, ι', S', hrun, m, v, r⟩
theorem append_ok {P : Program} {E : Env} {ι : Ix} {S : Sb} {h : Nat → O} {w : World} (hr : RelH E ι S h w) {id : Nat} {t t' ty : TypeId} {d' : TypeDesc} (hu : P.underlying t' = some d') (hd : slOrStr d' = true) {s x : A} {vs vx : Value} (hvs : VA ι S w s vs) (hvx : VA ι S w x vx) {ef : Eff} (he : appendE P h id t s x = some ef) :
    ∃ u w', (Builtin.append_ #[t, t'] ty #[vs, vx]).run P w = .ok u w' ∧ Steps E ι S h w ef u w' := by
  unfold appendE at he
  split at he
  · cases he
  · rename_i e hte
    have ht := telem_under hte
    split at he
    · rename_i sz z ys rx hs hz hel
      split at he
      · rename_i hc0
        obtain ⟨h0, hhy, hzc⟩ := hc0
        obtain ⟨news, hflat, hnews⟩ := elems_ok (P := P) hr hvx hel hhy h0
        split at he
        · rename_i xs
          split at he
          · rename_i hc1
            obtain ⟨hhx, hbytes⟩ := hc1
            obtain ⟨olds, hflato, holds⟩ := elems_ok (P := P) hr hvs (show elemsOf h (.clip xs) = some (xs, []) from rfl) hhx h0
            have hvs' := hvs
            unfold VA at hvs'
            obtain ⟨a, rfl, hrow⟩ := hvs'
            by_cases hy : ys = []
            · subst hy
              have hne : news = [] := List.length_eq_zero_iff.1 (by rw [hflat.1]; simp)
              subst hne
              have hrun : (Builtin.append_ #[t, t'] ty #[.slice a xs.length xs.length, vx]).run P w = .ok (.slice a (xs.length + 0) xs.length) w :=
                run_app_room ht hu hd hs a [] (hnews w fun _ => rfl).1 (hnews w fun _ => rfl).2 (by simp) (fun ad _ => rfl) (fun _ => rfl)
              split at he
              · simp only [Option.some.injEq] at he
                subst he
                exact ⟨_, w, hrun, Steps.still hr rfl hvs⟩
              · rename_i hb
                simp only [Option.some.injEq] at he
                subst he
                have hxe : xs = [] := by simpa using hb
                subst hxe
                refine ⟨_, w, hrun, ι, S, Mono.refl _ _ _, ?_, hr.empty id sz false⟩
                show VA _ _ _ (.sl _ _ _ _) _
                unfold VA
                exact ⟨a, 0, rfl, by simp, Or.inl rfl⟩
            · have hyb : (ys.isEmpty && !xs.isEmpty) = false := by cases ys <;> simp_all
              rw [hyb] at he
              simp only [Bool.false_eq_true, if_false, Option.some.injEq] at he
              subst he
              have hpos : 0 < ys.length := List.length_pos_iff.2 hy
              obtain ⟨u, w', ι', S', h1, h2, h3, h4⟩ := grow_ok (id := id) (ty := ty) hr ht hu hd hs hz hzc hflato hflat false (hnews w fun _ => rfl).1 (hnews w.drew fun _ => rfl).2 (holds w.drew fun _ => rfl).2 (by omega) hbytes
              exact ⟨u, w', h1, ι', S', h2, h3, h4⟩
          · cases he
        · rename_i i ver off len
          split at he
          · rename_i v n xs fz ho
            split at he
            · rename_i hc1
              obtain ⟨rfl, hmark, rfl, hbytes⟩ := hc1
              simp only [Option.some.injEq] at he
              subst he
              have hk : RelH E ι S (upd h i (.no v)) w := by have := hr.kill i; rw [ho] at this; exact this
              have hver : (upd h i (.no v) id).ver = (h id).ver := by
                unfold upd
                split
                · rename_i e; subst e; rw [ho]; rfl
                · rfl
              have htl : (xs.drop off).length = len := by rw [List.length_drop]; omega
              have hsel : elemsOf h (.sl i v off len) = some (xs.drop off, [i]) := by
                simp only [elemsOf, ho]
                rw [if_pos ⟨trivial, by omega⟩, List.take_of_length_le (by omega)]
              obtain ⟨olds, hflato, holds⟩ := elems_ok (P := P) hr hvs hsel (vec_headOk hr ho off) h0
              have hvs' := hvs
              unfold VA at hvs'
              obtain ⟨a, cap, rfl, hlc, hloc⟩ := hvs'
              by_cases hroom : len + ys.length ≤ cap
              · by_cases hcap : cap = 0
                · subst hcap
                  have hy : ys = [] := List.length_eq_zero_iff.1 (by omega)
                  have hl0 : len = 0 := by omega
                  subst hy hl0
                  have hne : news = [] := List.length_eq_zero_iff.1 (by rw [hflat.1]; simp)
                  subst hne
                  have hxe : xs.drop off = [] := List.length_eq_zero_iff.1 htl
                  have hrun : (Builtin.append_ #[t, t'] ty #[.slice a 0 0, vx]).run P w = .ok (.slice a (0 + 0) 0) w :=
                    run_app_room ht hu hd hs a [] (hnews w fun _ => rfl).1 (hnews w fun _ => rfl).2 (by simp) (fun ad _ => rfl) (fun _ => rfl)
                  refine ⟨_, w, hrun, ι, S, Mono.refl _ _ _, ?_, ?_⟩
                  · show VA _ _ _ (.sl _ _ _ _) _
                    unfold VA
                    exact ⟨a, 0, rfl, by simp, Or.inl rfl⟩
                  · show RelH E ι S (upd (upd h i (.no v)) id (.vec ((h id).ver + 1) n (xs.drop off ++ []) fz)) w
                    rw [hxe, ← hver]
                    exact hk.empty id n fz
                · rcases hloc with hloc | ⟨L, hL, rfl, hlim⟩
                  · exact absurd hloc hcap
                  · have hob := hr.objs i
                    rw [ho] at hob
                    rcases hob with ⟨_, g⟩ | ⟨L', g1, g2, g3, g4, g5, g6, g7, g8, g9, g10⟩
                    · rw [hL] at g; cases g
                    · rw [hL] at g1
                      cases g1
                      subst g2
                      have e0 : L.st + off * L.n + len * L.n = L.st + xs.length * L.n := by rw [← hmark, Nat.add_mul]; omega
                      have hnl : news.length = ys.length * L.n := hflat.1
                      have hfit : xs.length * L.n + ys.length * L.n ≤ L.lim * L.n := by
                        rw [← Nat.add_mul]; exact Nat.mul_le_mul_right _ (by omega)
                      have hcell : ∀ j, j < news.length → (w.cell? ⟨L.b, L.st + xs.length * L.n + j, none⟩).isSome = true ∧ w.frozen? ⟨L.b, L.st + xs.length * L.n + j, none⟩ = false := fun j hj => g6 _ (by omega) (by omega)
                      have hst : (storeCells ((⟨L.b, L.st + off * L.n, none⟩ : Addr).add (len * L.n)) news).run P w = .ok () (w.setCells L.b (L.st + xs.length * L.n) news) := by
                        rw [add_at, e0]
                        have := run_storeCells_cells (P := P) L.b (L.st + xs.length * L.n) news 0 w (fun j hj => by rw [Nat.add_zero]; exact (hcell j hj).1) (fun j hj => by rw [Nat.add_zero]; exact (hcell j hj).2) hflat.2.1
                        rw [Nat.add_zero] at this
                        exact this
                      have hrun := run_app_room (ty := ty) ht hu hd hs (some ⟨L.b, L.st + off * L.n, none⟩) news (hnews w fun _ => rfl).1 (hnews w fun _ => rfl).2 hroom (fun ad e => by cases e; exact hst) (fun e => by cases e)
                      have hin : ∀ j, j < news.length → (w.setCells L.b (L.st + xs.length * L.n) news).cell? ⟨L.b, L.st + xs.length * L.n + j, none⟩ = news[j]? := fun j hj => by
                        rw [World.cell?_setCells_in L.b news _ w (fun k hk => (hcell k hk).1) j hj, List.getElem?_eq_getElem hj]
                      have hout : ∀ b o, (b = L.b → o < L.st + xs.length * L.n ∨ L.st + xs.length * L.n + news.length ≤ o) → (w.setCells L.b (L.st + xs.length * L.n) news).cell? ⟨b, o, none⟩ = w.cell? ⟨b, o, none⟩ := fun b o hbo => World.cell?_setCells_out _ _ _ _ _ (fun e _ => hbo e)
                      let S' : Sb := if fz then addS S L.b (L.st + xs.length * L.n) (L.st + xs.length * L.n + news.length) else S
                      have hsub : ∀ b o, S b o → S' b o := fun b o hs => by
                        show (if fz then addS S _ _ _ else S) b o
                        cases fz
                        · exact hs
                        · exact Or.inl hs
                      have hback : ∀ b o, S' b o → S b o ∨ (fz = true ∧ b = L.b ∧ L.st + xs.length * L.n ≤ o ∧ o < L.st + xs.length * L.n + news.length) := fun b o hs => by
                        change (if fz then addS S L.b (L.st + xs.length * L.n) (L.st + xs.length * L.n + news.length) else S) b o at hs
                        cases fz
                        · exact Or.inl hs
                        · rcases hs with hs | ⟨h1, h2, h3⟩
                          · exact Or.inl hs
                          · exact Or.inr ⟨rfl, h1, h2, h3⟩
                      have hnoS : ∀ b o, S b o → b = L.b → o < L.st + xs.length * L.n ∨ L.st + xs.length * L.n + news.length ≤ o := fun b o hs e => by
                        subst e
                        rcases Nat.lt_or_ge o (L.st + xs.length * L.n) with h | h
                        · exact Or.inl h
                        · exact absurd hs (g8 o h)
                      have hnone : ι id ((h id).ver + 1) = none := hr.vers id _ (by omega)
                      let L2 : Loc := ⟨L.b, L.st + off * L.n, L.n, L.lim - off⟩
                      have m : Mono ι S w (ixNew ι id ((h id).ver + 1) L2) S' (w.setCells L.b (L.st + xs.length * L.n) news) :=
                        ⟨fun a b L' hL' => (ixNew_other (by rintro ⟨rfl, rfl⟩; rw [hnone] at hL'; cases hL')).trans hL', hsub, fun b o hs => hout b o (hnoS b o hs)⟩
                      obtain ⟨olds2, q1, q2⟩ := (g7.drop off).flat
                      have hol : olds2.length = len * L.n := by rw [q1.1, htl]
                      have hlay := hk.lay id (.vec ((h id).ver + 1) L.n (xs.drop off ++ ys) fz) L2 (by rw [hver]; rfl) (S' := S') (w' := w.setCells L.b (L.st + xs.length * L.n) news) m (by rw [size_setCells]; exact Nat.le_refl _) (below_setCells _ g3 _ _ _ hr.below) (by
                        refine Or.inr ⟨L2, ixNew_same _ _ _ _, rfl, g3, by rw [size_setCells]; exact g4, ?_, fun o h1 h2 => ?_, ?_, fun o h1 hs => ?_, fun hf o h1 hs => ?_, fun hf o h1 h2 => ?_⟩
                        · show (xs.drop off ++ ys).length ≤ L.lim - off
                          rw [List.length_append, htl]; omega
                        · have h1' : L.st + off * L.n ≤ o := h1
                          have h2' : o < L.st + off * L.n + (L.lim - off) * L.n := h2
                          have e3 : off * L.n + (L.lim - off) * L.n = L.lim * L.n := by rw [← Nat.add_mul]; congr 1; omega
                          have hg := g6 o (by omega) (by omega)
                          refine ⟨?_, by rw [World.frozen?_setCells]; exact hg.2⟩
                          show ((w.setCells L.b (L.st + xs.length * L.n) news).cell? ⟨L.b, o, none⟩).isSome = true
                          by_cases hr1 : L.st + xs.length * L.n ≤ o ∧ o < L.st + xs.length * L.n + news.length
                          · have := hin (o - (L.st + xs.length * L.n)) (by omega)
                            rw [show L.st + xs.length * L.n + (o - (L.st + xs.length * L.n)) = o by omega] at this
                            rw [this, List.getElem?_eq_getElem (by omega)]; rfl
                          · rw [hout _ _ (fun _ => by omega)]; exact hg.1
                        · refine ((q1.append hflat).mono m.sb m.cell).vec fun j u hj => ?_
                          show (w.setCells L.b (L.st + xs.length * L.n) news).cell? ⟨L.b, L.st + off * L.n + j, none⟩ = some u
                          by_cases hj' : j < olds2.length
                          · rw [List.getElem?_append_left hj'] at hj
                            rw [hout _ _ (fun _ => by omega)]
                            exact q2 j u hj
                          · have hjl := (List.getElem?_eq_some_iff.1 hj).1
                            rw [List.length_append] at hjl
                            rw [List.getElem?_append_right (by omega)] at hj
                            have := hin (j - olds2.length) (by omega)
                            rw [show L.st + xs.length * L.n + (j - olds2.length) = L.st + off * L.n + j by omega] at this
                            rw [this]; exact hj
                        · have h1' : L.st + off * L.n + (xs.drop off ++ ys).length * L.n ≤ o := h1
                          rw [List.length_append, htl, Nat.add_mul] at h1'
                          rcases hback _ _ hs with hs | ⟨_, _, _, hs⟩
                          · exact g8 o (by omega) hs
                          · omega
                        · have h1' : L.st + off * L.n ≤ o := h1
                          rcases hback _ _ hs with hs | ⟨hs, _⟩
                          · exact g9 hf o (by omega) hs
                          · rw [hf] at hs; cases hs
                        · have h1' : L.st + off * L.n ≤ o := h1
                          have h2' : o < L.st + off * L.n + (xs.drop off ++ ys).length * L.n := h2
                          rw [List.length_append, htl, Nat.add_mul] at h2'
                          show (if fz then addS S L.b (L.st + xs.length * L.n) (L.st + xs.length * L.n + news.length) else S) L.b o
                          rw [hf]
                          by_cases hlt : o < L.st + xs.length * L.n
                          · exact Or.inl (g10 hf o (by omega) hlt)
                          · exact Or.inr ⟨rfl, by omega, by omega⟩) (fun j Lj hji hl hLj => by
                        have hj : j ≠ i := by
                          rintro rfl
                          unfold upd at hl
                          rw [if_pos rfl] at hl
                          cases hl
                        have hjh : upd h i (.no v) j = h j := by unfold upd; rw [if_neg hj]
                        rw [hjh] at hl hLj
                        have hne := hr.apart j i Lj L hj hl (by rw [ho]; rfl) hLj (by rw [ho]; exact hL)
                        refine ⟨hne, fun p hs => ?_, fun p => ⟨hout _ _ (fun e => absurd e hne), World.frozen?_setCells _ _ _ _ _⟩⟩
                        rcases hback _ _ hs with hs | ⟨_, e, _⟩
                        · exact hs
                        · exact absurd e hne) (fun b p hs => by
                        rcases hback _ _ hs with hs | ⟨_, rfl, _⟩
                        · exact Or.inl hs
                        · exact Or.inr ⟨g3, by rw [size_setCells]; exact g4⟩)
                      refine ⟨_, _, hrun, _, _, m, ?_, hlay⟩
                      show VA _ _ _ (.sl _ _ _ _) _
                      unfold VA
                      exact ⟨_, cap, rfl, hroom, Or.inr ⟨L2, ixNew_same _ _ _ _, by simp [L2], by show 0 + cap ≤ L.lim - off; omega⟩⟩
              · have hho := holds w.drew (fun _ => rfl)
                rw [htl] at hho
                obtain ⟨u, w', ι', S', h1, h2, h3, h4⟩ := grow_ok (id := id) (ty := ty) (a := a) (sCap := cap) hk ht hu hd hs hz hzc hflato hflat fz (hnews w fun _ => rfl).1 (hnews w.drew fun _ => rfl).2 (by rw [htl]; exact hho.2) (by rw [htl]; omega) (by rw [htl]; exact hbytes)
                rw [htl] at h1 h3
                rw [hver] at h3 h4
                exact ⟨u, w', h1, ι', S', h2, h3, h4⟩
            · cases he
          · cases he
        · cases he
      · cases he
    · cases he

/-! ### bytes and texts -/
theorem bytesOfD_ns : ∀ {xs : List D} {l : List UInt8}, bytesOfD xs = some l → ∃ ns : List Int, xs = ns.map (fun n => D.s (.int .u8 n)) ∧ l = ns.map fun n => UInt8.ofNat n.toNat
  | [], l, h => by
    simp only [bytesOfD, Option.some.injEq] at h
    exact ⟨[], rfl, h.symm⟩
  | x :: xs, l, h => by
    unfold bytesOfD at h
    split at h
    · rename_i e; cases e
    · rename_i n xs' e
      cases e
      obtain ⟨l', h1, rfl⟩ := Option.map_eq_some_iff.1 h
      obtain ⟨ns, rfl, rfl⟩ := bytesOfD_ns h1
      exact ⟨n :: ns, rfl, rfl⟩
    · cases h
theorem foldl_push (ns : List Int) : ∀ r : ByteArray, ns.foldl (fun r n => r.push (UInt8.ofNat n.toNat)) r = ⟨r.data ++ (ns.map fun n => UInt8.ofNat n.toNat).toArray⟩ := by
  induction ns with
  | nil => intro r; simp
  | cons n ns ih =>
    intro r
    rw [List.foldl_cons, ih]
    simp [ByteArray.push]
theorem flat_bytes {S : Sb} {w : World} {ns : List Int} {news : List Value} (h : Flat S w 1 (ns.map (fun n => D.s (.int .u8 n))) news) : news = ns.map (Value.int .u8) := by
  obtain ⟨h1, _, h3⟩ := h
  simp only [List.length_map, Nat.mul_one] at h1
  apply List.ext_getElem?
  intro i
  by_cases hi : i < ns.length
  · obtain ⟨us, k1, k2, k3, k4⟩ := h3 i (.s (.int .u8 ns[i])) (by simp [hi])
    unfold CellsD at k3
    obtain ⟨rfl, _⟩ := k3
    have := k4 0 _ rfl
    rw [Nat.mul_one, Nat.add_zero] at this
    rw [this]
    simp [hi]
  · rw [List.getElem?_eq_none (by omega), List.getElem?_eq_none (by simp; omega)]
theorem convert_ok {P : Program} {E : Env} {ι : Ix} {S : Sb} {h : Nat → O} {w : World} (hr : RelH E ι S h w) {id : Nat} {src dst : TypeId} {x : A} {v : Value} (hv : VA ι S w x v) {e : Eff} (he : convertE P h id src dst x = some e) :
    ∃ u w', (convert src dst v).run P w = .ok u w' ∧ Steps E ι S h w e u w' := by
  unfold convertE at he
  split at he
  · rename_i el hsrc hdst
    split at he
    · cases he
    · rename_i xs rd hel hne hxs
      obtain ⟨l, h1, rfl⟩ := Option.map_eq_some_iff.1 he
      obtain ⟨ns, rfl, rfl⟩ := bytesOfD_ns h1
      have hh : headOk 1 (ns.map (fun n => D.s (.int .u8 n))) = true := by cases ns <;> rfl
      obtain ⟨news, hflat, hnews⟩ := elems_ok (P := P) hr hv hxs hh (by decide)
      have hn := flat_bytes hflat
      subst hn
      have hfc := (hnews w fun _ => rfl).2
      have hlo := (hnews w fun _ => rfl).1
      simp only [List.length_map] at hfc hlo
      have hsl : ∃ a cap, v = .slice a ns.length cap := by
        unfold elemsOf at hxs
        split at hxs
        · simp only [Option.some.injEq, Prod.mk.injEq] at hxs
          obtain ⟨a, cap, rfl, _⟩ := VA_lst.1 hv
          exact ⟨a, cap, by rw [hxs.1]; simp⟩
        · simp only [Option.some.injEq, Prod.mk.injEq] at hxs
          unfold VA at hv
          obtain ⟨a, rfl, _⟩ := hv
          exact ⟨a, ns.length, by rw [hxs.1]; simp⟩
        · unfold VA at hv
          obtain ⟨a, cap, rfl, _⟩ := hv
          rw [lenOf_slice] at hlo
          simp only [Result.ok.injEq, and_true] at hlo
          exact ⟨a, cap, by rw [hlo]⟩
        · rename_i s
          exact absurd rfl (hne _)
        · cases hxs
      obtain ⟨a, cap, rfl⟩ := hsl
      refine ⟨.string ⟨(ns.map fun n => UInt8.ofNat n.toNat).toArray⟩, w, ?_, Steps.still hr rfl ?_⟩
      · rw [run_convert_bytes_string w src dst el a ns.length cap hsrc hel hdst]
        cases a with
        | none =>
          have : ns = [] := by
            simp only [Builtin.firstCells, Sem.run_pure, Result.ok.injEq, and_true] at hfc
            have := congrArg Array.size hfc
            simp at this
            exact List.length_eq_zero_iff.1 this.symm
          subst this
          rfl
        | some ad =>
          have hl : (loadCells ad ns.length).run P w = .ok (ns.map (Value.int .u8)).toArray w := by
            simpa [Builtin.firstCells] using hfc
          rw [run_bytesToString w ad ns.length cap ns hl, foldl_push]
          simp [ByteArray.empty, ByteArray.emptyWithCapacity]
          rfl
      · show VA _ _ _ (.d (.s _)) _
        unfold VA ValD CellsD
        exact ⟨rfl, rfl⟩
    · cases he
  · rename_i el hsrc hdst
    split at he
    · rename_i s hel
      simp only [Option.some.injEq] at he
      subst he
      unfold VA ValD CellsD at hv
      simp only [List.cons.injEq, and_true] at hv
      obtain ⟨rfl, _⟩ := hv
      have hrun := run_bytes_of_string (P := P) w src dst el s hsrc hdst hel
      have hge := grownCap_ge w s.size 0 el
      have hsz : (bytesRow s (grownCap w s.size 0 el)).size = grownCap w s.size 0 el * 1 := by
        simp [bytesRow]; show s.data.size + _ = _; rw [show s.data.size = s.size from rfl]; omega
      have hflat : Flat S w 1 (s.data.toList.map fun b => D.s (.int .u8 b.toNat)) (s.data.toList.map fun b => .int .u8 b.toNat) := by
        refine ⟨by simp, fun u hu => ?_, fun i y hy => ?_⟩
        · obtain ⟨b, _, rfl⟩ := List.mem_map.1 hu; rfl
        · rw [List.getElem?_map] at hy
          obtain ⟨b, hb, rfl⟩ := Option.map_eq_some_iff.1 hy
          refine ⟨[.int .u8 b.toNat], rfl, rfl, by unfold CellsD; exact ⟨rfl, rfl⟩, fun j u hj => ?_⟩
          cases j with
          | zero =>
            simp only [List.getElem?_cons_zero, Option.some.injEq] at hj
            subst hj
            rw [Nat.mul_one, Nat.add_zero, List.getElem?_map, hb]; rfl
          | succ j => simp at hj
      obtain ⟨ι', S', m, v, r⟩ := newVec_ok hr id 1 _ _ false (bytesRow s (grownCap w s.size 0 el)) (grownCap w s.size 0 el) hflat (fun j u hj => by
        have hj' : j < (s.data.toList.map fun b => Value.int .u8 (b.toNat : Int)).length := (List.getElem?_eq_some_iff.1 hj).1
        simp only [List.length_map, Array.length_toList] at hj'
        unfold bytesRow
        rw [Array.getElem?_append_left (by simpa using hj')]
        simpa using hj) hsz (by simp; exact hge) (w' := w.drew.alloc (.cells (bytesRow s (grownCap w s.size 0 el)) el ((bytesRow s (grownCap w s.size 0 el)).size, (bytesRow s (grownCap w s.size 0 el)).size + 1)))
        ((Below.refl _ _).drew.alloc (Nat.le_refl _) _) (by simp) (fun o => World.cell?_alloc_mark w.drew _ _ _ _) (fun o ho => by rw [show w.heap.size = w.drew.heap.size from rfl, World.frozen?_alloc_mark]; simp; omega)
      have hl : (s.data.toList.map fun b => D.s (.int .u8 b.toNat)).length = s.size := by simp
      rw [hl] at v
      exact ⟨_, _, hrun, ι', S', m, v, r⟩
    · cases he
  · cases he
end Go.Proofs.YtkflfgkmbgjohaaDoor
