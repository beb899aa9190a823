/-
  WHAT IS PROVED HERE: the laws that what is shown is read back, and that nothing else is read, in the interpreter: each answers true.
-/
import Derived.Test.YtkflfgkmbgjohaaDoorVk02
import Derived.Test.YtkflfgkmbgjohaaDoorVl02
set_option linter.unusedVariables false
set_option linter.unusedSimpArgs false
namespace Go.Proofs.YtkflfgkmbgjohaaDoor
open Go Go.RowKit

attribute [local simp] bd23 ts23 ta23 fa23_0 fa23_1 fa23_2 tz23 eq23 ne23 ta3 ta9 ts3 ts9 ta4 ts4
attribute [local simp] ts5 ta5 tz5 te32 ts48 tb5 headOk_encB indexAddrE idxE te49
attribute [local simp] exb_eq bs_beq
theorem exactE_min (P : Program) (ev : Operand → A) (dst : Option Tmp) (x y : Operand) (t1 t2 ty : TypeId) (pos : String) (af : Array Edge) (g : Option (Nat × Bool)) : exactE P ev ⟨dst, .call ⟨.builtin .min, #[x, y], #[t1, t2]⟩, ty, pos, af, g⟩ = (match (ev x).exact, (ev y).exact with | some u, some v => (pureRun P (Builtin.min_ #[t1, t2] ty #[u, v])).map fun v => { v := ofV v } | _, _ => none) := by
  unfold exactE exactOp
  simp only [Op.operands, Call.operands]
  cases hx : (ev x).exact with
  | none => simp [hx, -A.exact]
  | some u =>
    cases hy : (ev y).exact with
    | none => simp [hx, hy, -A.exact]
    | some v =>
      simp only [execOp, resolve, invoke, builtin, hx, hy, Option.getD_some, pureRun_bind, pureRun_pure]
      simp [hx, hy, pureRun_bind, pureRun_pure, pureRun_map, -A.exact]
      cases pureRun P (Builtin.min_ #[t1, t2] ty #[u, v]) with
      | none => rfl
      | some _ => rfl
theorem min_int (P : Program) (ts : Array TypeId) (ty : TypeId) (k : IntKind) (a b : Int) : pureRun P (Builtin.min_ ts ty #[.int k a, .int k b]) = some (.int k (if b < a then b else a)) := rfl
attribute [local simp] exactE_min min_int
theorem min_cast (a b : Nat) : (if b < a then (b : Int) else (a : Int)) = ((min a b : Nat) : Int) := by split <;> omega
theorem size_gt {x : Val} (h : 300 < x.s.size) : rightV x = false := by
  cases hr : rightV x with
  | false => rfl
  | true => have := right_size hr; omega
set_option maxHeartbeats 4000000 in
set_option maxRecDepth 100000 in
theorem Back_ev (k n : Int) (s : ByteArray) (k2 n2 : Int) (s2 : ByteArray) (more : List UInt8) : evr Tryd.prog ext2 7 [.agg [.s (.int .i64 k), .s (.int .i64 n), .s (.string s)], .agg [.s (.int .i64 k2), .s (.int .i64 n2), .s (.string s2)], .lst (more.map encB)] = some (.val (.s (.bool true))) := by
  refine evr_body (n := 5) rfl (body_of _ _ _ _ Tryd.f7 _ _ _ Tryd.func7 rfl (by simp [Tryd.ntmps7]) (by decide) ?_)
  have haw := awake_ev
  by_cases b1 : 300 < s.size
  · have b1' : (300 : Int) < (s.size : Int) := by omega
    simp [Tryd.ntmps7, Tryd.results7, haw, b1']
  · have b1' : ¬ (300 : Int) < (s.size : Int) := by omega
    by_cases b2 : 300 < s2.size
    · have b2' : (300 : Int) < (s2.size : Int) := by omega
      simp [Tryd.ntmps7, Tryd.results7, haw, b1', b2']
    · have b2' : ¬ (300 : Int) < (s2.size : Int) := by omega
      by_cases b3 : 300 < more.length
      · have b3' : (300 : Int) < (more.length : Int) := by omega
        simp [Tryd.ntmps7, Tryd.results7, haw, b1', b2', b3']
      · have b3' : ¬ (300 : Int) < (more.length : Int) := by omega
        have e1 := Right_ev ext2 rfl k n s
        have e2 := Right_ev ext2 rfl k2 n2 s2
        cases hr1 : rightV ⟨k, n, s⟩ with
        | false =>
          rw [hr1] at e1
          simp [Tryd.ntmps7, Tryd.results7, haw, b1', b2', b3', e1]
        | true =>
          rw [hr1] at e1
          cases hr2 : rightV ⟨k2, n2, s2⟩ with
          | false =>
            rw [hr2] at e2
            simp [Tryd.ntmps7, Tryd.results7, haw, b1', b2', b3', e1, e2]
          | true =>
            rw [hr2] at e2
            have hn1 := right_n hr1
            have hn2 := right_n hr2
            dsimp only at hn1 hn2
            have e3 := Show_ev k n s (by omega) (by omega) (by omega)
            have e4 := Show_ev k2 n2 s2 (by omega) (by omega) (by omega)
            have e5 := Read_ev (showV ⟨k, n, s⟩) (show_size hr1)
            rw [read_back hr1] at e5
            simp only [readR, encV] at e5
            have e6 := Bytes_ev k n s (by omega) (by omega) (by omega)
            have e7 := Bytes_ev k2 n2 s2 (by omega) (by omega) (by omega)
            have hl1 := bytes_len hr1
            have hl2 := bytes_len hr2
            have e8 := GetV_ev (bytesV ⟨k, n, s⟩ ++ more) (by rw [List.length_append]; omega)
            unfold getVR at e8
            rw [get_bytes hr1 more] at e8
            simp only [encV] at e8
            rw [List.map_append] at e8
            have q1 := fun x y => eqV x y k n s k2 n2 s2
            have q2 := fun x y => neV x y k n s k n s
            have qs : sameV ⟨k, n, s⟩ ⟨k, n, s⟩ = true := (sameV_iff _ _).2 rfl
            rw [qs] at q2
            have hshow : ((showV ⟨k, n, s⟩).toList == (showV ⟨k2, n2, s2⟩).toList) = sameV ⟨k, n, s⟩ ⟨k2, n2, s2⟩ := by
              rw [Bool.eq_iff_iff, sameV_iff, beq_iff_eq]
              exact ⟨fun h => show_inj hr1 hr2 (toList_inj h), fun h => by rw [h]⟩
            have hbytes : ((bytesV ⟨k, n, s⟩).take (min (bytesV ⟨k, n, s⟩).length (bytesV ⟨k2, n2, s2⟩).length) == (bytesV ⟨k2, n2, s2⟩).take (min (bytesV ⟨k, n, s⟩).length (bytesV ⟨k2, n2, s2⟩).length)) = sameV ⟨k, n, s⟩ ⟨k2, n2, s2⟩ := by
              rw [Bool.eq_iff_iff, sameV_iff, beq_iff_eq]
              refine ⟨bytes_take hr1 hr2, fun h => ?_⟩
              rw [h]
            generalize showV ⟨k, n, s⟩ = t1 at *
            generalize showV ⟨k2, n2, s2⟩ = t2 at *
            generalize bytesV ⟨k, n, s⟩ = y1 at *
            generalize bytesV ⟨k2, n2, s2⟩ = y2 at *
            generalize sameV ⟨k, n, s⟩ ⟨k2, n2, s2⟩ = m at *
            have z1 : y1.length * 2 ≤ 70368744177664 := by omega
            have z2 : (y1.length + more.length) * 2 ≤ 70368744177664 := by omega
            have hm1 : min y1.length y2.length ≤ y1.length := Nat.min_le_left _ _
            have hm2 : min y1.length y2.length ≤ y2.length := Nat.min_le_right _ _
            generalize hmin : min y1.length y2.length = mn at *
            have hmc : (if y2.length < y1.length then (y2.length : Int) else (y1.length : Int)) = (mn : Int) := by rw [min_cast, hmin]
            have hmi1 : (mn : Int) ≤ (y1.length : Int) := by omega
            have hmi2 : (mn : Int) ≤ (y2.length : Int) := by omega
            have hm0 : (0 : Int) ≤ (mn : Int) := by omega
            have tb1 : bytesOfD ((y1.map encB).take mn) = some (y1.take mn) := by rw [← List.map_take, bytesOfD_encB]
            have tb2 : bytesOfD ((y2.map encB).take mn) = some (y2.take mn) := by rw [← List.map_take, bytesOfD_encB]
            have tk : List.take (y1.length + more.length) (y1.map encB ++ more.map encB) = y1.map encB ++ more.map encB := List.take_of_length_le (by simp)
            simp (maxSteps := 3000000) [Tryd.ntmps7, Tryd.results7, -eq23, -ne23, haw, b1', b2', b3', e1, e2, e3, e4, e5, e6, e7, e8, q1, q2, z1, z2, sliceE, boundE, maxOk, convertE, take_encB, hmc, hmi1, hmi2, hm0, hm1, hm2, tb1, tb2, hshow, bs_list, tk, hbytes]
            show raceFree _ _ = true
            kernel_rfl
def zV : Val := ⟨0, 0, ⟨#[]⟩⟩
set_option maxHeartbeats 4000000 in
set_option maxRecDepth 100000 in
theorem Whole_ev (s : ByteArray) (b : List UInt8) : evr Tryd.prog ext2 8 [.s (.string s), .lst (b.map encB)] = some (.val (.s (.bool true))) := by
  refine evr_body (n := 5) rfl (body_of _ _ _ _ Tryd.f8 _ _ _ Tryd.func8 rfl (by simp [Tryd.ntmps8]) (by decide) ?_)
  have haw := awake_ev
  by_cases b1 : 300 < s.size
  · have b1' : (300 : Int) < (s.size : Int) := by omega
    simp [Tryd.ntmps8, Tryd.results8, haw, b1']
  · have b1' : ¬ (300 : Int) < (s.size : Int) := by omega
    by_cases b2 : 300 < b.length
    · have b2' : (300 : Int) < (b.length : Int) := by omega
      simp [Tryd.ntmps8, Tryd.results8, haw, b1', b2']
    · have b2' : ¬ (300 : Int) < (b.length : Int) := by omega
      have e1 := Read_ev s (by omega)
      have e2 := GetV_ev b (by omega)
      have q0 := fun x y => eqV x y 0 0 ⟨#[]⟩ 0 0 ⟨#[]⟩
      have q9 := fun x y => neV x y 0 0 ⟨#[]⟩ 0 0 ⟨#[]⟩
      have qs : sameV ⟨0, 0, ⟨#[]⟩⟩ ⟨0, 0, ⟨#[]⟩⟩ = true := (sameV_iff _ _).2 rfl
      rw [qs] at q0 q9
      unfold getVR at e2
      cases hg : getV b with
      | none =>
        rw [hg] at e2
        simp only [encV] at e2
        cases hr : readV s with
        | none =>
          rw [hr] at e1
          simp only [readR, encV] at e1
          simp (maxSteps := 3000000) [Tryd.ntmps8, Tryd.results8, -eq23, -ne23, Go.undef, haw, b1', b2', e1, e2, q0, q9]
        | some x =>
          obtain ⟨k, n, t⟩ := x
          obtain ⟨h1, h2⟩ := read_some hr
          have hsz := right_size h1
          have hn := right_n h1
          dsimp only at hsz hn
          have e3 := Show_ev k n t (by omega) (by omega) (by omega)
          have e4 := Right_ev ext2 rfl k n t
          rw [h2] at e3
          rw [h1] at e4
          rw [hr] at e1
          simp only [readR, encV] at e1
          simp (maxSteps := 3000000) [Tryd.ntmps8, Tryd.results8, -eq23, -ne23, Go.undef, haw, b1', b2', e1, e2, q0, q9, e3, e4]
      | some p =>
        obtain ⟨w, m⟩ := p
        obtain ⟨kw, nw, tw⟩ := w
        obtain ⟨g1, rfl, r, g2⟩ := get_some hg
        rw [hg] at e2
        simp only [encV] at e2
        have gsz := right_size g1
        have gn := right_n g1
        dsimp only at gsz gn
        have e5 := Right_ev ext2 rfl kw nw tw
        rw [g1] at e5
        have e6 := Bytes_ev kw nw tw (by omega) (by omega) (by omega)
        have hpos : 1 ≤ (bytesV ⟨kw, nw, tw⟩).length := by unfold bytesV; rw [List.length_cons]; omega
        have htake : b.take (bytesV ⟨kw, nw, tw⟩).length = bytesV ⟨kw, nw, tw⟩ := by rw [g2]; exact List.take_left
        have hle : (bytesV ⟨kw, nw, tw⟩).length ≤ b.length := by rw [g2, List.length_append]; omega
        have tb1 : bytesOfD ((b.map encB).take (bytesV ⟨kw, nw, tw⟩).length) = some (bytesV ⟨kw, nw, tw⟩) := by rw [← List.map_take, htake, bytesOfD_encB]
        generalize bytesV ⟨kw, nw, tw⟩ = y at *
        have c1 : ¬ (y.length : Int) < 1 := by omega
        have c2 : ¬ (b.length : Int) < (y.length : Int) := by omega
        have c3 : (0 : Int) ≤ (y.length : Int) := by omega
        have c4 : (y.length : Int) ≤ (b.length : Int) := by omega
        have c5 : ¬ y = [] := by intro h; rw [h] at hpos; simp at hpos
        cases hr : readV s with
        | none =>
          rw [hr] at e1
          simp only [readR, encV] at e1
          simp (maxSteps := 3000000) [Tryd.ntmps8, Tryd.results8, -eq23, -ne23, Go.undef, haw, b1', b2', e1, e2, q0, q9, e5, e6, c1, c2, c3, c4, c5, hpos, hle, sliceE, boundE, maxOk, headOk_bytes, convertE, take_encB, bytesOfD_encB, tb1, bs_list]
          show raceFree _ _ = true
          kernel_rfl
        | some x =>
          obtain ⟨k, n, t⟩ := x
          obtain ⟨h1, h2⟩ := read_some hr
          have hsz := right_size h1
          have hn := right_n h1
          dsimp only at hsz hn
          have e3 := Show_ev k n t (by omega) (by omega) (by omega)
          have e4 := Right_ev ext2 rfl k n t
          rw [h2] at e3
          rw [h1] at e4
          rw [hr] at e1
          simp only [readR, encV] at e1
          simp (maxSteps := 3000000) [Tryd.ntmps8, Tryd.results8, -eq23, -ne23, Go.undef, haw, b1', b2', e1, e2, q0, q9, e3, e4, e5, e6, c1, c2, c3, c4, c5, hpos, hle, sliceE, boundE, maxOk, headOk_bytes, convertE, take_encB, bytesOfD_encB, tb1, bs_list]
          show raceFree _ _ = true
          kernel_rfl
end Go.Proofs.YtkflfgkmbgjohaaDoor
