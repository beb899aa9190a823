/-
  WHAT IS PROVED HERE: what Same, GetText, Bytes and Get answer, in the program and in the document: the same plain functions.
-/
import Derived.Test.YtkflfgkmbgjohaaDoorVe02
import Derived.Test.YtkflfgkmbgjohaaDoorVa02
import Derived.Test.YtkflfgkmbgjohaaDoorExt02
set_option linter.unusedVariables false
set_option linter.unusedSimpArgs false
namespace Go.Proofs.YtkflfgkmbgjohaaDoor
open Go Go.RowKit

attribute [local simp] bd23 ts23 ta23 fa23_0 fa23_1 fa23_2 tz23 eq23 ne23 ta3 ta9 ts3 ts9 ta4 ts4
attribute [local simp] ts5 ta5 tz5 te32 ts48 tb5 headOk_encB indexAddrE idxE
theorem bs_beq (s t : ByteArray) : (s == t) = decide (s.toList = t.toList) := by
  rw [ByteArray.toList_eq, ByteArray.toList_eq]
  obtain ⟨a⟩ := s
  obtain ⟨b⟩ := t
  show (a == b) = _
  rw [Bool.eq_iff_iff]
  simp [Array.toList_inj]
theorem Same_ev (k n : Int) (s : ByteArray) (k2 n2 : Int) (s2 : ByteArray) : evr Tryd.prog ext2 14 [.agg [.s (.int .i64 k), .s (.int .i64 n), .s (.string s)], .agg [.s (.int .i64 k2), .s (.int .i64 n2), .s (.string s2)]] = some (.val (.s (.bool (sameV ⟨k, n, s⟩ ⟨k2, n2, s2⟩)))) := by
  refine evr_body (n := 5) rfl (body_of _ _ _ _ Tryd.f14 _ _ _ Tryd.func14 rfl (by simp [Tryd.ntmps14]) (by decide) ?_)
  have h1 := Less_ev ext2 rfl k n s k2 n2 s2
  have h2 := Less_ev ext2 rfl k2 n2 s2 k n s
  rw [sameV_less]
  cases hb : lessV ⟨k, n, s⟩ ⟨k2, n2, s2⟩ <;> rw [hb] at h1 <;> simp [Tryd.ntmps14, Tryd.results14, h1, h2]
theorem RefSame2_ev (k n : Int) (s : ByteArray) (k2 n2 : Int) (s2 : ByteArray) : evr Tryd.prog ext2 15 [.agg [.s (.int .i64 k), .s (.int .i64 n), .s (.string s)], .agg [.s (.int .i64 k2), .s (.int .i64 n2), .s (.string s2)]] = some (.val (.s (.bool (sameV ⟨k, n, s⟩ ⟨k2, n2, s2⟩)))) := by
  refine evr_body (n := 5) rfl (body_of _ _ _ _ Tryd.f15 _ _ _ Tryd.func15 rfl (by simp [Tryd.ntmps15]) (by decide) ?_)
  simp [Tryd.ntmps15, Tryd.results15, sameV, bs_beq]
  rw [show (k == k2) = decide (k = k2) from by rw [Bool.eq_iff_iff]; simp, show (n == n2) = decide (n = n2) from by rw [Bool.eq_iff_iff]; simp]
/-- What GetText answers. -/
def getTextR (l : List UInt8) : List D :=
  match getTextL l with
  | some (t, k) => [.s (.string ⟨t.toArray⟩), .s (.int .i64 (k : Nat)), .s (.int .i64 0)]
  | none => [.s (.string ⟨#[]⟩), .s (.int .i64 0), .s (.int .i64 3)]
theorem bytesOfD_encB (l : List UInt8) : bytesOfD (l.map encB) = some l := by
  induction l with
  | nil => rfl
  | cons b l ih =>
    show (bytesOfD (l.map encB)).map (UInt8.ofNat (b.toNat : Int).toNat :: ·) = _
    rw [ih]
    simp
theorem take_drop_encB (l : List UInt8) (a b : Nat) : ((l.map encB).take a).drop b = ((l.take a).drop b).map encB := by rw [← List.map_take, ← List.map_drop]
theorem bytesOfD_td (l : List UInt8) (a b : Nat) : bytesOfD (((l.map encB).drop b).take a) = some ((l.drop b).take a) := by rw [← List.map_drop, ← List.map_take, bytesOfD_encB]
theorem beqInt (a b : Int) : (a == b) = decide (a = b) := by rw [Bool.eq_iff_iff]; simp
theorem getL_le {l : List UInt8} {u k : Nat} (h : getL l = some (u, k)) : k ≤ l.length := by
  obtain ⟨_, rfl, r, rfl⟩ := getL_some h
  rw [List.length_append]; omega
theorem GetText_ev (l : List UInt8) (hl : l.length ≤ 1000000) : evr Tryd.prog ext2 34 [.lst (l.map encB)] = some (.tup (getTextR l)) := by
  refine evr_body (n := 5) rfl (body_of _ _ _ _ Tryd.f34 _ _ _ Tryd.func34 rfl (by simp [Tryd.ntmps34]) (by decide) ?_)
  have hget := Get_ev ext2 rfl l (by omega)
  unfold getTextR getTextL
  cases hg : getL l with
  | none =>
    have e : getR l = [.s (.int .i64 0), .s (.int .i64 0), .s (.int .i64 3)] := by unfold getR; rw [hg]
    rw [e] at hget
    simp [Tryd.ntmps34, Tryd.results34, hget]
  | some p =>
    obtain ⟨u, k⟩ := p
    have e : getR l = [.s (.int .i64 (Lib.unzigzag u)), .s (.int .i64 (k : Nat)), .s (.int .i64 0)] := by unfold getR; rw [hg]
    rw [e] at hget
    have hk := getL_le hg
    have hu := (getL_some hg).1
    have hzb : -9223372036854775808 ≤ Lib.unzigzag u ∧ Lib.unzigzag u ≤ 9223372036854775807 := by unfold Lib.unzigzag; split <;> omega
    dsimp only
    generalize Lib.unzigzag u = z at *
    have hsub : IntKind.i64.wrap ((l.length : Int) - (k : Int)) = (l.length : Int) - (k : Int) := wrap_i64 (by omega) (by omega)
    by_cases h1 : z < 0
    · simp [Tryd.ntmps34, Tryd.results34, hget, h1]
    · by_cases h2 : (l.length : Int) - (k : Int) < z
      · simp [Tryd.ntmps34, Tryd.results34, hget, h1, h2, hsub]
      · have hadd : IntKind.i64.wrap ((k : Int) + z) = (k : Int) + z := wrap_i64 (by omega) (by omega)
        have s1 : (0 : Int) ≤ (k : Int) := by omega
        have s2 : (k : Int) ≤ (k : Int) + z := by omega
        have s3 : (k : Int) + z ≤ (l.length : Int) := by omega
        have s4 : ((k : Int) + z).toNat = k + z.toNat := by omega
        have s5 : 0 ≤ z := by omega
        have s6 : ((k + z.toNat : Nat) : Int) = (k : Int) + z := by omega
        have s7 : (l.take (k + z.toNat)).drop k = (l.drop k).take z.toNat := by rw [List.drop_take]; congr 1; omega
        simp [Tryd.ntmps34, Tryd.results34, hget, h1, h2, hsub, hadd, sliceE, boundE, maxOk, headOk_bytes, take_drop_encB, s1, s2, s3, s4, s5, s6, s7, convertE, bytesOfD_encB, bytesOfD_td]
theorem RefGetText_ev (l : List UInt8) (hl : l.length ≤ 1000000) : evr Tryd.prog ext2 36 [.lst (l.map encB)] = some (.tup (getTextR l)) := by
  refine evr_body (n := 5) rfl (body_of _ _ _ _ Tryd.f36 _ _ _ Tryd.func36 rfl (by simp [Tryd.ntmps36]) (by decide) ?_)
  have hget := RefGet_ev ext2 rfl rfl rfl rfl l hl
  unfold getTextR getTextL
  cases hg : getL l with
  | none =>
    have e : getR l = [.s (.int .i64 0), .s (.int .i64 0), .s (.int .i64 3)] := by unfold getR; rw [hg]
    rw [e] at hget
    simp [Tryd.ntmps36, Tryd.results36, hget]
  | some p =>
    obtain ⟨u, k⟩ := p
    have e : getR l = [.s (.int .i64 (Lib.unzigzag u)), .s (.int .i64 (k : Nat)), .s (.int .i64 0)] := by unfold getR; rw [hg]
    rw [e] at hget
    have hk := getL_le hg
    have hu := (getL_some hg).1
    have hzb : -9223372036854775808 ≤ Lib.unzigzag u ∧ Lib.unzigzag u ≤ 9223372036854775807 := by unfold Lib.unzigzag; split <;> omega
    dsimp only
    generalize Lib.unzigzag u = z at *
    have hsub : IntKind.i64.wrap ((l.length : Int) - (k : Int)) = (l.length : Int) - (k : Int) := wrap_i64 (by omega) (by omega)
    by_cases h1 : z < 0
    · simp [Tryd.ntmps36, Tryd.results36, hget, h1]
    · by_cases h2 : (l.length : Int) - (k : Int) < z
      · simp [Tryd.ntmps36, Tryd.results36, hget, h1, h2, hsub]
      · have hadd : IntKind.i64.wrap ((k : Int) + z) = (k : Int) + z := wrap_i64 (by omega) (by omega)
        have s1 : (0 : Int) ≤ (k : Int) := by omega
        have s2 : (k : Int) ≤ (k : Int) + z := by omega
        have s3 : (k : Int) + z ≤ (l.length : Int) := by omega
        have s4 : ((k : Int) + z).toNat = k + z.toNat := by omega
        have s5 : 0 ≤ z := by omega
        have s6 : ((k + z.toNat : Nat) : Int) = (k : Int) + z := by omega
        have s7 : (l.take (k + z.toNat)).drop k = (l.drop k).take z.toNat := by rw [List.drop_take]; congr 1; omega
        simp [Tryd.ntmps36, Tryd.results36, hget, h1, h2, hsub, hadd, sliceE, boundE, maxOk, headOk_bytes, take_drop_encB, s1, s2, s3, s4, s5, s6, s7, convertE, bytesOfD_encB, bytesOfD_td]
/-- A value's bytes. -/
def bytesV (x : Val) : List UInt8 := UInt8.ofNat (IntKind.u8.wrap x.kind).toNat :: (if x.kind = 1 then putL x.n else if x.kind = 2 then textL x.s.data.toList else [])
theorem u8_wrap (k : Int) : ((UInt8.ofNat (IntKind.u8.wrap k).toNat).toNat : Int) = IntKind.u8.wrap k := by
  have h : 0 ≤ IntKind.u8.wrap k ∧ IntKind.u8.wrap k < 256 := by simp [IntKind.wrap, IntKind.bits, IntKind.signed]; omega
  rw [UInt8.toNat_ofNat_of_lt' (by simp [UInt8.size]; omega)]
  omega
theorem encB_wrap (k : Int) : encB (UInt8.ofNat (IntKind.u8.wrap k).toNat) = .s (.int .u8 (IntKind.u8.wrap k)) := by unfold encB; rw [u8_wrap]
theorem Bytes_ev (k n : Int) (s : ByteArray) (hs : s.size ≤ 1000000) (h0 : -9223372036854775808 ≤ n) (h1 : n ≤ 9223372036854775807) : evr Tryd.prog ext2 22 [.agg [.s (.int .i64 k), .s (.int .i64 n), .s (.string s)]] = some (.fresh 1 ((bytesV ⟨k, n, s⟩).map encB)) := by
  refine evr_body (n := 5) rfl (body_of _ _ _ _ Tryd.f22 _ _ _ Tryd.func22 rfl (by simp [Tryd.ntmps22]) (by decide) ?_)
  have hput := Put_ev ext2 rfl n h0 h1
  have htxt := Text_ev ext2 rfl rfl s hs
  have hl : (putL n).length ≤ 10 := Lib.uvarint_length64 (zig_lt _ (by omega) (by omega))
  have hl2 : (putL (s.data.toList.length : Int)).length ≤ 10 := Lib.uvarint_length64 (zig_lt _ (by omega) (by have : s.data.toList.length = s.size := Array.length_toList; omega))
  have hsz : s.data.toList.length = s.size := Array.length_toList
  have hb : (1 + (putL n).length) * 2 ≤ 70368744177664 := by omega
  have ht : (textL s.data.toList).length ≤ 1000010 := by unfold textL; rw [List.length_append]; omega
  have hb2 : (1 + (textL s.data.toList).length) * 2 ≤ 70368744177664 := by omega
  unfold bytesV
  rw [List.map_cons, encB_wrap]
  by_cases k1 : k = 1
  · subst k1
    simp [Tryd.ntmps22, Tryd.results22, hput, hb]
    rw [take_encB]
    exact ⟨headOk_bytes _, by omega, by rw [if_pos (by omega)]⟩
  · by_cases k2 : k = 2
    · subst k2
      simp [Tryd.ntmps22, Tryd.results22, htxt, hb2]
      rw [take_encB]
      exact ⟨headOk_bytes _, by omega, by rw [if_pos (by omega)]⟩
    · simp [Tryd.ntmps22, Tryd.results22, k1, k2]
theorem RefBytes_ev (k n : Int) (s : ByteArray) (hs : s.size ≤ 1000000) (h0 : -9223372036854775808 ≤ n) (h1 : n ≤ 9223372036854775807) : evr Tryd.prog ext2 23 [.agg [.s (.int .i64 k), .s (.int .i64 n), .s (.string s)]] = some (.fresh 1 ((bytesV ⟨k, n, s⟩).map encB)) := by
  refine evr_body (n := 5) rfl (body_of _ _ _ _ Tryd.f23 _ _ _ Tryd.func23 rfl (by simp [Tryd.ntmps23]) (by decide) ?_)
  have hput := RefPut_ev ext2 rfl rfl n h0 h1
  have htxt := RefText_ev ext2 rfl rfl rfl s hs
  have hl : (putL n).length ≤ 10 := Lib.uvarint_length64 (zig_lt _ (by omega) (by omega))
  have hl2 : (putL (s.data.toList.length : Int)).length ≤ 10 := Lib.uvarint_length64 (zig_lt _ (by omega) (by have : s.data.toList.length = s.size := Array.length_toList; omega))
  have hsz : s.data.toList.length = s.size := Array.length_toList
  have hb : (1 + (putL n).length) * 2 ≤ 70368744177664 := by omega
  have ht : (textL s.data.toList).length ≤ 1000010 := by unfold textL; rw [List.length_append]; omega
  have hb2 : (1 + (textL s.data.toList).length) * 2 ≤ 70368744177664 := by omega
  unfold bytesV
  rw [List.map_cons, encB_wrap]
  by_cases k1 : k = 1
  · subst k1
    simp [Tryd.ntmps23, Tryd.results23, hput, hb]
    rw [take_encB]
    exact ⟨headOk_bytes _, by omega, by rw [if_pos (by omega)]⟩
  · by_cases k2 : k = 2
    · subst k2
      simp [Tryd.ntmps23, Tryd.results23, htxt, hb2]
      rw [take_encB]
      exact ⟨headOk_bytes _, by omega, by rw [if_pos (by omega)]⟩
    · simp [Tryd.ntmps23, Tryd.results23, k1, k2]
/-- The value with whose bytes some begin. -/
def getV (b : List UInt8) : Option (Val × Nat) :=
  match b with
  | [] => none
  | x :: r =>
    if x.toNat = 1 then (match getL r with | some (u, k) => if rightV ⟨1, Lib.unzigzag u, ⟨#[]⟩⟩ then some (⟨1, Lib.unzigzag u, ⟨#[]⟩⟩, k + 1) else none | none => none)
    else if x.toNat = 2 then (match getTextL r with | some (t, k) => if rightV ⟨2, 0, ⟨t.toArray⟩⟩ then some (⟨2, 0, ⟨t.toArray⟩⟩, k + 1) else none | none => none)
    else if rightV ⟨x.toNat, 0, ⟨#[]⟩⟩ then some (⟨x.toNat, 0, ⟨#[]⟩⟩, 1) else none
def getVR (b : List UInt8) : List D :=
  match getV b with
  | some (x, n) => [encV x, .s (.int .i64 (n : Nat)), .s (.int .i64 0)]
  | none => [encV ⟨0, 0, ⟨#[]⟩⟩, .s (.int .i64 0), .s (.int .i64 3)]
theorem getTextL_le {l t : List UInt8} {k : Nat} (h : getTextL l = some (t, k)) : k ≤ l.length := by
  obtain ⟨rfl, r, rfl⟩ := getTextL_some h
  rw [List.length_append]; omega
theorem headOk_cons8 (x : UInt8) (l : List UInt8) : headOk 1 (encB x :: l.map encB) = true := rfl
theorem GetV_ev (b : List UInt8) (hl : b.length ≤ 1000000) : evr Tryd.prog ext2 20 [.lst (b.map encB)] = some (.tup (getVR b)) := by
  refine evr_body (n := 5) rfl (body_of _ _ _ _ Tryd.f20 _ _ _ Tryd.func20 rfl (by simp [Tryd.ntmps20]) (by decide) ?_)
  unfold getVR getV
  cases b with
  | nil => simp [Tryd.ntmps20, Tryd.results20, encV]
  | cons x r =>
    rw [List.length_cons] at hl
    dsimp only
    have hpos : (0 : Int) < (r.length : Int) + 1 := by omega
    have hne : ¬ (r.length : Int) + 1 = 0 := by omega
    have h1le : (1 : Int) ≤ (r.length : Int) + 1 := by omega
    have hn0 : (0 : Int) ≤ (r.length : Int) + 1 := by omega
    have hi1 : IntKind.i64.wrap 1 = 1 := by decide
    have hi2 : IntKind.i64.wrap 2 = 2 := by decide
    have hxi : IntKind.i64.wrap (x.toNat : Int) = (x.toNat : Int) := wrap_i64 (by omega) (by have := x.toNat_lt; omega)
    by_cases k1 : x.toNat = 1
    · have hget := Get_ev ext2 rfl r (by omega)
      rw [if_pos k1]
      cases hg : getL r with
      | none =>
        have e : getR r = [.s (.int .i64 0), .s (.int .i64 0), .s (.int .i64 3)] := by unfold getR; rw [hg]
        rw [e] at hget
        dsimp only
        have hr := Right_ev ext2 rfl 1 0 ⟨#[]⟩
        simp [Tryd.ntmps20, Tryd.results20, hne, hpos, hxi, hi1, hi2, encB, sliceE, boundE, maxOk, headOk_cons8, encV, take_encB, h1le, k1, hget, hr]
      | some p =>
        obtain ⟨u, k⟩ := p
        have e : getR r = [.s (.int .i64 (Lib.unzigzag u)), .s (.int .i64 (k : Nat)), .s (.int .i64 0)] := by unfold getR; rw [hg]
        rw [e] at hget
        have hk := getL_le hg
        dsimp only
        have hr := Right_ev ext2 rfl 1 (Lib.unzigzag u) ⟨#[]⟩
        have hkw : IntKind.i64.wrap ((k : Int) + 1) = (k : Int) + 1 := wrap_i64 (by omega) (by omega)
        have hkw2 : IntKind.i64.wrap (1 + (k : Int)) = (k : Int) + 1 := by rw [wrap_i64 (by omega) (by omega)]; omega
        cases hv : rightV ⟨1, Lib.unzigzag u, ⟨#[]⟩⟩ with
        | true =>
          rw [hv] at hr
          simp [Tryd.ntmps20, Tryd.results20, hne, hpos, hxi, hi1, hi2, encB, sliceE, boundE, maxOk, headOk_cons8, encV, take_encB, h1le, k1, hget, hr, hkw, hkw2]
        | false =>
          rw [hv] at hr
          simp [Tryd.ntmps20, Tryd.results20, hne, hpos, hxi, hi1, hi2, encB, sliceE, boundE, maxOk, headOk_cons8, encV, take_encB, h1le, k1, hget, hr]
    · have k1' : ¬ (x.toNat : Int) = 1 := by omega
      rw [if_neg k1]
      by_cases k2 : x.toNat = 2
      · have hget := GetText_ev r (by omega)
        rw [if_pos k2]
        cases hg : getTextL r with
        | none =>
          have e : getTextR r = [.s (.string ⟨#[]⟩), .s (.int .i64 0), .s (.int .i64 3)] := by unfold getTextR; rw [hg]
          rw [e] at hget
          dsimp only
          have hr := Right_ev ext2 rfl 2 0 ⟨#[]⟩
          simp [Tryd.ntmps20, Tryd.results20, hne, hpos, hxi, hi1, hi2, encB, sliceE, boundE, maxOk, headOk_cons8, encV, take_encB, h1le, k2, hget, hr]
        | some p =>
          obtain ⟨t, k⟩ := p
          have e : getTextR r = [.s (.string ⟨t.toArray⟩), .s (.int .i64 (k : Nat)), .s (.int .i64 0)] := by unfold getTextR; rw [hg]
          rw [e] at hget
          have hk := getTextL_le hg
          dsimp only
          have hr := Right_ev ext2 rfl 2 0 ⟨t.toArray⟩
          have hkw : IntKind.i64.wrap ((k : Int) + 1) = (k : Int) + 1 := wrap_i64 (by omega) (by omega)
          have hkw2 : IntKind.i64.wrap (1 + (k : Int)) = (k : Int) + 1 := by rw [wrap_i64 (by omega) (by omega)]; omega
          cases hv : rightV ⟨2, 0, ⟨t.toArray⟩⟩ with
          | true =>
            rw [hv] at hr
            simp [Tryd.ntmps20, Tryd.results20, hne, hpos, hxi, hi1, hi2, encB, sliceE, boundE, maxOk, headOk_cons8, encV, take_encB, h1le, k2, hget, hr, hkw, hkw2]
          | false =>
            rw [hv] at hr
            simp [Tryd.ntmps20, Tryd.results20, hne, hpos, hxi, hi1, hi2, encB, sliceE, boundE, maxOk, headOk_cons8, encV, take_encB, h1le, k2, hget, hr]
      · have k2' : ¬ (x.toNat : Int) = 2 := by omega
        have hr := Right_ev ext2 rfl (x.toNat : Int) 0 ⟨#[]⟩
        rw [if_neg k2]
        cases hv : rightV ⟨(x.toNat : Int), 0, ⟨#[]⟩⟩ with
        | true =>
          rw [hv] at hr
          simp [Tryd.ntmps20, Tryd.results20, hne, hpos, hxi, hi1, hi2, encB, sliceE, boundE, maxOk, headOk_cons8, encV, take_encB, h1le, k1', k2', hr]
        | false =>
          rw [hv] at hr
          simp [Tryd.ntmps20, Tryd.results20, hne, hpos, hxi, hi1, hi2, encB, sliceE, boundE, maxOk, headOk_cons8, encV, take_encB, h1le, k1', k2', hr]
theorem RefGetV_ev (b : List UInt8) (hl : b.length ≤ 1000000) : evr Tryd.prog ext2 21 [.lst (b.map encB)] = some (.tup (getVR b)) := by
  refine evr_body (n := 5) rfl (body_of _ _ _ _ Tryd.f21 _ _ _ Tryd.func21 rfl (by simp [Tryd.ntmps21]) (by decide) ?_)
  unfold getVR getV
  cases b with
  | nil => simp [Tryd.ntmps21, Tryd.results21, encV]
  | cons x r =>
    rw [List.length_cons] at hl
    dsimp only
    have hpos : (0 : Int) < (r.length : Int) + 1 := by omega
    have hne : ¬ (r.length : Int) + 1 = 0 := by omega
    have h1le : (1 : Int) ≤ (r.length : Int) + 1 := by omega
    have hn0 : (0 : Int) ≤ (r.length : Int) + 1 := by omega
    have hi1 : IntKind.i64.wrap 1 = 1 := by decide
    have hi2 : IntKind.i64.wrap 2 = 2 := by decide
    have hxi : IntKind.i64.wrap (x.toNat : Int) = (x.toNat : Int) := wrap_i64 (by omega) (by have := x.toNat_lt; omega)
    by_cases k1 : x.toNat = 1
    · have hget := RefGet_ev ext2 rfl rfl rfl rfl r (by omega)
      rw [if_pos k1]
      cases hg : getL r with
      | none =>
        have e : getR r = [.s (.int .i64 0), .s (.int .i64 0), .s (.int .i64 3)] := by unfold getR; rw [hg]
        rw [e] at hget
        dsimp only
        have hr := RefRight_ev ext2 rfl 1 0 ⟨#[]⟩
        simp [Tryd.ntmps21, Tryd.results21, hne, hpos, hxi, hi1, hi2, encB, sliceE, boundE, maxOk, headOk_cons8, encV, take_encB, h1le, k1, hget, hr]
      | some p =>
        obtain ⟨u, k⟩ := p
        have e : getR r = [.s (.int .i64 (Lib.unzigzag u)), .s (.int .i64 (k : Nat)), .s (.int .i64 0)] := by unfold getR; rw [hg]
        rw [e] at hget
        have hk := getL_le hg
        dsimp only
        have hr := RefRight_ev ext2 rfl 1 (Lib.unzigzag u) ⟨#[]⟩
        have hkw : IntKind.i64.wrap ((k : Int) + 1) = (k : Int) + 1 := wrap_i64 (by omega) (by omega)
        have hkw2 : IntKind.i64.wrap (1 + (k : Int)) = (k : Int) + 1 := by rw [wrap_i64 (by omega) (by omega)]; omega
        cases hv : rightV ⟨1, Lib.unzigzag u, ⟨#[]⟩⟩ with
        | true =>
          rw [hv] at hr
          simp [Tryd.ntmps21, Tryd.results21, hne, hpos, hxi, hi1, hi2, encB, sliceE, boundE, maxOk, headOk_cons8, encV, take_encB, h1le, k1, hget, hr, hkw, hkw2]
        | false =>
          rw [hv] at hr
          simp [Tryd.ntmps21, Tryd.results21, hne, hpos, hxi, hi1, hi2, encB, sliceE, boundE, maxOk, headOk_cons8, encV, take_encB, h1le, k1, hget, hr]
    · have k1' : ¬ (x.toNat : Int) = 1 := by omega
      rw [if_neg k1]
      by_cases k2 : x.toNat = 2
      · have hget := RefGetText_ev r (by omega)
        rw [if_pos k2]
        cases hg : getTextL r with
        | none =>
          have e : getTextR r = [.s (.string ⟨#[]⟩), .s (.int .i64 0), .s (.int .i64 3)] := by unfold getTextR; rw [hg]
          rw [e] at hget
          dsimp only
          have hr := RefRight_ev ext2 rfl 2 0 ⟨#[]⟩
          simp [Tryd.ntmps21, Tryd.results21, hne, hpos, hxi, hi1, hi2, encB, sliceE, boundE, maxOk, headOk_cons8, encV, take_encB, h1le, k2, hget, hr]
        | some p =>
          obtain ⟨t, k⟩ := p
          have e : getTextR r = [.s (.string ⟨t.toArray⟩), .s (.int .i64 (k : Nat)), .s (.int .i64 0)] := by unfold getTextR; rw [hg]
          rw [e] at hget
          have hk := getTextL_le hg
          dsimp only
          have hr := RefRight_ev ext2 rfl 2 0 ⟨t.toArray⟩
          have hkw : IntKind.i64.wrap ((k : Int) + 1) = (k : Int) + 1 := wrap_i64 (by omega) (by omega)
          have hkw2 : IntKind.i64.wrap (1 + (k : Int)) = (k : Int) + 1 := by rw [wrap_i64 (by omega) (by omega)]; omega
          cases hv : rightV ⟨2, 0, ⟨t.toArray⟩⟩ with
          | true =>
            rw [hv] at hr
            simp [Tryd.ntmps21, Tryd.results21, hne, hpos, hxi, hi1, hi2, encB, sliceE, boundE, maxOk, headOk_cons8, encV, take_encB, h1le, k2, hget, hr, hkw, hkw2]
          | false =>
            rw [hv] at hr
            simp [Tryd.ntmps21, Tryd.results21, hne, hpos, hxi, hi1, hi2, encB, sliceE, boundE, maxOk, headOk_cons8, encV, take_encB, h1le, k2, hget, hr]
      · have k2' : ¬ (x.toNat : Int) = 2 := by omega
        have hr := RefRight_ev ext2 rfl (x.toNat : Int) 0 ⟨#[]⟩
        rw [if_neg k2]
        cases hv : rightV ⟨(x.toNat : Int), 0, ⟨#[]⟩⟩ with
        | true =>
          rw [hv] at hr
          simp [Tryd.ntmps21, Tryd.results21, hne, hpos, hxi, hi1, hi2, encB, sliceE, boundE, maxOk, headOk_cons8, encV, take_encB, h1le, k1', k2', hr]
        | false =>
          rw [hv] at hr
          simp [Tryd.ntmps21, Tryd.results21, hne, hpos, hxi, hi1, hi2, encB, sliceE, boundE, maxOk, headOk_cons8, encV, take_encB, h1le, k1', k2', hr]
end Go.Proofs.YtkflfgkmbgjohaaDoor
