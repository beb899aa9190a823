/-
  WHAT IS PROVED HERE: the laws of values, in the interpreter: each answers true.
-/
import Derived.Test.YtkflfgkmbgjohaaDoorVh02
set_option linter.unusedVariables false
set_option linter.unusedSimpArgs false
namespace Go.Proofs.YtkflfgkmbgjohaaDoor
open Go Go.RowKit

attribute [local simp] bd23 ts23 ta23 fa23_0 fa23_1 fa23_2 tz23 eq23 ne23 ta3 ta9 ts3 ts9 ta4 ts4
attribute [local simp] ts5 ta5 tz5 te32 ts48 tb5 headOk_encB indexAddrE idxE te49
theorem num_ev (n : Int) : evr Tryd.prog ext2 24 [.s (.int .i64 n)] = some (.val (.agg [.s (.int .i64 1), .s (.int .i64 n), .s (.string ⟨#[]⟩)])) := by
  refine evr_body (n := 5) rfl (body_of _ _ _ _ Tryd.f24 _ _ _ Tryd.func24 rfl (by simp [Tryd.ntmps24]) (by decide) ?_)
  simp [Tryd.ntmps24, Tryd.results24]
theorem str_ev (t : ByteArray) : evr Tryd.prog ext2 25 [.s (.string t)] = some (.val (.agg [.s (.int .i64 2), .s (.int .i64 0), .s (.string t)])) := by
  refine evr_body (n := 5) rfl (body_of _ _ _ _ Tryd.f25 _ _ _ Tryd.func25 rfl (by simp [Tryd.ntmps25]) (by decide) ?_)
  simp [Tryd.ntmps25, Tryd.results25]
theorem aw_put : putL 1 = [2] := by unfold putL; rw [show Lib.zigzag 1 = 2 from rfl, Lib.uvarint_small (by decide)]; rfl
theorem aw_bytes : bytesV ⟨1, 1, ⟨#[]⟩⟩ = [1, 2] := by
  have e : UInt8.ofNat (IntKind.u8.wrap 1).toNat = 1 := by decide
  unfold bytesV
  dsimp only
  rw [if_pos rfl, aw_put, e]
theorem aw_getL : getL [2, 9] = some (2, 1) := by
  have := getL_put 2 (by decide) [9]
  rw [Lib.uvarint_small (by decide)] at this
  exact this
theorem aw_get : getVR [1, 2, 9] = [encV ⟨1, 1, ⟨#[]⟩⟩, .s (.int .i64 2), .s (.int .i64 0)] := by
  have h1 : rightV ⟨1, Lib.unzigzag 2, ⟨#[]⟩⟩ = true := by simp [rightV, ByteArray.toList_eq, Lib.unzigzag]
  have h2 : getV [1, 2, 9] = some (⟨1, Lib.unzigzag 2, ⟨#[]⟩⟩, 2) := by
    unfold getV
    dsimp only
    rw [if_pos (show UInt8.toNat 1 = 1 from rfl), aw_getL]
    dsimp only
    rw [if_pos h1]
  unfold getVR
  rw [h2]
  rfl
theorem aw_guess : guessV ⟨#[39, 105, 116, 39, 39, 115, 39]⟩ = ⟨2, 0, ⟨#[105, 116, 39, 115]⟩⟩ := by
  unfold guessV
  rw [if_neg (by rw [ByteArray.toList_eq]; decide), if_pos (by decide)]
  have e : Lib.trimSuffix (Lib.trimPrefix (⟨#[39, 105, 116, 39, 39, 115, 39]⟩ : ByteArray).data.toList [39]) [39] = quoteL [105, 116, 39, 115] := by decide
  rw [e, replace_back]
theorem aw_show : showV ⟨2, 0, ⟨#[105, 116, 39, 115]⟩⟩ = ⟨#[39, 105, 116, 39, 39, 115, 39]⟩ := by decide
theorem aw_read : readR (readV ⟨#[39, 105, 116, 39, 39, 115, 39]⟩) = [encV ⟨2, 0, ⟨#[105, 116, 39, 115]⟩⟩, .s (.int .i64 0)] := by
  unfold readV
  rw [aw_guess, if_pos ⟨by simp [rightV, ByteArray.size], aw_show⟩]
  rfl
/-- What awake asks, and is told. -/
def awX : Orc := fun f ds =>
  if f = 24 then (match ds with | [.s (.int .i64 n)] => some (.val (.agg [.s (.int .i64 1), .s (.int .i64 n), .s (.string ⟨#[]⟩)])) | _ => none)
  else if f = 25 then (match ds with | [.s (.string t)] => some (.val (.agg [.s (.int .i64 2), .s (.int .i64 0), .s (.string t)])) | _ => none)
  else if f = 22 then (match ds with | [.agg [.s (.int .i64 1), .s (.int .i64 1), .s (.string ⟨⟨[]⟩⟩)]] => some (.fresh 1 [.s (.int .u8 1), .s (.int .u8 2)]) | _ => none)
  else if f = 20 then (match ds with | [.lst [.s (.int .u8 1), .s (.int .u8 2), .s (.int .u8 9)]] => some (.tup [encV ⟨1, 1, ⟨#[]⟩⟩, .s (.int .i64 2), .s (.int .i64 0)]) | _ => none)
  else if f = 18 then (match ds with | [.s (.string ⟨⟨[39, 105, 116, 39, 39, 115, 39]⟩⟩)] => some (.tup [encV ⟨2, 0, ⟨#[105, 116, 39, 115]⟩⟩, .s (.int .i64 0)]) | _ => none)
  else if f = 16 then (match ds with | [.agg [.s (.int .i64 2), .s (.int .i64 0), .s (.string ⟨⟨[105, 116, 39, 115]⟩⟩)]] => some (.val (.s (.string ⟨#[39, 105, 116, 39, 39, 115, 39]⟩))) | _ => none)
  else if f = 12 then (match ds with | [.agg [.s (.int .i64 k), .s (.int .i64 n), .s (.string ⟨⟨[]⟩⟩)], .agg [.s (.int .i64 k2), .s (.int .i64 n2), .s (.string ⟨⟨[]⟩⟩)]] => if k < k2 then some (.val (.s (.bool true))) else none | _ => none)
  else if f = 10 then (match ds with | [.agg [.s (.int .i64 1), .s (.int .i64 5), .s (.string ⟨⟨[]⟩⟩)]] => some (.val (.s (.bool true))) | _ => none)
  else if f = 14 then (match ds with | [.agg [.s (.int .i64 1), .s (.int .i64 5), .s (.string ⟨⟨[]⟩⟩)], .agg [.s (.int .i64 1), .s (.int .i64 5), .s (.string ⟨⟨[]⟩⟩)]] => some (.val (.s (.bool true))) | _ => none)
  else none
theorem awX_ok (f : FuncId) (ds : List D) (r : R) (h : awX f ds = some r) : Ev Tryd.prog ext2 f ds r := by
  apply evr_iff.1
  unfold awX at h
  split at h
  · rename_i e; subst e
    split at h
    · cases h; exact num_ev _
    · cases h
  split at h
  · rename_i e; subst e
    split at h
    · cases h; exact str_ev _
    · cases h
  split at h
  · rename_i e; subst e
    split at h
    · cases h
      have b1 := Bytes_ev 1 1 ⟨#[]⟩ (by decide) (by decide) (by decide)
      rw [aw_bytes] at b1
      exact b1
    · cases h
  split at h
  · rename_i e; subst e
    split at h
    · cases h
      have g1 := GetV_ev [1, 2, 9] (by decide)
      rw [aw_get] at g1
      exact g1
    · cases h
  split at h
  · rename_i e; subst e
    split at h
    · cases h
      have r1 := Read_ev ⟨#[39, 105, 116, 39, 39, 115, 39]⟩ (by decide)
      rw [aw_read] at r1
      exact r1
    · cases h
  split at h
  · rename_i e; subst e
    split at h
    · cases h
      have sh := Show_ev 2 0 ⟨#[105, 116, 39, 115]⟩ (by decide) (by decide) (by decide)
      rw [aw_show] at sh
      exact sh
    · cases h
  split at h
  · rename_i e; subst e
    split at h
    · rename_i k n k2 n2
      split at h
      · rename_i hlt
        cases h
        have l1 := Less_ev ext2 rfl k n ⟨#[]⟩ k2 n2 ⟨#[]⟩
        have e : lessV ⟨k, n, ⟨#[]⟩⟩ ⟨k2, n2, ⟨#[]⟩⟩ = true := (lessV_iff _ _).2 (Or.inl hlt)
        rw [e] at l1
        exact l1
      · cases h
    · cases h
  split at h
  · rename_i e; subst e
    split at h
    · cases h
      have i1 := Right_ev ext2 rfl 1 5 ⟨#[]⟩
      rw [show rightV ⟨1, 5, ⟨#[]⟩⟩ = true from by simp [rightV, ByteArray.toList_eq]] at i1
      exact i1
    · cases h
  split at h
  · rename_i e; subst e
    split at h
    · cases h
      have m1 := Same_ev 1 5 ⟨#[]⟩ 1 5 ⟨#[]⟩
      rw [show sameV ⟨1, 5, ⟨#[]⟩⟩ ⟨1, 5, ⟨#[]⟩⟩ = true from by simp [sameV]] at m1
      exact m1
    · cases h
  cases h
theorem awake_body : body Tryd.prog awX 20 9 [] = some (.val (.s (.bool true))) := by kernel_rfl
theorem awake_ev : evr Tryd.prog ext2 9 [] = some (.val (.s (.bool true))) := evr_iff.2 (.body _ _ _ awX 20 rfl awX_ok awake_body)
end Go.Proofs.YtkflfgkmbgjohaaDoor
