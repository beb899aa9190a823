/-
  WHAT IS PROVED HERE: what Right, Less and Same answer, in the program and in the document.
-/
import Derived.Test.YtkflfgkmbgjohaaDoorSim3
import Derived.Test.YtkflfgkmbgjohaaDoorPlainV02
set_option linter.unusedVariables false
set_option linter.unusedSimpArgs false
namespace Go.Proofs.YtkflfgkmbgjohaaDoor
open Go Go.RowKit

attribute [local simp] bd23 ts23 ta23 fa23_0 fa23_1 fa23_2 eq23 ne23 ta3 ta9 ts3 ts9 ta4 ts4

theorem empty_beq (s : ByteArray) : (s == { data := #[] }) = decide (s.toList = []) := by
  rw [ByteArray.toList_eq]
  obtain ⟨⟨l⟩⟩ := s
  cases l with
  | nil => rfl
  | cons a l => rfl
theorem Right_ev (ext : Exts) (hx : ext 10 = none) (k n : Int) (s : ByteArray) : evr Tryd.prog ext 10 [.agg [.s (.int .i64 k), .s (.int .i64 n), .s (.string s)]] = some (.val (.s (.bool (rightV ⟨k, n, s⟩)))) := by
  refine evr_body (n := 5) hx (body_of _ _ _ _ Tryd.f10 _ _ _ Tryd.func10 rfl (by simp [Tryd.ntmps10]) (by decide) ?_)
  by_cases k0 : k = 0
  · subst k0
    by_cases h1 : n = 0
    · simp [Tryd.ntmps10, Tryd.results10, h1, rightV]
      exact empty_beq s
    · simp [Tryd.ntmps10, Tryd.results10, h1, rightV]
  · by_cases k1 : k = 1
    · subst k1
      by_cases hs : s.toList = []
      · by_cases h1 : -1099511627776 ≤ n
        · simp [Tryd.ntmps10, Tryd.results10, hs, h1, rightV]
        · simp [Tryd.ntmps10, Tryd.results10, hs, h1, rightV]
      · simp [Tryd.ntmps10, Tryd.results10, hs, rightV]
    · by_cases k2 : k = 2
      · subst k2
        by_cases h1 : n = 0
        · simp [Tryd.ntmps10, Tryd.results10, h1, rightV]
          omega
        · simp [Tryd.ntmps10, Tryd.results10, h1, rightV]
      · simp [Tryd.ntmps10, Tryd.results10, k0, k1, k2, rightV]
theorem RefRight_ev (ext : Exts) (hx : ext 11 = none) (k n : Int) (s : ByteArray) : evr Tryd.prog ext 11 [.agg [.s (.int .i64 k), .s (.int .i64 n), .s (.string s)]] = some (.val (.s (.bool (rightV ⟨k, n, s⟩)))) := by
  refine evr_body (n := 5) hx (body_of _ _ _ _ Tryd.f11 _ _ _ Tryd.func11 rfl (by simp [Tryd.ntmps11]) (by decide) ?_)
  by_cases k0 : k = 0
  · subst k0
    by_cases h1 : n = 0
    · simp [Tryd.ntmps11, Tryd.results11, h1, rightV]
      cases s.toList <;> rfl
    · simp [Tryd.ntmps11, Tryd.results11, h1, rightV]
  · by_cases k1 : k = 1
    · subst k1
      by_cases hs : s.toList = []
      · by_cases h1 : -1099511627776 ≤ n
        · simp [Tryd.ntmps11, Tryd.results11, hs, h1, rightV]
        · simp [Tryd.ntmps11, Tryd.results11, hs, h1, rightV]
      · simp [Tryd.ntmps11, Tryd.results11, hs, rightV]
    · by_cases k2 : k = 2
      · subst k2
        by_cases h1 : n = 0
        · simp [Tryd.ntmps11, Tryd.results11, h1, rightV]
          omega
        · simp [Tryd.ntmps11, Tryd.results11, h1, rightV]
      · simp [Tryd.ntmps11, Tryd.results11, k0, k1, k2, rightV]
theorem Less_ev (ext : Exts) (hx : ext 12 = none) (k n : Int) (s : ByteArray) (k2 n2 : Int) (s2 : ByteArray) : evr Tryd.prog ext 12 [.agg [.s (.int .i64 k), .s (.int .i64 n), .s (.string s)], .agg [.s (.int .i64 k2), .s (.int .i64 n2), .s (.string s2)]] = some (.val (.s (.bool (lessV ⟨k, n, s⟩ ⟨k2, n2, s2⟩)))) := by
  refine evr_body (n := 5) hx (body_of _ _ _ _ Tryd.f12 _ _ _ Tryd.func12 rfl (by simp [Tryd.ntmps12]) (by decide) ?_)
  by_cases h1 : k = k2
  · subst h1
    by_cases h2 : n = n2
    · subst h2
      simp [Tryd.ntmps12, Tryd.results12, lessV]
    · by_cases h3 : n < n2
      · simp [Tryd.ntmps12, Tryd.results12, h2, h3, lessV]
      · simp [Tryd.ntmps12, Tryd.results12, h2, h3, lessV]
  · by_cases h3 : k < k2
    · simp [Tryd.ntmps12, Tryd.results12, h1, h3, lessV]
    · simp [Tryd.ntmps12, Tryd.results12, h1, h3, lessV]
theorem RefLess_ev (ext : Exts) (hx : ext 13 = none) (k n : Int) (s : ByteArray) (k2 n2 : Int) (s2 : ByteArray) : evr Tryd.prog ext 13 [.agg [.s (.int .i64 k), .s (.int .i64 n), .s (.string s)], .agg [.s (.int .i64 k2), .s (.int .i64 n2), .s (.string s2)]] = some (.val (.s (.bool (lessV ⟨k, n, s⟩ ⟨k2, n2, s2⟩)))) := by
  refine evr_body (n := 5) hx (body_of _ _ _ _ Tryd.f13 _ _ _ Tryd.func13 rfl (by simp [Tryd.ntmps13]) (by decide) ?_)
  by_cases h1 : k = k2
  · subst h1
    by_cases h2 : n = n2
    · subst h2
      simp [Tryd.ntmps13, Tryd.results13, lessV]
    · by_cases h3 : n < n2
      · simp [Tryd.ntmps13, Tryd.results13, h2, h3, lessV]
      · simp [Tryd.ntmps13, Tryd.results13, h2, h3, lessV]
  · by_cases h3 : k < k2
    · simp [Tryd.ntmps13, Tryd.results13, h1, h3, lessV]
    · simp [Tryd.ntmps13, Tryd.results13, h1, h3, lessV]
end Go.Proofs.YtkflfgkmbgjohaaDoor
