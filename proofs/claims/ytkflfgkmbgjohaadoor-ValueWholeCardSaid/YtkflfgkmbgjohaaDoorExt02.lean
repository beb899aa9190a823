/-
  WHAT IS PROVED HERE: the two functions that were walked in the model itself (Show, guess), handed to the interpreter.
-/
import Derived.Test.YtkflfgkmbgjohaaDoorShow02
import Derived.Test.YtkflfgkmbgjohaaDoorSim4
set_option linter.unusedVariables false
set_option linter.unusedSimpArgs false
namespace Go.Proofs.YtkflfgkmbgjohaaDoor
open Go Go.RowKit

def encV (x : Val) : D := .agg [.s (.int .i64 x.kind), .s (.int .i64 x.n), .s (.string x.s)]
def showE : List D → Option R
  | [.agg [.s (.int .i64 k), .s (.int .i64 n), .s (.string s)]] => if s.size ≤ 1000 ∧ -9223372036854775808 ≤ n ∧ n ≤ 9223372036854775807 then some (.val (.s (.string (showV ⟨k, n, s⟩)))) else none
  | _ => none
def guessE : List D → Option R
  | [.s (.string s)] => if s.size ≤ 1000 then some (.val (encV (guessV s))) else none
  | _ => none
def ext2 : Exts := fun f => if f = 16 then some showE else if f = 32 then some guessE else none
theorem vals_one {S : Sb} {w : World} {x : D} {vs : Array Value} (h : ValDs S w [x] vs.toList) : ∃ v, vs = #[v] ∧ ValD S w x v := by
  obtain ⟨u, us, h1, h2, h3⟩ := h
  simp only [ValDs] at h3
  subst h3
  exact ⟨u, by apply Array.ext'; exact h1, h2⟩
theorem aggV_of {S : Sb} {w : World} {ys : List D} {us : List Value} {v : Value} (h : ValD S w (.agg ys) v) (he : D.exacts ys = some us) : v = .agg us.toArray := by
  obtain ⟨vs, rfl, h2⟩ := h
  rw [← exacts_spec he h2]
theorem enters_show : Enters Tryd.prog 16 := enters_of Tryd.func16 (by decide) rfl
theorem enters_guess : Enters Tryd.prog 32 := enters_of Tryd.func32 (by decide) rfl
theorem cells_str {S : Sb} {w : World} (s : ByteArray) : CellsD S w (.s (.string s)) [.string s] := by unfold CellsD; exact ⟨rfl, rfl⟩
theorem ext2_ok : ExtOk Tryd.prog W2 ext2 := by
  refine ⟨by kernel_rfl, fun w w' h hb => h.ext hb, fun f g ds r hf hg => ?_⟩
  unfold ext2 at hf
  split at hf
  · rename_i e
    subst e
    simp only [Option.some.injEq] at hf
    subst hf
    unfold showE at hg
    split at hg
    · rename_i k n s
      split at hg
      · rename_i hc
        simp only [Option.some.injEq] at hg
        subst hg
        refine ⟨enters_show, fun S w vs hI hS hvs => ?_⟩
        obtain ⟨v, rfl, hv⟩ := vals_one hvs
        obtain rfl := aggV_of hv rfl
        refine (Show_any k n s w hI hc.1 hc.2.1 hc.2.2).mono ?_
        rintro e w' ⟨rfl, hx⟩
        exact ⟨_, S, rfl, hx, fun _ _ h => h, fun b o h => ⟨Or.inl h, Nat.lt_of_lt_of_le (hS b o h) hx.size⟩, cells_str (S := S) (w := w') _⟩
      · cases hg
    · cases hg
  · split at hf
    · rename_i e
      subst e
      simp only [Option.some.injEq] at hf
      subst hf
      unfold guessE at hg
      split at hg
      · rename_i s
        split at hg
        · rename_i hc
          simp only [Option.some.injEq] at hg
          subst hg
          refine ⟨enters_guess, fun S w vs hI hS hvs => ?_⟩
          obtain ⟨v, rfl, hv⟩ := vals_one hvs
          unfold ValD CellsD at hv
          simp only [List.cons.injEq, and_true] at hv
          obtain ⟨rfl, _⟩ := hv
          refine (guess_any s w hI hc).mono ?_
          rintro e w' ⟨rfl, hx⟩
          refine ⟨_, S, rfl, hx, fun _ _ h => h, fun b o h => ⟨Or.inl h, Nat.lt_of_lt_of_le (hS b o h) hx.size⟩, ?_⟩
          show ValD S w' (encV (guessV s)) _
          refine ⟨_, rfl, ?_⟩
          unfold CellsL CellsL CellsL CellsL
          exact ⟨_, _, rfl, ⟨rfl, by unfold CellsD; exact ⟨rfl, rfl⟩⟩, _, _, rfl, ⟨rfl, by unfold CellsD; exact ⟨rfl, rfl⟩⟩, _, _, rfl, ⟨rfl, by unfold CellsD; exact ⟨rfl, rfl⟩⟩, rfl⟩
        · cases hg
      · cases hg
    · cases hf
theorem Show_ev (k n : Int) (s : ByteArray) (hs : s.size ≤ 1000) (h0 : -9223372036854775808 ≤ n) (h1 : n ≤ 9223372036854775807) : evr Tryd.prog ext2 16 [.agg [.s (.int .i64 k), .s (.int .i64 n), .s (.string s)]] = some (.val (.s (.string (showV ⟨k, n, s⟩)))) :=
  evr_ext (g := showE) rfl (by show (if _ then _ else _) = _; rw [if_pos ⟨hs, h0, h1⟩])
theorem guess_ev (s : ByteArray) (hs : s.size ≤ 1000) : evr Tryd.prog ext2 32 [.s (.string s)] = some (.val (encV (guessV s))) :=
  evr_ext (g := guessE) rfl (by show (if _ then _ else _) = _; rw [if_pos hs])
end Go.Proofs.YtkflfgkmbgjohaaDoor
