/-
  WHAT IS PROVED HERE: what the program's Show answers (showV), and its guess of a text (guessV), in whatever world that holds the library's tables.
-/
import Derived.Test.YtkflfgkmbgjohaaDoorPlainV02
import Derived.Test.YtkflfgkmbgjohaaDoorRows
import Derived.WalkSpells
import Derived.WalkLawsBesides
import Derived.Deep.QuietTactic
import Derived.BigQuiet
import Derived.Test.YtkflfgkmbgjohaaDoorPlain02
import Derived.Test.YtkflfgkmbgjohaaDoorShelf
import Derived.Shelf.Strconv.Itoa3
import Derived.Shelf.Strconv.ErrVarAll
import Derived.Shelf.Unicode.PredsPay
import Derived.Maps.OwnSet
import Derived.WalkSmall
set_option linter.unusedVariables false
set_option linter.unusedSimpArgs false
namespace Go.Proofs.YtkflfgkmbgjohaaDoor
open Go.RowKit

def tabName : String := ((Rows.valueTellsRow.laid[2]?).map (fun x => x.1)).getD default
/-- What the library's tables and error values are. -/
structure W2 (w : World) : Prop where
  tab : Lib.TabIs Tryd.prog w tabName .u64 Lib.pow10Tab
  most : ∃ m, w.cell? ⟨1, 0, none⟩ = some (.int .i64 m)
  syn : ∃ tp p, w.var? Tryd.prog "strconv.ErrSyntax" = some #[.iface tp p]
  rng : ∃ tp p, w.var? Tryd.prog "strconv.ErrRange" = some #[.iface tp p]
  room : 4 < w.heap.size ∧ 5 < w.heap.size
theorem W2.ext {w w' : World} (h : W2 w) (hx : Ext w w') : W2 w' := by
  obtain ⟨m, hm⟩ := h.most
  obtain ⟨t1, p1, h1⟩ := h.syn
  obtain ⟨t2, p2, h2⟩ := h.rng
  have hr := h.room
  have hz := hx.size
  exact ⟨TabIs_below (by kernel_rfl : Tryd.prog.globalNamed tabName = some 0) h.tab hx, ⟨m, hx.cell hm⟩, ⟨t1, p1, var?_below hx (by kernel_rfl : Tryd.prog.globalNamed "strconv.ErrSyntax" = some 4) (by omega) h1⟩, ⟨t2, p2, var?_below hx (by kernel_rfl : Tryd.prog.globalNamed "strconv.ErrRange" = some 5) (by omega) h2⟩, by omega, by omega⟩

theorem Ext.grow (w : World) (os : Array Obj) : Ext w (Sort.grow w os) := by
  refine ⟨rfl, rfl, rfl, ?_, ?_⟩
  · show w.heap.size ≤ (w.heap ++ os).size
    simp
  · intro b hb
    show (w.heap ++ os)[b]? = w.heap[b]?
    rw [Array.getElem?_append_left hb]

def showL (x : Val) : List UInt8 :=
  if x.kind = 0 then [110, 117, 108, 108] else if x.kind = 1 then Lib.itoa x.n else if x.kind = 2 then 39 :: (quoteL x.s.data.toList ++ [39]) else [63]
def showV (x : Val) : ByteArray := ⟨(showL x).toArray⟩

theorem run_check {P : Program} {k : TypeId} (hk : P.underlying k = some (.int .i64)) (w : World) (em : Bool) (x : Int) : (Instr.checkKey em 10000 k (.int .i64 x)).run P w = .ok () w := by
  unfold Instr.checkKey
  simp only [Sem.run_bind, run_underlying hk, Result.andThen]
  rfl
theorem run_find {P : Program} {k : TypeId} (hk : P.underlying k = some (.int .i64)) (w : World) (x : Int) (es : List MapEntry) (r : Option (Nat × Value)) (hn : Instr.findNow (.int .i64) (.int .i64 x) es 0 = some r) : (Instr.findKey k (.int .i64 x) es).run P w = .ok r w := by
  unfold Instr.findKey
  simp only [Sem.run_bind, run_underlying hk, Result.andThen, hn]
  rfl
theorem alloc_last (W : World) (o : Obj) (b : Nat) (hb : b = W.heap.size) : (W.alloc o).heap[b]? = some o := by
  subst hb
  show (W.heap.push o)[W.heap.size]? = some o
  simp
theorem alloc_set (W : World) (o o' : Obj) : (W.alloc o).heap.setIfInBounds W.heap.size o' = W.heap.push o' := by
  show (W.heap.push o).setIfInBounds W.heap.size o' = W.heap.push o'
  apply Array.ext_getElem?
  intro i
  by_cases h : i = W.heap.size
  · subst h; simp
  · rw [Array.getElem?_setIfInBounds_ne (fun e => h e.symm), Array.getElem?_push, Array.getElem?_push, if_neg h, if_neg h]
theorem run_insert {P : Program} {t k e : TypeId} (ht : P.underlying t = some (.map k e)) (hk : P.underlying k = some (.int .i64)) (W : World) (b : Nat) (hb : b = W.heap.size) (es : Array MapEntry) (clock : Nat) (x : Int) (v : Value)
    (hn : Instr.findNow (.int .i64) (.int .i64 x) es.toList 0 = some none) :
    (Instr.mapUpdate t (.map (some b)) (.int .i64 x) v).run P (W.alloc (.map es clock)) = .ok () (W.alloc (.map (es.push { key := .int .i64 x, val := v, born := clock }) (clock + 1))) := by
  have hb' := alloc_last W (.map es clock) b hb
  simp [Instr.mapUpdate, run_underlying ht, MapKept.run_getObj_map hb', run_check hk, run_find hk _ _ _ _ hn, MapKept.run_setObj_map _ hb', Result.andThen]
  subst hb
  rw [alloc_set]; rfl
theorem run_look {P : Program} {t k e : TypeId} (ht : P.underlying t = some (.map k e)) (hk : P.underlying k = some (.int .i64)) (W : World) (b : Nat) (hb : b = W.heap.size) (es : Array MapEntry) (clock : Nat) (x : Int) (i : Nat) (v : Value)
    (hn : Instr.findNow (.int .i64) (.int .i64 x) es.toList 0 = some (some (i, v))) :
    (Instr.lookup t (.map (some b)) (.int .i64 x) true).run P (W.alloc (.map es clock)) = .ok (.tuple #[v, .bool true]) (W.alloc (.map es clock)) := by
  have hb := alloc_last W (.map es clock) b hb
  simp [Instr.lookup, run_underlying ht, MapKept.run_getObj_map hb, run_check hk, run_find hk _ _ _ _ hn, Result.andThen]
theorem run_look_none {P : Program} {t k e : TypeId} (ht : P.underlying t = some (.map k e)) (hk : P.underlying k = some (.int .i64)) (z : Value) (hz : ∀ w, (zeroValue e).run P w = .ok z w) (W : World) (b : Nat) (hb : b = W.heap.size) (es : Array MapEntry) (clock : Nat) (x : Int)
    (hn : Instr.findNow (.int .i64) (.int .i64 x) es.toList 0 = some none) :
    (Instr.lookup t (.map (some b)) (.int .i64 x) true).run P (W.alloc (.map es clock)) = .ok (.tuple #[z, .bool false]) (W.alloc (.map es clock)) := by
  have hb := alloc_last W (.map es clock) b hb
  simp [Instr.lookup, run_underlying ht, MapKept.run_getObj_map hb, run_check hk, run_find hk _ _ _ _ hn, Result.andThen, hz]
theorem zero_fn (w : World) : (zeroValue 42).run Tryd.prog w = .ok .nilFunc w := by kernel_rfl
theorem str_of {a : ByteArray} {l : List UInt8} (h : a.data.toList = l) : a = ⟨l.toArray⟩ := by subst h; rfl
set_option maxHeartbeats 800000 in
theorem Show1_any (w : World) : Calls Tryd.prog 26 #[] w fun e w' => e = .returned (.string ⟨#[110, 117, 108, 108]⟩) ∧ Ext w w' := by
  go_enter Tryd.func26, Tryd.ntmps26
  go_wp2_with fail
  go_ret
  exact ⟨rfl, Ext.refl _⟩
set_option maxHeartbeats 800000 in
theorem Show2_any (b : Nat) (n : Int) (w : World) (h2 : W2 w) (hb : b < w.heap.size) (hn : w.cell? ⟨b, 1, none⟩ = some (.int .i64 n)) (h0 : -9223372036854775808 ≤ n) (h1 : n ≤ 9223372036854775807) :
    Calls Tryd.prog 27 #[.pointer (some ⟨b, 0, none⟩)] w fun e w' => e = .returned (.string ⟨(Lib.itoa n).toArray⟩) ∧ Ext w w' := by
  have H2 := hid h2
  clear h2
  go_enter Tryd.func27, Tryd.ntmps27
  go_wp2_with fail
  refine (Any.strconv_Itoa Tryd.laysM171 n h0 h1 _ H2.out.tab).mono ?_
  rintro e w1 ⟨rfl, j, os, rfl⟩
  go_wp2_with fail
  go_ret
  exact ⟨rfl, (Ext.drewN w j).trans (Ext.grow _ _)⟩
theorem replace_room (s : ByteArray) (hs : s.size ≤ 1000) : s.size + Lib.countB s ⟨#[39]⟩ * (⟨#[39, 39]⟩ : ByteArray).size ≤ 140737488355328 := by
  have := Lib.countB_le ⟨#[39]⟩ (by decide) s.size s (Nat.le_refl _)
  have e : (⟨#[39, 39]⟩ : ByteArray).size = 2 := rfl
  rw [e]; omega
set_option maxHeartbeats 800000 in
theorem Show3_any (b : Nat) (s : ByteArray) (w : World) (h2 : W2 w) (hb : b < w.heap.size) (hn : w.cell? ⟨b, 2, none⟩ = some (.string s)) (hs : s.size ≤ 1000) :
    Calls Tryd.prog 29 #[.pointer (some ⟨b, 0, none⟩)] w fun e w' => e = .returned (.string ⟨(39 :: (quoteL s.data.toList ++ [39])).toArray⟩) ∧ Ext w w' := by
  obtain ⟨m, hm⟩ := h2.most
  have HM := hid hm
  have HR := hid (replace_room s hs)
  clear h2 hm
  go_enter Tryd.func29, Tryd.ntmps29
  go_wp2_with fail
  refine (Tryd.strings_ReplaceAll s ⟨#[39]⟩ ⟨#[39, 39]⟩ m _ (by omega) HM.out (by decide) HR.out).mono ?_
  rintro e w1 ⟨rfl, x1⟩
  have e1 : Lib.replaceAll s.data.toList (⟨#[39]⟩ : ByteArray).data.toList (⟨#[39, 39]⟩ : ByteArray).data.toList = quoteL s.data.toList := replace_quote _
  rw [e1]
  have hql := quoteL_len s.data.toList
  have hsz : s.data.toList.length = s.size := Array.length_toList
  go_wp2_with fail
  go_ret
  exact ⟨congrArg (fun a => Ending.returned (.string a)) (str_of (by simp [ByteArray.data_append])), x1⟩
set_option maxRecDepth 100000 in
set_option maxHeartbeats 1600000 in
theorem Show_any (k n : Int) (s : ByteArray) (w : World) (h2 : W2 w) (hs : s.size ≤ 1000) (h0 : -9223372036854775808 ≤ n) (h1 : n ≤ 9223372036854775807) :
    Calls Tryd.prog 16 #[.agg #[.int .i64 k, .int .i64 n, .string s]] w fun e w' => e = .returned (.string (showV ⟨k, n, s⟩)) ∧ Ext w w' := by
  have hmm := @run_makeMap Tryd.prog
  have H2 := hid h2
  clear h2
  by_cases k0 : k = 0
  · subst k0
    go_enter Tryd.func16, Tryd.ntmps16
    go_wp2_with fail
    rw [run_insert Tryd.underlying45 Tryd.underlying3]
    case hn => rfl
    case hb => first | rfl | simp
    go_wp2_with fail
    rw [run_insert Tryd.underlying45 Tryd.underlying3]
    case hn => rfl
    case hb => first | rfl | simp
    go_wp2_with fail
    rw [run_insert Tryd.underlying45 Tryd.underlying3]
    case hn => rfl
    case hb => first | rfl | simp
    go_wp2_with fail
    rw [run_look Tryd.underlying45 Tryd.underlying3]
    case hn => rfl
    case hb => first | rfl | simp
    go_wp2_with fail
    refine (Show1_any _).mono ?_
    rintro e w1 ⟨rfl, x1⟩
    have X1 := hid (Ext.trans ((Ext.alloc w _).allocR _) x1)
    clear x1
    go_wp2_with fail
    go_ret
    exact ⟨rfl, X1.out⟩
  · by_cases k1 : k = 1
    · subst k1
      go_enter Tryd.func16, Tryd.ntmps16
      go_wp2_with fail
      rw [run_insert Tryd.underlying45 Tryd.underlying3]
      case hn => rfl
      case hb => first | rfl | simp
      go_wp2_with fail
      rw [run_insert Tryd.underlying45 Tryd.underlying3]
      case hn => rfl
      case hb => first | rfl | simp
      go_wp2_with fail
      rw [run_insert Tryd.underlying45 Tryd.underlying3]
      case hn => rfl
      case hb => first | rfl | simp
      go_wp2_with fail
      rw [run_look Tryd.underlying45 Tryd.underlying3]
      case hn => rfl
      case hb => first | rfl | simp
      go_wp2_with fail
      refine (Show2_any _ n _ (H2.out.ext ((Ext.alloc w _).allocR _)) (by simp; omega) (by simp [go_sem]) h0 h1).mono ?_
      rintro e w1 ⟨rfl, x1⟩
      have X1 := hid (Ext.trans ((Ext.alloc w _).allocR _) x1)
      clear x1
      go_wp2_with fail
      go_ret
      exact ⟨rfl, X1.out⟩
    · by_cases k2 : k = 2
      · subst k2
        go_enter Tryd.func16, Tryd.ntmps16
        go_wp2_with fail
        rw [run_insert Tryd.underlying45 Tryd.underlying3]
        case hn => rfl
        case hb => first | rfl | simp
        go_wp2_with fail
        rw [run_insert Tryd.underlying45 Tryd.underlying3]
        case hn => rfl
        case hb => first | rfl | simp
        go_wp2_with fail
        rw [run_insert Tryd.underlying45 Tryd.underlying3]
        case hn => rfl
        case hb => first | rfl | simp
        go_wp2_with fail
        rw [run_look Tryd.underlying45 Tryd.underlying3]
        case hn => rfl
        case hb => first | rfl | simp
        go_wp2_with fail
        refine (Show3_any _ s _ (H2.out.ext ((Ext.alloc w _).allocR _)) (by simp; omega) (by simp [go_sem]) hs).mono ?_
        rintro e w1 ⟨rfl, x1⟩
        have X1 := hid (Ext.trans ((Ext.alloc w _).allocR _) x1)
        clear x1
        go_wp2_with fail
        go_ret
        exact ⟨rfl, X1.out⟩
      · have hv : showV ⟨k, n, s⟩ = ⟨#[63]⟩ := by unfold showV showL; rw [if_neg k0, if_neg k1, if_neg k2]
        have HV := hid hv
        clear hv
        go_enter Tryd.func16, Tryd.ntmps16
        go_wp2_with fail
        rw [run_insert Tryd.underlying45 Tryd.underlying3]
        case hn => rfl
        case hb => first | rfl | simp
        go_wp2_with fail
        rw [run_insert Tryd.underlying45 Tryd.underlying3]
        case hn => rfl
        case hb => first | rfl | simp
        go_wp2_with fail
        rw [run_insert Tryd.underlying45 Tryd.underlying3]
        case hn => rfl
        case hb => first | rfl | simp
        go_wp2_with fail
        rw [run_look_none Tryd.underlying45 Tryd.underlying3 _ zero_fn]
        case hn => simp only [Instr.findNow, Instr.sameNow]; simp [beq_eq_false_iff_ne.2 k0, beq_eq_false_iff_ne.2 k1, beq_eq_false_iff_ne.2 k2]
        case hb => first | rfl | simp
        go_wp2_with fail
        go_ret
        exact ⟨by rw [HV.out]; rfl, (Ext.alloc w _).allocR _⟩
/-! ### guess -/
def guessV (s : ByteArray) : Val :=
  if s.toList = [110, 117, 108, 108] then ⟨0, 0, ⟨#[]⟩⟩
  else if Lib.hasPrefix s.data.toList [39] then ⟨2, 0, ⟨(Lib.replaceAll (Lib.trimSuffix (Lib.trimPrefix s.data.toList [39]) [39]) [39, 39] [39]).toArray⟩⟩
  else match Lib.atoiAll s.data.toList with
    | .ok v => ⟨1, v, ⟨#[]⟩⟩
    | _ => ⟨-1, 0, ⟨#[]⟩⟩
theorem trim_len (l p : List UInt8) : (Lib.trimSuffix l p).length ≤ l.length := by
  unfold Lib.trimSuffix; split
  · rw [List.length_take]; omega
  · exact Nat.le_refl _
theorem trimP_len (l p : List UInt8) : (Lib.trimPrefix l p).length ≤ l.length := by
  unfold Lib.trimPrefix; split
  · rw [List.length_drop]; omega
  · exact Nat.le_refl _
theorem replace_room2 (s : ByteArray) (hs : s.size ≤ 1000) : s.size + Lib.countB s ⟨#[39, 39]⟩ * (⟨#[39]⟩ : ByteArray).size ≤ 140737488355328 := by
  have := Lib.countB_le ⟨#[39, 39]⟩ (by decide) s.size s (Nat.le_refl _)
  have e : (⟨#[39]⟩ : ByteArray).size = 1 := rfl
  rw [e]; omega
theorem Ext.bytes (w : World) (t : TypeId) (l : ByteArray) : Ext w (Lib.bytesWorld w t l) := Lib.bytesWorld_below w t l
theorem setExt {w w' : World} (hx : Ext (w.alloc (.cells #[.int .i64 0, .int .i64 0, .string ⟨#[]⟩] 23)) w') (a b c : Value) : Ext w (((w'.setCell ⟨w.heap.size, 0, none⟩ a).setCell ⟨w.heap.size, 1, none⟩ b).setCell ⟨w.heap.size, 2, none⟩ c) :=
  (((Ext.trans (Ext.alloc w _) hx).setCell (by simp) _).setCell (by simp) _).setCell (by simp) _
set_option maxHeartbeats 1600000 in
theorem guess_any (s : ByteArray) (w : World) (h2 : W2 w) (hs : s.size ≤ 1000) :
    Calls Tryd.prog 32 #[.string s] w fun e w' => e = .returned (guessV s).v ∧ Ext w w' := by
  obtain ⟨m, hm⟩ := h2.most
  obtain ⟨t1, p1, hsyn⟩ := h2.syn
  obtain ⟨t2, p2, hrng⟩ := h2.rng
  have HM := hid (Ext.cell (Ext.alloc w (.cells #[.int .i64 0, .int .i64 0, .string ⟨#[]⟩] 23)) hm)
  have HG := hid (var?_below (Ext.alloc w (.cells #[.int .i64 0, .int .i64 0, .string ⟨#[]⟩] 23)) (by kernel_rfl : Tryd.prog.globalNamed "strconv.ErrSyntax" = some 4) h2.room.1 hsyn)
  have HR := hid (var?_below (Ext.alloc w (.cells #[.int .i64 0, .int .i64 0, .string ⟨#[]⟩] 23)) (by kernel_rfl : Tryd.prog.globalNamed "strconv.ErrRange" = some 5) h2.room.2 hrng)
  clear h2 hm hsyn hrng
  by_cases h1 : s.toList = [110, 117, 108, 108]
  · have hv : guessV s = ⟨0, 0, ⟨#[]⟩⟩ := by unfold guessV; rw [if_pos h1]
    have HV := hid hv
    clear hv
    have hb : (s.toList == [110, 117, 108, 108]) = true := by simp [h1]
    go_enter Tryd.func32, Tryd.ntmps32
    go_wp2_with fail
    refine bodyPost_ret (v := .agg #[.int .i64 (0), .int .i64 (0), .string ⟨#[]⟩]) (by simp [results, Tryd.results32, go_sem]) rfl ⟨by rw [HV.out]; rfl, Ext.alloc w _⟩
  · have hb : (s.toList == [110, 117, 108, 108]) = false := by simp [h1]
    by_cases hq : Lib.hasPrefix s.data.toList [39] = true
    · have hv : guessV s = ⟨2, 0, ⟨(Lib.replaceAll (Lib.trimSuffix (Lib.trimPrefix s.data.toList [39]) [39]) [39, 39] [39]).toArray⟩⟩ := by unfold guessV; rw [if_neg h1, if_pos hq]
      have HV := hid hv
      clear hv
      have hl1 := trimP_len s.data.toList [39]
      have hl2 := trim_len (Lib.trimPrefix s.data.toList [39]) [39]
      have hsz : s.data.toList.length = s.size := Array.length_toList
      have hr1 : (⟨(Lib.trimPrefix s.data.toList [39]).toArray⟩ : ByteArray).size ≤ 9223372036854775807 := by show (Lib.trimPrefix s.data.toList [39]).toArray.size ≤ _; rw [List.size_toArray]; omega
      have hr2 : (⟨(Lib.trimSuffix (Lib.trimPrefix s.data.toList [39]) [39]).toArray⟩ : ByteArray).size ≤ 1000 := by show (Lib.trimSuffix (Lib.trimPrefix s.data.toList [39]) [39]).toArray.size ≤ _; rw [List.size_toArray]; omega
      have HR1 := hid hr1
      have HR2 := hid hr2
      have HR3 := hid (replace_room2 _ hr2)
      clear hl1 hl2 hsz hr1 hr2
      go_enter Tryd.func32, Tryd.ntmps32
      go_wp2_with fail
      refine (Tryd.strings_CutPrefix s ⟨#[39]⟩ _).mono ?_
      rintro e w1 ⟨rfl, rfl⟩
      go_wp2_with fail
      refine (Tryd.strings_TrimSuffix _ ⟨#[39]⟩ _ HR1.out).mono ?_
      rintro e w1 ⟨rfl, rfl⟩
      go_wp2_with fail
      refine (Tryd.strings_ReplaceAll _ ⟨#[39, 39]⟩ ⟨#[39]⟩ m _ (by have := HR2.out; omega) HM.out (by decide) HR3.out).mono ?_
      rintro e w1 ⟨rfl, x1⟩
      have c0 := Ext.cell x1 (p := ⟨w.heap.size, 0, none⟩) (v := .int .i64 0) (by simp [go_sem])
      have c1 := Ext.cell x1 (p := ⟨w.heap.size, 1, none⟩) (v := .int .i64 0) (by simp [go_sem])
      have c2 := Ext.cell x1 (p := ⟨w.heap.size, 2, none⟩) (v := .string ⟨#[]⟩) (by simp [go_sem])
      have f0 := x1.frozen (p := ⟨w.heap.size, 0, none⟩) (by simp)
      have f1 := x1.frozen (p := ⟨w.heap.size, 1, none⟩) (by simp)
      have f2 := x1.frozen (p := ⟨w.heap.size, 2, none⟩) (by simp)
      simp [go_sem] at f0 f1 f2
      go_wp2_with fail
      refine bodyPost_ret (v := .agg #[.int .i64 (2), .int .i64 (0), .string ⟨(Lib.replaceAll (Lib.trimSuffix (Lib.trimPrefix s.data.toList [39]) [39]) [39, 39] [39]).toArray⟩]) (by simp [results, Tryd.results32, go_sem, c0, c1, c2]) rfl ⟨by rw [HV.out]; rfl, setExt x1 _ _ _⟩
    · have hqf : Lib.hasPrefix s.data.toList [39] = false := by simpa using hq
      rcases ha : Lib.atoiAll s.data.toList with v | _ | _
      ·
        have hv : guessV s = ⟨1, v, ⟨#[]⟩⟩ := by unfold guessV; rw [if_neg h1, if_neg hq, ha]
        have HV := hid hv
        have HA := hid ha
        clear hv ha
        go_enter Tryd.func32, Tryd.ntmps32
        go_wp2_with fail
        refine (Tryd.strings_CutPrefix s ⟨#[39]⟩ _).mono ?_
        rintro e w1 ⟨rfl, rfl⟩
        go_wp2_with fail
        refine (Tryd.strconv_Atoi_ok s (by omega) v HA.out _).mono ?_
        rintro e w1 ⟨rfl, hx⟩
        have x1 : Ext (w.alloc (.cells #[.int .i64 0, .int .i64 0, .string ⟨#[]⟩] 23)) w1 := by
          rcases hx with rfl | ⟨t, rfl⟩
          · exact Ext.refl _
          · exact Ext.bytes _ _ _
        clear hx
        have c0 := Ext.cell x1 (p := ⟨w.heap.size, 0, none⟩) (v := .int .i64 0) (by simp [go_sem])
        have c1 := Ext.cell x1 (p := ⟨w.heap.size, 1, none⟩) (v := .int .i64 0) (by simp [go_sem])
        have c2 := Ext.cell x1 (p := ⟨w.heap.size, 2, none⟩) (v := .string ⟨#[]⟩) (by simp [go_sem])
        have f0 := x1.frozen (p := ⟨w.heap.size, 0, none⟩) (by simp)
        have f1 := x1.frozen (p := ⟨w.heap.size, 1, none⟩) (by simp)
        have f2 := x1.frozen (p := ⟨w.heap.size, 2, none⟩) (by simp)
        simp [go_sem] at f0 f1 f2
        go_wp2_with fail
        refine bodyPost_ret (v := .agg #[.int .i64 (1), .int .i64 (v), .string ⟨#[]⟩]) (by simp [results, Tryd.results32, go_sem, c0, c1, c2]) rfl ⟨by rw [HV.out]; rfl, setExt x1 _ _ _⟩
      ·
        have hv : guessV s = ⟨-1, 0, ⟨#[]⟩⟩ := by unfold guessV; rw [if_neg h1, if_neg hq, ha]
        have HV := hid hv
        have HA := hid ha
        clear hv ha
        go_enter Tryd.func32, Tryd.ntmps32
        go_wp2_with fail
        refine (Tryd.strings_CutPrefix s ⟨#[39]⟩ _).mono ?_
        rintro e w1 ⟨rfl, rfl⟩
        go_wp2_with fail
        refine (Any.strconv_Atoi_syntax_var Tryd.laysC172 s (by omega) HA.out t1 p1 _ HG.out).mono ?_
        rintro e w1 ⟨N, rfl, _, _, x1⟩
        have c0 := Ext.cell x1 (p := ⟨w.heap.size, 0, none⟩) (v := .int .i64 0) (by simp [go_sem])
        have c1 := Ext.cell x1 (p := ⟨w.heap.size, 1, none⟩) (v := .int .i64 0) (by simp [go_sem])
        have c2 := Ext.cell x1 (p := ⟨w.heap.size, 2, none⟩) (v := .string ⟨#[]⟩) (by simp [go_sem])
        have f0 := x1.frozen (p := ⟨w.heap.size, 0, none⟩) (by simp)
        have f1 := x1.frozen (p := ⟨w.heap.size, 1, none⟩) (by simp)
        have f2 := x1.frozen (p := ⟨w.heap.size, 2, none⟩) (by simp)
        simp [go_sem] at f0 f1 f2
        go_wp2_with fail
        refine bodyPost_ret (v := .agg #[.int .i64 (-1), .int .i64 (0), .string ⟨#[]⟩]) (by simp [results, Tryd.results32, go_sem, c0, c1, c2]) rfl ⟨by rw [HV.out]; rfl, setExt x1 _ _ _⟩
      ·
        have hv : guessV s = ⟨-1, 0, ⟨#[]⟩⟩ := by unfold guessV; rw [if_neg h1, if_neg hq, ha]
        have HV := hid hv
        have HA := hid ha
        clear hv ha
        go_enter Tryd.func32, Tryd.ntmps32
        go_wp2_with fail
        refine (Tryd.strings_CutPrefix s ⟨#[39]⟩ _).mono ?_
        rintro e w1 ⟨rfl, rfl⟩
        go_wp2_with fail
        refine (Any.strconv_Atoi_range_var Tryd.laysC172 s (by omega) HA.out t2 p2 _ HR.out).mono ?_
        rintro e w1 ⟨N, rfl, _, _, x1⟩
        have c0 := Ext.cell x1 (p := ⟨w.heap.size, 0, none⟩) (v := .int .i64 0) (by simp [go_sem])
        have c1 := Ext.cell x1 (p := ⟨w.heap.size, 1, none⟩) (v := .int .i64 0) (by simp [go_sem])
        have c2 := Ext.cell x1 (p := ⟨w.heap.size, 2, none⟩) (v := .string ⟨#[]⟩) (by simp [go_sem])
        have f0 := x1.frozen (p := ⟨w.heap.size, 0, none⟩) (by simp)
        have f1 := x1.frozen (p := ⟨w.heap.size, 1, none⟩) (by simp)
        have f2 := x1.frozen (p := ⟨w.heap.size, 2, none⟩) (by simp)
        simp [go_sem] at f0 f1 f2
        go_wp2_with fail
        refine bodyPost_ret (v := .agg #[.int .i64 (-1), .int .i64 (0), .string ⟨#[]⟩]) (by simp [results, Tryd.results32, go_sem, c0, c1, c2]) rfl ⟨by rw [HV.out]; rfl, setExt x1 _ _ _⟩
end Go.Proofs.YtkflfgkmbgjohaaDoor
