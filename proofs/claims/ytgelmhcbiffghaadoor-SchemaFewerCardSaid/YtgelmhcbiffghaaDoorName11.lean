/-
  WHAT IS PROVED HERE: what schema.Name and the document's Name answer at every text: both the same Lean function 'nameL'.
-/
import Derived.Test.YtgelmhcbiffghaaDoorData11
import Derived.Test.YtgelmhcbiffghaaDoorRows
import Derived.Test.YtgelmhcbiffghaaDoorShelf
import Derived.WalkSpells
import Derived.WalkLawsBesides
namespace Go.Proofs.YtgelmhcbiffghaaDoor
open Go.RowKit

def lowB (b : UInt8) : Bool := decide (97 ≤ b.toNat) && decide (b.toNat ≤ 122)
def wordB (b : UInt8) : Bool := lowB b || (decide (48 ≤ b.toNat) && decide (b.toNat ≤ 57)) || b == 95
/-- May this text be a name? -/
def nameL (l : List UInt8) : Bool := decide (1 ≤ l.length) && decide (l.length ≤ 12) && (l.head?.map lowB).getD false && l.all wordB

def letters : List UInt8 := [97, 98, 99, 100, 101, 102, 103, 104, 105, 106, 107, 108, 109, 110, 111, 112, 113, 114, 115, 116, 117, 118, 119, 120, 121, 122]
def words : List UInt8 := [97, 98, 99, 100, 101, 102, 103, 104, 105, 106, 107, 108, 109, 110, 111, 112, 113, 114, 115, 116, 117, 118, 119, 120, 121, 122, 48, 49, 50, 51, 52, 53, 54, 55, 56, 57, 95]

theorem allBytes (p : UInt8 → Prop) (h : ∀ n : Fin 256, p (UInt8.ofNat n.val)) (b : UInt8) : p b := by
  have := h ⟨b.toNat, b.toNat_lt⟩
  simpa using this
theorem words_contains (b : UInt8) : words.contains b = wordB b := by
  refine allBytes (fun b => words.contains b = wordB b) ?_ b
  decide +kernel
theorem letters_index (b : UInt8) : decide (0 ≤ Lib.indexByte letters b) = lowB b := by
  refine allBytes (fun b => decide (0 ≤ Lib.indexByte letters b) = lowB b) ?_ b
  decide +kernel
theorem dropWhile_nil {α : Type} (p : α → Bool) (l : List α) : (l.dropWhile p = []) ↔ l.all p = true := by
  induction l with
  | nil => simp
  | cons a l ih => simp only [List.dropWhile, List.all_cons]; cases h : p a <;> simp [ih]
theorem mem_takeWhile {α : Type} {p : α → Bool} {l : List α} {x : α} (h : x ∈ l.takeWhile p) : p x = true := by
  induction l with
  | nil => simp at h
  | cons a l ih =>
    simp only [List.takeWhile] at h
    cases hp : p a with
    | false => simp [hp] at h
    | true =>
      simp only [hp, List.mem_cons] at h
      rcases h with rfl | h
      · exact hp
      · exact ih h
theorem trim_nil (l : List UInt8) : (Lib.trimS l words == []) = l.all wordB := by
  have e : (words.contains ·) = wordB := funext words_contains
  unfold Lib.trimS Lib.trimLeftS Lib.trimRightS
  rw [e]
  rw [Bool.eq_iff_iff, beq_iff_eq, dropWhile_nil, List.all_reverse]
  have h : (l.reverse.dropWhile wordB).all wordB = true ↔ l.all wordB = true := by
    constructor
    · intro h
      rw [List.all_eq_true] at h ⊢
      intro x hx
      have hx' : x ∈ l.reverse.takeWhile wordB ++ l.reverse.dropWhile wordB := by rw [List.takeWhile_append_dropWhile]; simpa using hx
      rcases List.mem_append.1 hx' with h' | h'
      · exact mem_takeWhile h'
      · exact h x h'
    · intro h
      have : l.reverse.all wordB = true := by simpa using h
      rw [(dropWhile_nil wordB l.reverse).2 this]; rfl
  exact h

theorem toList_data (s : ByteArray) : s.toList = s.data.toList := ByteArray.toList_eq s
theorem size_toList (s : ByteArray) : s.toList.length = s.size := by rw [toList_data]; simp

theorem Trim_words (s : ByteArray) (w : World) (hs : s.size ≤ 9223372036854775807) :
    Calls Tryd.prog 20 #[.string s, .string ⟨#[97, 98, 99, 100, 101, 102, 103, 104, 105, 106, 107, 108, 109, 110, 111, 112, 113, 114, 115, 116, 117, 118, 119, 120, 121, 122, 48, 49, 50, 51, 52, 53, 54, 55, 56, 57, 95]⟩] w fun e w' => ∃ r : ByteArray, e = .returned (.string r) ∧ (r.toList == []) = s.toList.all wordB ∧ Ext w w' := by
  refine (Tryd.strings_Trim_set s ⟨words.toArray⟩ w hs (by decide) (ascii_of_all (by decide))).mono ?_
  rintro e w' ⟨rfl, hx⟩
  refine ⟨_, rfl, ?_, hx⟩
  rw [toList_data, toList_data]
  exact trim_nil _

theorem extract_one (s : ByteArray) (h : 1 ≤ s.size) : ∃ c, s.extract 0 1 = ⟨#[c]⟩ ∧ s.toList.head? = some c := by
  rw [toList_data]
  have hs : s.data.size = s.size := rfl
  refine ⟨s.data[0], ?_, ?_⟩
  · apply ByteArray.ext
    rw [ByteArray.data_extract]
    apply Array.ext
    · simp; omega
    · intro i h1 h2
      have : i = 0 := by simp at h2; omega
      subst this
      simp
  · rw [List.head?_eq_getElem?]
    simp

set_option maxHeartbeats 800000 in
theorem Name_any (s : ByteArray) (w : World) (hs : s.size ≤ maxLen) :
    Calls Tryd.prog 10 #[.string s] w fun e w' => e = .returned (.bool (nameL s.toList)) ∧ Ext w w' := by
  unfold maxLen at hs
  have hsz := size_toList s
  by_cases h0 : s.toList = []
  · have h0' : (!s.toList.isEmpty) = false := by simp [h0]
    have hr : nameL s.toList = false := by simp [nameL, h0]
    have Hr := hid hr
    clear hr hsz
    go_enter Tryd.func10, Tryd.ntmps10
    go_wp2_with fail
    go_ret
    exact ⟨ret_bool Hr.out.symm, Ext.refl _⟩
  · have h0' : (!s.toList.isEmpty) = true := by simp [h0]
    by_cases h1 : s.size ≤ 12
    · have h1' : decide ((s.size : Int) ≤ 12) = true := by simp; omega
      have Hsz := hid hsz
      clear hsz
      go_enter Tryd.func10, Tryd.ntmps10
      go_wp2_with fail
      refine (Trim_words s w (by omega)).mono ?_
      rintro e w1 ⟨r, rfl, hr, hx⟩
      cases hall : s.toList.all wordB
      · rw [hall] at hr
        have hr2 : ¬ r.toList = [] := by simpa using hr
        go_wp2_with fail
        go_ret
        exact ⟨ret_bool (by simp [nameL, hall]), hx⟩
      · rw [hall] at hr
        have hr2 : r.toList = [] := by simpa using hr
        have Hh := hid hall
        clear hall
        have hz : 1 ≤ s.size := by
          have := Hsz.out
          have h3 : s.toList.length ≠ 0 := by simpa using h0
          omega
        go_wp2_with fail
        obtain ⟨c, hc, hhd⟩ := extract_one s hz
        rw [hc]
        refine (Tryd.strings_Contains_one ⟨letters.toArray⟩ c w1).mono ?_
        rintro e w2 ⟨rfl, rfl⟩
        rw [letters_index]
        go_wp2_with fail
        go_ret
        exact ⟨ret_bool (by have := Hsz.out; have := Hh.out; simp [nameL, *]), hx⟩
    · have h1' : decide ((s.size : Int) ≤ 12) = false := by simp; omega
      have Hsz := hid hsz
      clear hsz
      go_enter Tryd.func10, Tryd.ntmps10
      go_wp2_with fail
      go_ret
      exact ⟨ret_bool (by have := Hsz.out; simp [nameL]; omega), Ext.refl _⟩

theorem wordB_true (b : UInt8) : wordB b = true ↔ ((97 ≤ (b.toNat : Int) ∧ (b.toNat : Int) ≤ 122) ∨ (48 ≤ (b.toNat : Int) ∧ (b.toNat : Int) ≤ 57) ∨ (b.toNat : Int) = 95) := by
  unfold wordB lowB
  have : b = 95 ↔ b.toNat = 95 := by rw [← UInt8.toNat_inj]; rfl
  simp only [Bool.or_eq_true, Bool.and_eq_true, decide_eq_true_eq, beq_iff_eq, this]
  omega
theorem wordB_false (b : UInt8) : wordB b = false ↔ ¬ ((97 ≤ (b.toNat : Int) ∧ (b.toNat : Int) ≤ 122) ∨ (48 ≤ (b.toNat : Int) ∧ (b.toNat : Int) ≤ 57) ∨ (b.toNat : Int) = 95) := by
  rw [← wordB_true]
  simp

/-- What the document's Name has seen when k bytes are asked for. -/
def seenL (l : List UInt8) (k : Nat) : Prop := (l.take k).all wordB = true

theorem nameL_head (s : ByteArray) (h : 0 < s.size) : (s.toList.head?.map lowB).getD false = lowB s[0] := by
  rw [toList_data, List.head?_eq_getElem?]
  simp [h]
  rfl

theorem seen_step (s : ByteArray) (k : Nat) (h : k < s.size) (hs : seenL s.toList k) : (wordB s[k] = true → seenL s.toList (k + 1)) ∧ (wordB s[k] = false → nameL s.toList = false) := by
  have hk : k < s.toList.length := by rw [size_toList]; exact h
  have e : s.toList[k] = s[k] := by simp [toList_data]; rfl
  constructor
  · intro hw
    unfold seenL at *
    rw [List.take_succ_eq_append_getElem hk]
    simp only [List.all_append, hs, List.all_cons, e, hw, List.all_nil, Bool.and_self]
  · intro hw
    have : s.toList.all wordB = false := by
      rw [List.all_eq_false]
      exact ⟨s.toList[k], List.getElem_mem hk, by rw [e, hw]; simp⟩
    unfold nameL
    rw [this]
    simp
theorem name_end (s : ByteArray) (k : Nat) (hk : k ≥ s.size) (h1 : s.size ≤ 12) (hz : 0 < s.size) (hl : lowB s[0] = true) (hh : (s.toList.head?.map lowB).getD false = lowB s[0]) (hs : seenL s.toList k) : true = nameL s.toList := by
  have hsz := size_toList s
  unfold seenL at hs
  rw [List.take_of_length_le (by omega)] at hs
  unfold nameL
  rw [hs, hh, hl]
  simp
  omega

set_option maxHeartbeats 800000 in
theorem RefName_any (s : ByteArray) (w : World) (hs : s.size ≤ maxLen) :
    Calls Tryd.prog 11 #[.string s] w fun e w' => e = .returned (.bool (nameL s.toList)) ∧ Ext w w' := by
  unfold maxLen at hs
  have hsz := hid (size_toList s)
  by_cases h0 : s.size < 1
  · have h0' : decide ((s.size : Int) < 1) = true := by simp; omega
    go_enter Tryd.func11, Tryd.ntmps11
    go_wp2
    go_ret
    exact ⟨ret_bool (by have := hsz.out; simp [nameL]; omega), Ext.refl _⟩
  · have h0' : decide ((s.size : Int) < 1) = false := by simp; omega
    by_cases h1 : s.size ≤ 12
    · have h1' : decide ((12 : Int) < (s.size : Int)) = false := by simp; omega
      have hz : 0 < s.size := by omega
      have hhd := hid (nameL_head s hz)
      by_cases hl : lowB s[0] = true
      · have hl1 := hid hl
        unfold lowB at hl
        simp only [Bool.and_eq_true, decide_eq_true_eq] at hl
        have a1 : decide ((s[0].toNat : Int) < 97) = false := by simp; omega
        have a2 : decide ((122 : Int) < (s[0].toNat : Int)) = false := by simp; omega
        clear hl
        go_enter Tryd.func11, Tryd.ntmps11
        go_wp2
        clear a1 a2
        go_loop [3] (fun i => ∃ k : Nat, k ≤ s.size ∧ i = .int .i64 k ∧ Hid (seenL s.toList k)) (fun i => s.size - (intOf i).toNat)
        case atStart => exact ⟨0, Nat.zero_le _, rfl, by simp [Hid, seenL]⟩
        case round =>
          obtain ⟨k, hk, rfl, hseen⟩ := hrel
          by_cases hlt : k < s.size
          · have hstep := hid (seen_step s k hlt hseen.out)
            clear hsz h0' h1'
            go_wp2
            all_goals first
              | (go_ret; exact ⟨ret_bool (hstep.out.2 (by rw [wordB_false]; simp at *; omega)).symm, Ext.refl _⟩)
              | (go_round; (case rel => exact ⟨k + 1, by omega, by go_num, hid (hstep.out.1 (by rw [wordB_true]; simp at *; omega))⟩); (case measure => simp [intOf]; omega))
          · go_wp2
            go_ret
            exact ⟨ret_bool (name_end s k (by omega) h1 hz hl1.out hhd.out hseen.out), Ext.refl _⟩
      · have hl1 := hid (hhd.out.trans (by simpa using hl : lowB s[0] = false))
        have hr : nameL s.toList = false := by unfold nameL; rw [hl1.out]; simp
        have Hr := hid hr
        by_cases hc : s[0].toNat < 97
        · have a1 : decide ((s[0].toNat : Int) < 97) = true := by simp; omega
          clear hr hl
          go_enter Tryd.func11, Tryd.ntmps11
          go_wp2
          go_ret
          exact ⟨ret_bool Hr.out.symm, Ext.refl _⟩
        · have a1 : decide ((s[0].toNat : Int) < 97) = false := by simp; omega
          have a2 : decide ((122 : Int) < (s[0].toNat : Int)) = true := by simp [lowB] at hl; simp; omega
          clear hr hl
          go_enter Tryd.func11, Tryd.ntmps11
          go_wp2
          go_ret
          exact ⟨ret_bool Hr.out.symm, Ext.refl _⟩
    · have h1' : decide ((12 : Int) < (s.size : Int)) = true := by simp; omega
      go_enter Tryd.func11, Tryd.ntmps11
      go_wp2
      go_ret
      exact ⟨ret_bool (by have := hsz.out; simp [nameL]; omega), Ext.refl _⟩
end Go.Proofs.YtgelmhcbiffghaaDoor
