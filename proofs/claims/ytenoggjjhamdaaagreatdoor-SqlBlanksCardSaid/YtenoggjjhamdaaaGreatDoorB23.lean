/-
  WHAT IS PROVED HERE: parts of the proof: Bl26 Bz26 Shelf ShelfB Ex26 Open Od26 Lift.
-/
import Derived.Shelf.Strings.Builder1
import Derived.Shelf.Strings.Builder2
import Derived.Shelf.Strings.OnBuilder
import Derived.Shelf.Strings.Trim
import Derived.Shelf.Small.Utf8
import Derived.Shelf.Small.Strs
import Derived.Shelf.Strconv.Atoi
import Derived.Shelf.Strconv.Itoa0
import Derived.Shelf.Strconv.Itoa1
import Derived.Shelf.LaysM
import Derived.Shelf.Strconv.Itoa2
import Derived.Shelf.Strconv.Itoa3
import Derived.Shelf.Strconv.AtoiErrFast
import Derived.Shelf.Strconv.ParseIntEmpty
import Derived.Shelf.Strconv.AtoiFail
import Derived.Shelf.Strconv.Clone
import Derived.Shelf.Strconv.SyntaxError
import Derived.Shelf.LaysC
import Derived.Shelf.Strconv.ToError
import Derived.Shelf.Strconv.Lower
import Derived.Shelf.Strconv.ParseUint10
import Derived.Shelf.Strconv.ParseUint10Empty
import Derived.Shelf.Strconv.ParseUint10Any
import Derived.Shelf.Strconv.ParseInt10
import Derived.Shelf.Strconv.AtoiLong
import Derived.Shelf.Strconv.AtoiInnerAll
import Derived.Shelf.Strconv.RangeError
import Derived.Shelf.Strconv.ToErrorRange
import Derived.Shelf.Strconv.AtoiAll
import Derived.Shelf.Strconv.ErrVarAll
import Derived.Shelf.Strings.Search1
import Derived.Shelf.Strings.Search2
import Derived.Shelf.Strings.Search3
import Derived.Shelf.Strings.Count
import Derived.Shelf.Strings.Shaped
import Derived.Shelf.Strings.Split
import Derived.Shelf.Strings.Replace
import Derived.Shelf.Strings.Runes
import Derived.Shelf.Strings.AsciiSet
import Derived.Shelf.Unicode.DecodeSlow
import Derived.Shelf.Unicode.DecodeAny
import Derived.Test.YtenoggjjhamdaaaGreatDoorProg
import Derived.Shelf.Strings.SlTrimAscii
import Derived.Test.YtenoggjjhamdaaaGreatDoorRows
import Derived.Lib.ReplaceLaws
import Derived.Shelf.Unicode.PredsPay
import Derived.Lib.IndexAny
import Derived.ProofKit
import Derived.Deep.Slices
import Derived.SizedLaws
import Derived.OpenShut
import Derived.Deep.DeepHandedRow
import Derived.Lib.LaidTab
import Derived.Test.YtenoggjjhamdaaaGreatDoorB01
import Derived.Test.YtenoggjjhamdaaaGreatDoorB07
import Derived.Test.YtenoggjjhamdaaaGreatDoorB22
set_option linter.all false
namespace Go.Proofs.YtenoggjjhamdaaaGreatDoor
open Go Go.RowKit
section
abbrev mkB (l:List UInt8):ByteArray:=⟨l.toArray⟩
abbrev bsL (s:ByteArray):List UInt8:=s.data.toList
theorem bs_ext {a b:ByteArray} (h:bsL a=bsL b):a=b:=by
 obtain ⟨⟨a⟩⟩:=a
 obtain ⟨⟨b⟩⟩:=b
 have h:a=b:=h
 rw [h]
theorem bs_size (s:ByteArray):s.size=(bsL s).length:=by
 show s.data.size=s.data.toList.length
 rw [Array.length_toList]
theorem bs_ext0 (s:ByteArray) (n:Nat):bsL (s.extract 0 n)=(bsL s).take n:=by
 show (s.extract 0 n).data.toList=_
 rw [ByteArray.data_extract,Array.toList_extract]
 simp [List.extract]
theorem bs_extR (s:ByteArray) (n m:Nat) (h:s.size ≤ m):bsL (s.extract n m)=(bsL s).drop n:=by
 show (s.extract n m).data.toList=_
 rw [ByteArray.data_extract,Array.toList_extract]
 rw [bs_size] at h
 simp only [List.extract]
 rw [List.take_of_length_le]
 have h:(bsL s).length ≤ m:=h
 have e:s.data.toList.length=(bsL s).length:=rfl
 rw [List.length_drop,e]; omega
theorem at8_mk (l:List UInt8) (i:Nat):at8 (mkB l) i=(l.getD i 0).toNat:=rfl
theorem at8_take {s:ByteArray} {n i:Nat} {t:List UInt8} (hi:i < n) (hn:n ≤ s.size):at8 (mkB ((bsL s).take n ++ t)) i=at8 s i:=by
 show (((bsL s).take n ++ t).getD i 0).toNat=((bsL s).getD i 0).toNat
 rw [bs_size] at hn
 rw [List.getD_eq_getElem?_getD,List.getD_eq_getElem?_getD,List.getElem?_append_left (by rw [List.length_take]; omega),List.getElem?_take_of_lt hi]
def Behind (t:List UInt8):Prop:=t=[] ∨ ∃ c r,t=c :: r∧(c=32 ∨ c=10)
theorem Behind.no {p:Int→Bool} (h1:p 32=false) (h2:p 10=false) {t:List UInt8} (h:Behind t):(t.takeWhile fun b=>p b.toNat)=[]:=by
 rcases h with rfl | ⟨c,r,rfl,rfl | rfl⟩
 ·rfl
 ·simp [List.takeWhile_cons,h1]
 ·simp [List.takeWhile_cons,h2]
theorem Behind.at {t:List UInt8} (h:Behind t):t.getD 0 0=0 ∨ t.getD 0 0=32 ∨ t.getD 0 0=10:=by
 rcases h with rfl | ⟨c,r,rfl,rfl | rfl⟩
 ·exact Or.inl rfl
 ·exact Or.inr (Or.inl rfl)
 ·exact Or.inr (Or.inr rfl)
theorem take_takeWhile {α:Type} (p:α→Bool):∀ l:List α,l.take (l.takeWhile p).length=l.takeWhile p
 | []=>rfl
 | a :: l=>by
  rw [List.takeWhile_cons]
  split
  ·rw [List.length_cons,List.take_succ_cons,take_takeWhile p l]
  ·rfl
theorem takeWhile_again {α:Type} (p:α→Bool) (t:List α) (ht:t.takeWhile p=[]):∀ l:List α,((l.takeWhile p) ++ t).takeWhile p=l.takeWhile p
 | []=>by simpa using ht
 | a :: l=>by
  rw [List.takeWhile_cons]
  split
  ·rename_i h
   rw [List.cons_append,List.takeWhile_cons,if_pos h,takeWhile_again p t ht l]
  ·simpa using ht
theorem run_bytes (p:Int→Bool) (s:ByteArray):(bsL s).take (runF p s)=(bsL s).takeWhile fun b=>p b.toNat:=take_takeWhile _ _
theorem run_again {p:Int→Bool} (h1:p 32=false) (h2:p 10=false) {s:ByteArray} {t:List UInt8} (ht:Behind t):runF p (mkB ((bsL s).take (runF p s) ++ t))=runF p s:=by
 show ((((bsL s).take (runF p s) ++ t)).takeWhile fun b=>p b.toNat).length=_
 rw [run_bytes,takeWhile_again _ t (ht.no h1 h2)]
 rfl
theorem quotQ_gt (s:ByteArray):∀ (n i:Nat),quotQ s n i ≠ 0→i < quotQ s n i
 | 0,i,h=>absurd rfl h
 | n + 1,i,h=>by
  unfold quotQ at h ⊢
  split at h
  ·rename_i h1
   rw [if_pos h1]
   split at h
   ·rename_i h2
    rw [if_pos h2]
    split at h
    ·rename_i h3
     rw [if_pos h3]
     have:=quotQ_gt s n (i + 2) h
     omega
    ·rename_i h3
     rw [if_neg h3]
     omega
   ·rename_i h2
    rw [if_neg h2]
    have:=quotQ_gt s n (i + 1) h
    omega
  ·exact absurd rfl h
theorem quot_same {s u:ByteArray} {n:Nat} (hn:n ≠ 0) (hu:n ≤ u.size) (ha:∀ j,j < n→at8 u j=at8 s j) (he:at8 u n ≠ 39):∀ (m i k:Nat),quotQ s m i=n→n + 1 ≤ i + k→quotQ u k i=n
 | 0,i,k,h,hk=>absurd h.symm hn
 | m + 1,i,k,h,hk=>by
  have hgt:=quotQ_gt s (m + 1) i (by rw [h]; exact hn)
  rw [h] at hgt
  obtain ⟨k,rfl⟩:∃ k',k=k' + 1:=⟨k - 1,by omega⟩
  unfold quotQ at h ⊢
  split at h
  ·rename_i h1
   rw [if_pos (show i < u.size by omega),ha i hgt]
   split at h
   ·rename_i h2
    rw [if_pos h2]
    split at h
    ·rename_i h3
     have:=quotQ_gt s m (i + 2) (by rw [h]; exact hn)
     rw [h] at this
     rw [ha (i + 1) (by omega),if_pos ⟨by omega,h3.2⟩]
     exact quot_same hn hu ha he m (i + 2) k h (by omega)
    ·rename_i h3
     subst h
     rw [if_neg fun h4=>he h4.2]
   ·rename_i h2
    rw [if_neg h2]
    exact quot_same hn hu ha he m (i + 1) k h (by omega)
  ·exact absurd h.symm hn
theorem take_one (l t:List UInt8) (n:Nat) (hn:1 ≤ n) (hl:1 ≤ l.length):(l.take n ++ t).take 1=l.take 1:=by
 match l,n,hn,hl with
 | a :: l,n + 1,_,_=>simp
theorem first_again {s:ByteArray} (h:(firstF s).s.size ≠ 0) {t:List UInt8} (ht:Behind t):firstF (mkB (bsL (firstF s).s ++ t))=firstF s:=by
 have one:∀ n,1 ≤ n→1 ≤ s.size→bsL ((mkB ((bsL s).take n ++ t)).extract 0 1)=bsL (s.extract 0 1):=fun n h1 h2=>by
  rw [bs_ext0,bs_ext0]
  rw [bs_size] at h2
  exact take_one _ _ _ h1 h2
 have own:∀ n,n ≤ s.size→(mkB ((bsL s).take n ++ t)).extract 0 n=s.extract 0 n:=fun n hn=>by
  refine bs_ext ?_
  rw [bs_ext0,bs_ext0]
  rw [bs_size] at hn
  show ((bsL s).take n ++ t).take n=_
  rw [List.take_append_of_le_length (by rw [List.length_take]; omega),List.take_take,Nat.min_self]
 have hsz:∀ n,(s.extract 0 n).size=min n s.size:=fun n=>by rw [ByteArray.size_extract]; omega
 by_cases c1:isLetter (at8 s 0)=true
 ·have e:firstF s=⟨1,s.extract 0 (runF isName s)⟩:=by unfold firstF; rw [if_pos c1]
  rw [e] at h ⊢
  have h:(s.extract 0 (runF isName s)).size ≠ 0:=h
  rw [hsz] at h
  have hle:=runF_le isName s
  show firstF (mkB (bsL (s.extract 0 (runF isName s)) ++ t))=_
  rw [bs_ext0]
  unfold firstF
  rw [at8_take (by omega) hle,if_pos c1,run_again (by decide) (by decide) ht,own _ hle]
 ·by_cases c2:isDigit (at8 s 0)=true
  ·by_cases c3:runF isDigit s < s.size∧isLetter (at8 s (runF isDigit s))=true
   ·have e:firstF s=noW:=by unfold firstF; rw [if_neg c1,if_pos c2,if_pos c3]
    rw [e] at h
    exact absurd rfl h
   ·have e:firstF s=⟨2,s.extract 0 (runF isDigit s)⟩:=by unfold firstF; rw [if_neg c1,if_pos c2,if_neg c3]
    rw [e] at h ⊢
    have h:(s.extract 0 (runF isDigit s)).size ≠ 0:=h
    rw [hsz] at h
    have hle:=runF_le isDigit s
    show firstF (mkB (bsL (s.extract 0 (runF isDigit s)) ++ t))=_
    rw [bs_ext0]
    unfold firstF
    rw [at8_take (by omega) hle,if_neg c1,if_pos c2,run_again (by decide) (by decide) ht,own _ hle,if_neg]
    rintro ⟨-,h5⟩
    have e5:at8 (mkB ((bsL s).take (runF isDigit s) ++ t)) (runF isDigit s)=(t.getD 0 0).toNat:=by
     rw [bs_size] at hle
     rw [at8_mk,List.getD_eq_getElem?_getD,List.getElem?_append_right (by rw [List.length_take]; omega),List.length_take,Nat.min_eq_left hle,Nat.sub_self,← List.getD_eq_getElem?_getD]
    rw [e5] at h5
    rcases ht.at with h6 | h6 | h6 <;> rw [h6] at h5 <;> cases h5
  ·by_cases c3:(s.extract 0 1).toList=[39]
   ·have e:firstF s=⟨3,s.extract 0 (quotedF s)⟩:=by unfold firstF; rw [if_neg c1,if_neg c2,if_pos c3]
    rw [e] at h ⊢
    have h:(s.extract 0 (quotedF s)).size ≠ 0:=h
    rw [hsz] at h
    have hq:quotQ s (s.size + 1) 1=quotedF s:=rfl
    have hle:=quotedF_le s
    have h2:1 < quotedF s:=quotQ_gt s (s.size + 1) 1 (by rw [hq]; omega)
    show firstF (mkB (bsL (s.extract 0 (quotedF s)) ++ t))=_
    rw [bs_ext0]
    have c3':((mkB ((bsL s).take (quotedF s) ++ t)).extract 0 1).toList=[39]:=by rw [bs_ext (one (quotedF s) (by omega) (by omega))]; exact c3
    have hus:(mkB ((bsL s).take (quotedF s) ++ t)).size=quotedF s + t.length:=by
     rw [bs_size] at hle
     show ((bsL s).take (quotedF s) ++ t).toArray.size=_
     rw [List.size_toArray,List.length_append,List.length_take]; omega
    have hq2:quotedF (mkB ((bsL s).take (quotedF s) ++ t))=quotedF s:=by
     refine quot_same (by omega) (by rw [hus]; omega) (fun j hj=>at8_take hj hle) ?_ (s.size + 1) 1 _ hq (by rw [hus]; omega)
     have e5:at8 (mkB ((bsL s).take (quotedF s) ++ t)) (quotedF s)=(t.getD 0 0).toNat:=by
      rw [bs_size] at hle
      rw [at8_mk,List.getD_eq_getElem?_getD,List.getElem?_append_right (by rw [List.length_take]; omega),List.length_take,Nat.min_eq_left hle,Nat.sub_self,← List.getD_eq_getElem?_getD]
     rw [e5]
     rcases ht.at with h6 | h6 | h6 <;> rw [h6] <;> decide
    unfold firstF
    rw [at8_take (by omega) hle,if_neg c1,if_neg c2,if_pos c3',hq2,own _ hle]
   ·by_cases c4:isSign (s.extract 0 1)=true
    ·have e:firstF s=⟨4,s.extract 0 1⟩:=by unfold firstF; rw [if_neg c1,if_neg c2,if_neg c3,if_pos c4]
     rw [e] at h ⊢
     have h:(s.extract 0 1).size ≠ 0:=h
     rw [hsz] at h
     show firstF (mkB (bsL (s.extract 0 1) ++ t))=_
     rw [bs_ext0]
     have o:=bs_ext (one 1 (by omega) (by omega))
     unfold firstF
     rw [at8_take (by omega) (by omega),if_neg c1,if_neg c2,o,if_neg c3,if_pos c4]
    ·have e:firstF s=noW:=by unfold firstF; rw [if_neg c1,if_neg c2,if_neg c3,if_neg c4]
     rw [e] at h
     exact absurd rfl h
def blank (c:UInt8):Bool:=[32,9,10].contains c
theorem trimL_mk (l:List UInt8):trimL (mkB l)=mkB (l.dropWhile blank):=rfl
theorem first_head {s:ByteArray} (h:(firstF s).s.size ≠ 0):∃ c r,bsL (firstF s).s=c :: r∧blank c=false:=by
 have key:∀ n,(s.extract 0 n).size ≠ 0→(blank ((bsL s).getD 0 0)=false)→∃ c r,bsL (s.extract 0 n)=c :: r∧blank c=false:=fun n h1 h2=>by
  rw [bs_size,bs_ext0] at h1
  rw [bs_ext0]
  match hL:bsL s,n,h1,h2 with
  | [],n,h1,_=>simp at h1
  | a :: l,0,h1,_=>simp at h1
  | a :: l,n + 1,h1,h2=>exact ⟨a,l.take n,by simp,h2⟩
 have nb:∀ c:UInt8,(isLetter c.toNat=true ∨ isDigit c.toNat=true ∨ c=39 ∨ signs.contains c=true)→blank c=false:=fun c h=>by
  cases hb:blank c with
  | false=>rfl
  | true =>
   exfalso
   unfold blank at hb
   rw [List.contains_iff_mem] at hb
   simp only [List.mem_cons,List.not_mem_nil,or_false] at hb
   rcases hb with rfl | rfl | rfl <;> rcases h with h | h | h | h <;> revert h <;> decide
 revert h
 unfold firstF
 split
 ·rename_i c1
  intro h
  exact key _ h (nb _ (Or.inl c1))
 ·split
  ·rename_i c2
   split
   ·intro h; exact absurd rfl h
   ·intro h
    exact key _ h (nb _ (Or.inr (Or.inl c2)))
  ·split
   ·rename_i c3
    intro h
    have c3:(s.extract 0 1).toList=[39]:=c3
    rw [ByteArray.toList_eq] at c3
    have c3:bsL (s.extract 0 1)=[39]:=c3
    rw [bs_ext0] at c3
    refine key _ h (nb _ (Or.inr (Or.inr (Or.inl ?_))))
    cases hL:bsL s with
    | nil=>rw [hL] at c3; cases c3
    | cons a l=>rw [hL] at c3; cases c3; rfl
   ·split
    ·rename_i c4
     intro h
     refine key _ h (nb _ (Or.inr (Or.inr (Or.inr ?_))))
     have h1:bsL (s.extract 0 1)=(bsL s).take 1:=bs_ext0 s 1
     unfold isSign at c4
     have c4:signs.contains ((bsL (s.extract 0 1)).getD 0 0)=true:=c4
     have h:(s.extract 0 1).size ≠ 0:=h
     rw [bs_size] at h
     rw [h1] at c4 h
     cases hL:bsL s with
     | nil=>rw [hL] at h; exact absurd rfl h
     | cons a l=>rw [hL] at c4; exact c4
    ·intro h; exact absurd rfl h
def IsW (w:Word):Prop:=∃ s,w=firstF s∧w.s.size ≠ 0
theorem wordsF_is:∀ (n:Nat) (s:ByteArray) (ws:List Word),wordsF n s=some ws→(∀ w ∈ ws,IsW w)∧(ws.map fun w=>w.s.size).sum ≤ s.size∧ws.length ≤ s.size
 | 0,s,ws,h=>by cases h
 | n + 1,s,ws,h=>by
  unfold wordsF at h
  have ht:=trimL_le s
  split at h
  ·cases h; exact ⟨fun w hw=>(by cases hw),Nat.zero_le _,Nat.zero_le _⟩
  ·split at h
   ·cases h
   ·rename_i h1 h2
    obtain ⟨l,hl,rfl⟩:=Option.map_eq_some_iff.1 h
    have hsz:((trimL s).extract (firstF (trimL s)).s.size (trimL s).size).size=(trimL s).size - (firstF (trimL s)).s.size:=by rw [ByteArray.size_extract]; omega
    obtain ⟨h3,h4,h5⟩:=wordsF_is n _ l hl
    have hne:=mt (empty_iff (firstF (trimL s)).s).2 h2
    have:=first_le (trimL s)
    refine ⟨fun w hw=>?_,?_,?_⟩
    ·rcases List.mem_cons.1 hw with rfl | hw
     ·exact ⟨_,rfl,hne⟩
     ·exact h3 w hw
    ·rw [List.map_cons,List.sum_cons]; omega
    ·rw [List.length_cons]; omega
theorem wordsF_nil {n:Nat} {l:List UInt8} (h:l.dropWhile blank=[]):wordsF (n + 1) (mkB l)=some []:=by
 unfold wordsF
 rw [trimL_mk,h,if_pos ((empty_iff _).2 rfl)]
def againL (lines:Bool) (ws:List Word):List UInt8:=(ws.map fun w=>if lines then 10 :: bsL w.s else bsL w.s ++ [32]).flatten
theorem again_len (lines:Bool):∀ ws:List Word,(againL lines ws).length=(ws.map fun w=>w.s.size).sum + ws.length
 | []=>rfl
 | w :: ws=>by
  have ih:=again_len lines ws
  unfold againL at ih ⊢
  rw [List.map_cons,List.flatten_cons,List.length_append,ih,List.map_cons,List.sum_cons,List.length_cons,bs_size]
  cases lines <;> simp <;> omega
theorem words_step {n:Nat} {l t:List UInt8} {w:Word} {ws:List Word} (hw:IsW w) (ht:Behind t) (hl:l.dropWhile blank=bsL w.s ++ t) (hr:wordsF n (mkB t)=some ws):wordsF (n + 1) (mkB l)=some (w :: ws):=by
 obtain ⟨s,rfl,hne⟩:=hw
 have e:trimL (mkB l)=mkB (bsL (firstF s).s ++ t):=by rw [trimL_mk,hl]
 unfold wordsF
 rw [e,first_again hne ht]
 have hsz:(mkB (bsL (firstF s).s ++ t)).size=(firstF s).s.size + t.length:=by
  show (bsL (firstF s).s ++ t).toArray.size=_
  rw [List.size_toArray,List.length_append,← bs_size]
 rw [if_neg (fun h=>by rw [empty_iff,hsz] at h; omega),if_neg (fun h=>hne ((empty_iff _).1 h))]
 have e2:(mkB (bsL (firstF s).s ++ t)).extract (firstF s).s.size (mkB (bsL (firstF s).s ++ t)).size=mkB t:=by
  refine bs_ext ?_
  rw [bs_extR _ _ _ (Nat.le_refl _)]
  show (bsL (firstF s).s ++ t).drop _=t
  rw [bs_size,List.drop_left]
 rw [e2,hr]; rfl
theorem drop_head {l t:List UInt8} (h:∃ c r,l=c :: r∧blank c=false):(l ++ t).dropWhile blank=l ++ t:=by
 obtain ⟨c,r,rfl,h⟩:=h
 rw [List.cons_append,List.dropWhile_cons,if_neg (by rw [h]; decide)]
theorem drop_blank {l:List UInt8} (c:UInt8) (h:blank c=true):(c :: l).dropWhile blank=l.dropWhile blank:=by rw [List.dropWhile_cons,if_pos h]
theorem IsW.head {w:Word} (h:IsW w):∃ c r,bsL w.s=c :: r∧blank c=false:=by
 obtain ⟨s,rfl,hne⟩:=h
 exact first_head hne
theorem words_lines:∀ (ws:List Word) (n:Nat),(∀ w ∈ ws,IsW w)→ws.length < n→wordsF n (mkB (againL true ws))=some ws
 | [],n + 1,_,_=>wordsF_nil rfl
 | w :: ws,n + 1,h,hn=>by
  rw [List.length_cons] at hn
  have hb:Behind (againL true ws):=by
   cases ws with
   | nil=>exact Or.inl rfl
   | cons v ws=>exact Or.inr ⟨10,_,rfl,Or.inr rfl⟩
  refine words_step (t:=againL true ws) (h w List.mem_cons_self) hb ?_ (words_lines ws n (fun v hv=>h v (List.mem_cons_of_mem _ hv)) (by omega))
  have e:againL true (w :: ws)=10 :: (bsL w.s ++ againL true ws):=rfl
  rw [e,drop_blank 10 (by decide),drop_head (h w List.mem_cons_self).head]
theorem words_blanks:∀ (ws:List Word) (n:Nat) (p:List UInt8),(p=[] ∨ p=[32])→(∀ w ∈ ws,IsW w)→ws.length < n→wordsF n (mkB (p ++ againL false ws))=some ws
 | [],n + 1,p,hp,_,_=>by rcases hp with rfl | rfl <;> exact wordsF_nil rfl
 | w :: ws,n + 1,p,hp,h,hn=>by
  rw [List.length_cons] at hn
  refine words_step (t:=32 :: againL false ws) (h w List.mem_cons_self) (Or.inr ⟨32,_,rfl,Or.inl rfl⟩) ?_ (words_blanks ws n [32] (Or.inr rfl) (fun v hv=>h v (List.mem_cons_of_mem _ hv)) (by omega))
  have e:againL false (w :: ws)=bsL w.s ++ (32 :: againL false ws):=by
   show (bsL w.s ++ [32]) ++ againL false ws=_
   rw [List.append_assoc]; rfl
  rw [e]
  rcases hp with rfl | rfl
  ·exact drop_head (l:=bsL w.s) (h w List.mem_cons_self).head
  ·exact (drop_blank 32 (by decide)).trans (drop_head (l:=bsL w.s) (h w List.mem_cons_self).head)
theorem read_again {s:ByteArray} (hs:s.size ≤ 300) (lines:Bool) (h:(readF s).2=0):readF (mkB (againL lines (readF s).1))=readF s∧(mkB (againL lines (readF s).1)).size ≤ 600:=by
 cases hw:wordsF (s.size + 1) s with
 | none =>
  have hr:readF s=([],3):=by unfold readF; rw [if_neg (by omega),hw]
  rw [hr] at h; cases h
 | some ws =>
  have hr:readF s=(ws,0):=by unfold readF; rw [if_neg (by omega),hw]
  rw [hr]
  show readF (mkB (againL lines ws))=(ws,0)∧(mkB (againL lines ws)).size ≤ 600
  obtain ⟨h1,h2,h3⟩:=wordsF_is _ _ _ hw
  have hz:(mkB (againL lines ws)).size=(ws.map fun w=>w.s.size).sum + ws.length:=by
   show (againL lines ws).toArray.size=_
   rw [List.size_toArray,again_len]
  have key:wordsF ((mkB (againL lines ws)).size + 1) (mkB (againL lines ws))=some ws:=by
   cases lines with
   | true=>exact words_lines ws _ h1 (by rw [hz]; omega)
   | false=>exact words_blanks ws _ [] (Or.inl rfl) h1 (by rw [hz]; omega)
  refine ⟨?_,by rw [hz]; omega⟩
  unfold readF
  rw [if_neg (by rw [hz]; omega),key]
end
section
attribute [local congr] ite_congr
set_option maxRecDepth 8000
theorem readF_err (s:ByteArray) (h:(readF s).2 ≠ 0):(readF s).1=[]:=by
 unfold readF at h ⊢
 split
 ·rfl
 ·rename_i h1
  rw [if_neg h1] at h
  cases hw:wordsF (s.size + 1) s with
  | none=>rfl
  | some ws=>rw [hw] at h; exact absurd rfl h
def againB (b:Bool) (ws:List Word):ByteArray:=ws.foldl (fun acc w=>if b=true then acc ++ ⟨#[10]⟩ ++ w.s else acc ++ w.s ++ ⟨#[32]⟩) ⟨#[]⟩
theorem againB_take (b:Bool) (ws:List Word) (j:Nat) (hj:j < ws.length):againB b (ws.take (j + 1))=if b=true then againB b (ws.take j) ++ ⟨#[10]⟩ ++ ws[j].s else againB b (ws.take j) ++ ws[j].s ++ ⟨#[32]⟩:=by
 unfold againB
 rw [List.take_succ,List.getElem?_eq_getElem hj,Option.toList_some,List.foldl_append]
 rfl
theorem bsL_append (a b:ByteArray):bsL (a ++ b)=bsL a ++ bsL b:=by
 show (a ++ b).data.toList=_
 rw [ByteArray.data_append,Array.toList_append]
theorem againB_bs (b:Bool):∀ (ws:List Word) (acc:ByteArray),bsL (ws.foldl (fun acc w=>if b=true then acc ++ ⟨#[10]⟩ ++ w.s else acc ++ w.s ++ ⟨#[32]⟩) acc)=bsL acc ++ againL b ws
 | [],acc=>by
  show bsL acc=bsL acc ++ []
  rw [List.append_nil]
 | w :: ws,acc=>by
  rw [List.foldl_cons,againB_bs b ws]
  have e:againL b (w :: ws)=(if b then 10 :: bsL w.s else bsL w.s ++ [32]) ++ againL b ws:=rfl
  rw [e]
  cases b with
  | true =>
   rw [if_pos rfl,if_pos rfl,bsL_append,bsL_append]
   show bsL acc ++ [10] ++ bsL w.s ++ _=_
   simp
  | false =>
   rw [if_neg (by decide),if_neg (by decide),bsL_append,bsL_append]
   show bsL acc ++ bsL w.s ++ [32] ++ _=_
   simp
theorem againB_eq (b:Bool) (ws:List Word):againB b ws=mkB (againL b ws):=bs_ext (by unfold againB; rw [againB_bs]; rfl)
theorem again_le (b:Bool) (ws:List Word) (j:Nat):(againB b (ws.take j)).size ≤ (againB b ws).size:=by
 rw [bs_size,bs_size,againB_eq,againB_eq]
 show (againL b (ws.take j)).length ≤ (againL b ws).length
 have e:againL b ws=againL b (ws.take j) ++ againL b (ws.drop j):=by
  unfold againL
  rw [← List.flatten_append,← List.map_append,List.take_append_drop]
 rw [e,List.length_append]; omega
theorem op_is {R:Nat→D→Prop} {x:D} (h:ShT R (.st cOp) x):IsOp x:=by
 simp only [ShT,ShL] at h
 obtain ⟨_,rfl,_,_,rfl,⟨a,rfl⟩,_,_,rfl,⟨b,rfl⟩,_,_,rfl,⟨c,rfl⟩,_,_,rfl,⟨d,rfl⟩,_,_,rfl,⟨e,rfl,hl,he⟩,_,_,rfl,⟨f,rfl⟩,_,_,rfl,⟨g,rfl⟩,_,_,rfl,⟨w,rfl,_⟩,_,_,rfl,⟨i,rfl⟩,_,_,rfl,⟨j,rfl⟩,_,_,rfl,⟨k,rfl⟩,rfl⟩:=h
 refine ⟨a,b,c,d,e,f,g,w,i,j,k,rfl,Nat.le_trans hl (by decide),fun y hy=>?_⟩
 obtain ⟨_,rfl,_,_,rfl,⟨p,rfl⟩,_,_,rfl,⟨q,rfl⟩,_,_,rfl,⟨s,rfl,_⟩,rfl⟩:=he y hy
 exact ⟨p,q,s,rfl⟩
theorem par_same {S:D} (hS:IsSch S S) {q:D} {e:Int} (hq:ShT (R26 (bdK (bdS S (tabsN S)) 4000) 4000) (.st cQry) q) (h0:e=0→ev26 9 0 E0 [.d S,.d q]=some (.val (.s (.int .i64 0)),E0)) (h1:e ≠ 0→∃ a g:Int,q = .agg [.s (.int .i64 a),.lst [],.lst [],.lst [],.lst [],.lst [],.s (.int .i64 g)]):ev26 13 0 E0 [.d q,.d q]=some (.val (.s (.bool true)),E0):=by
 by_cases he:e=0
 ·obtain ⟨q1,q7,q2,q3,q4,q5,q6,rfl,h2,h3,h4,h5,h6⟩:=right_shallow hS hq (h0 he)
  refine qry_same h2 (exprs_same 20 40 (by decide) (by decide) q3 (Nat.le_trans h3.1 (by decide)) h3.2) (exprs_same 20 40 (by decide) (by decide) q4 (Nat.le_trans h4.1 (by decide)) h4.2) ⟨h5.1,fun o ho=>⟨(h5.2 o ho).1,exprs_same 20 40 (by decide) (by decide) [outE o] (by simp) fun x hx=>?_⟩⟩ h6
  obtain rfl:=List.mem_singleton.1 hx
  obtain ⟨⟨g,a,b,c,d,w,xs,m,rfl,hm⟩,hd⟩:=h5.2 o ho
  exact ⟨⟨m,hm⟩,hd⟩
 ·obtain ⟨a,g,rfl⟩:=h1 he
  have hn:ev26 35 0 E0 [.d (.lst []),.d (.lst []),dI 40]=some (.val (.s (.bool true)),E0):=exprs_same 0 40 (by decide) (by decide) [] (by simp) fun x hx=>by cases hx
  exact qry_same ⟨Nat.zero_le _,fun x hx=>by cases hx⟩ hn hn ⟨Nat.zero_le _,fun x hx=>by cases hx⟩ ⟨Nat.zero_le _,fun x hx=>by cases hx⟩
abbrev strsW (ws:List Word):List D:=ws.map fun w=>.s (.string w.s)
theorem sqlblanks_at {S:D} (hB:IsBig S) {t:ByteArray} (ht:t.size ≤ 140737488355328) (b:Bool) (aw:ev26 5 0 E0 []=some (.val (.s (.bool true)),E0)):∃ r,ev26 4 0 E0 [.d S,.d (.s (.string t)),.d (.s (.bool b))]=some (r,E0)∧r = .val (.s (.bool true)):=by
 obtain ⟨c,hn,hS⟩:=names_big hB
 have hle:=len_str (P:=Tryz.prog) (ty:=3) t Tryz.underlying9
 obtain ⟨xs,hx⟩:∃ xs:List D,S = .agg [.lst xs]:=by
  obtain ⟨ds,rfl,h⟩:=hB
  simp only [ShL,ShT] at h
  obtain ⟨_,_,rfl,⟨xs,rfl,_⟩,rfl⟩:=h
  exact ⟨xs,rfl⟩
 subst hx
 cases c with
 | false =>
  refine evr_val (n:=5) rfl (fn:=Tryz.f4) Tryz.func4 rfl (by simp [Tryz.ntmps4]) (by decide) ?_
  simp [aw,hn,hle,Tryz.ntmps4,Tryz.results4]
 | true =>
  have hS':=hS rfl
  by_cases k1:300 < t.size
  ·have k1':(300:Int) < (t.size:Int):=by omega
   refine evr_val (n:=5) rfl (fn:=Tryz.f4) Tryz.func4 rfl (by simp [Tryz.ntmps4]) (by decide) ?_
   simp [aw,hn,hle,k1',Tryz.ntmps4,Tryz.results4]
  ·have k1':¬ (300:Int) < (t.size:Int):=by omega
   have hlen:(readF t).1.length ≤ 1000000:=by
    unfold readF
    split
    ·simp
    ·cases hw:wordsF (t.size + 1) t with
     | none=>simp
     | some ws=>have:=(wordsF_is _ _ _ hw).2.2; simp only; omega
   have hW:=wordsS_at t (by omega) hlen
   by_cases k2:(readF t).2=0
   ·have hag:=read_again (s:=t) (by omega) b k2
    rw [← againB_eq] at hag
    obtain ⟨r,h',hp,hp2,rfl,q,e,rfl,hq,hq0,hq1⟩:=parse_at hS' (t1:=t) (t2:=againB b (readF t).1) (by omega) (by omega) hag.1
    obtain ⟨r2,h2,ho,ho2,rfl,l,f,rfl,hl,hlo,_,_⟩:=ops_at hS' (t1:=t) (t2:=againB b (readF t).1) (by omega) (by omega) hag.1
    have hW2:=wordsS_at (againB b (readF t).1) (by omega) (by rw [hag.1]; exact hlen)
    rw [hag.1] at hW2
    rw [k2] at hW hW2
    have hsame:=par_same hS' hq hq0 hq1
    have hops:=ops_same l (Nat.le_trans hl (by decide)) fun o ho=>op_is (hlo o ho)
    have hstr:=strs_same (strsW (readF t).1) (by rw [List.length_map]; omega) fun x hx=>by
     obtain ⟨w,_,rfl⟩:=List.mem_map.1 hx
     exact ⟨_,rfl⟩
    obtain ⟨dq,rfl,hdq⟩:∃ ds,q = .agg ds∧ShL (R26 (bdK (bdS (.agg [.lst xs]) (tabsN (.agg [.lst xs]))) 4000) 4000) cQry ds:=by simpa only [ShT] using hq
    obtain ⟨q1,q2,q3,q4,q5,q6,q7,rfl⟩:=qry_cells hdq
    generalize (readF t).1=ws at *
    refine evr_val (n:=ws.length + 5) rfl (fn:=Tryz.f4) Tryz.func4 rfl (by simp [Tryz.ntmps4]) (by decide) ?_
    simp [aw,hn,hle,k1',hW,Tryz.ntmps4,Tryz.results4]
    refine Wk_range ws [45,46,47,48,51,52,53,54,55,56,57,58,59,60,61,62,63,64,65,10,49,50,11] [] 11 (fun j t _=>t 10 = .d (.s (.string (againB b (ws.take j))))) (by omega) (by omega) (by simp) (by simp [againB]) ?_ ?_
    ·intro j hj t' h' hi hT hT2 hH hH2 hJ hw
     have hnx:=againB_take b ws j hj
     have hz:(againB b (ws.take (j + 1))).size ≤ 600:=Nat.le_trans (again_le b ws (j + 1)) hag.2
     cases b with
     | true =>
      rw [hnx,if_pos rfl,ByteArray.size_append,ByteArray.size_append] at hz
      simp [hT,hH,hj,hi,hw,hT2,hH2,hJ,hnx,Tryz.ntmps4,Tryz.results4]
      omega
     | false =>
      rw [hnx,if_neg (by decide),ByteArray.size_append,ByteArray.size_append] at hz
      simp [hT,hH,hj,hi,hw,hT2,hH2,hJ,hnx,Tryz.ntmps4,Tryz.results4]
      omega
    ·intro t' h' hi hT hT2 hH hH2 hJ
     rw [List.take_length] at hJ
     simp [hT,hH,hi,hJ,hW2,hp,hp2,ho,ho2,hsame,hops,hstr,hT2,hH2,Tryz.ntmps4,Tryz.results4]
   ·have hnil:=readF_err t k2
    refine evr_val (n:=5) rfl (fn:=Tryz.f4) Tryz.func4 rfl (by simp [Tryz.ntmps4]) (by decide) ?_
    simp [aw,hn,hle,k1',hW,hnil,k2,Tryz.ntmps4,Tryz.results4]
end
end Go.Proofs.YtenoggjjhamdaaaGreatDoor
section
namespace Go.Proofs
open Go.Shelf
def Tryz.lays156_ren:Go.Shelf.Ren:=⟨fun | 156=>83 | 165=>107 | 166=>108 | 169=>109 | 240=>142 | 241=>143 | 276=>163 | 277=>164 | n=>n,fun | 31=>50 | 9=>9 | 3=>3 | 4=>4 | 0=>0 | 20=>20 | 72=>197 | 76=>170 | 70=>194 | 37=>195 | 75=>169 | 127=>221 | 164=>241 | 5=>5 | 80=>118 | n=>n,fun | n=>n⟩
theorem Tryz.lays156:Go.Proofs.Lays.n156 Tryz.prog Tryz.lays156_ren:={
 mixed:=by kernel_rfl
 f156:=Tryz.func83.trans (congrArg some (by kernel_rfl))
 f165:=Tryz.func107.trans (congrArg some (by kernel_rfl))
 f166:=Tryz.func108.trans (congrArg some (by kernel_rfl))
 f169:=Tryz.func109.trans (congrArg some (by kernel_rfl))
 f240:=Tryz.func142.trans (congrArg some (by kernel_rfl))
 f241:=Tryz.func143.trans (congrArg some (by kernel_rfl))
 f276:=Tryz.func163.trans (congrArg some (by kernel_rfl))
 f277:=Tryz.func164.trans (congrArg some (by kernel_rfl))
 t0:=Tryz.underlying0
 a0:=Tryz.isAgg0
 z0:=Tryz.sizeOf0
 v0:=Tryz.zeroValue0
 t3:=Tryz.underlying3
 a3:=Tryz.isAgg3
 z3:=Tryz.sizeOf3
 v3:=Tryz.zeroValue3
 t4:=Tryz.underlying4
 a4:=Tryz.isAgg4
 z4:=Tryz.sizeOf4
 v4:=Tryz.zeroValue4
 t9:=Tryz.underlying9
 a9:=Tryz.isAgg9
 z9:=Tryz.sizeOf9
 v9:=Tryz.zeroValue9
 t20:=Tryz.underlying20
 a20:=Tryz.isAgg20
 z20:=Tryz.sizeOf20
 v20:=Tryz.zeroValue20
 t31:=Tryz.underlying50
 a31:=Tryz.isAgg50
 z31:=Tryz.sizeOf50
 v31:=Tryz.zeroValue50
 t37:=Tryz.underlying195
 a37:=Tryz.isAgg195
 z37:=Tryz.sizeOf195
 v37:=Tryz.zeroValue195
 t70:=Tryz.underlying194
 a70:=Tryz.isAgg194
 z70:=Tryz.sizeOf194
 v70:=Tryz.zeroValue194
 t72:=Tryz.underlying197
 a72:=Tryz.isAgg197
 z72:=Tryz.sizeOf197
 v72:=Tryz.zeroValue197
 t75:=Tryz.underlying169
 a75:=Tryz.isAgg169
 z75:=Tryz.sizeOf169
 v75:=Tryz.zeroValue169
 t76:=Tryz.underlying170
 a76:=Tryz.isAgg170
 z76:=Tryz.sizeOf170
 v76:=Tryz.zeroValue170
 t127:=Tryz.underlying221
 a127:=Tryz.isAgg221
 z127:=Tryz.sizeOf221
 v127:=Tryz.zeroValue221
 t164:=Tryz.underlying241
 a164:=Tryz.isAgg241
 z164:=Tryz.sizeOf241
 v164:=Tryz.zeroValue241 }
theorem Tryz.Builder_Extra_156:Builder.Extra Tryz.prog Tryz.lays156_ren:={
 sizeBuilder:=by kernel_rfl
 liesBuilder:=by kernel_rfl
 t5:=Tryz.underlying5
 a5:=Tryz.isAgg5
 z5:=Tryz.sizeOf5
 v5:=Tryz.zeroValue5
 infoByte:=by kernel_rfl
 cellsByte:=by kernel_rfl
 sizeByte:=by kernel_rfl
 neB5:=by decide }
open Go.RowKit in
theorem Tryz.strings_Join (bk o c:Nat) (xs:List ByteArray) (sep:ByteArray) (w:World) (hcells:∀ (j:Nat) x,xs[j]? = some x→w.cell? ⟨bk,o + j,none⟩=some (.string x)) (hbk:bk < w.heap.size) (hN:xs.length ≤ 140737488355328) (hcap:xs.length ≤ c) (hlen:(Lib.join (xs.map (·.data.toList)) sep.data.toList).length ≤ 140737488355328) :
  Calls Tryz.prog 83 #[.slice (some ⟨bk,o,none⟩) xs.length c,.string sep] w fun e w'=>e = .returned (.string ⟨(Lib.join (xs.map (·.data.toList)) sep.data.toList).toArray⟩)∧Below w.heap.size w w':=Any.strings_Join Tryz.lays156 Tryz.Builder_Extra_156 bk o c xs sep w hcells hbk hN hcap hlen
def Tryz.laysM171_ren:Go.Shelf.Ren:=⟨fun | 171=>82 | 243=>106 | 246=>141 | 283=>159 | 284=>160 | 285=>161 | 286=>162 | 129=>174 | 317=>173 | 318=>175 | 319=>176 | 320=>177 | 337=>186 | 338=>187 | n=>n,fun | 3=>3 | 9=>9 | 2=>2 | 4=>4 | 171=>235 | 0=>0 | 53=>236 | 37=>195 | 5=>5 | 173=>239 | 212=>255 | 51=>256 | 20=>20 | 213=>257 | 46=>247 | 232=>270 | 233=>271 | n=>n,fun | 17=>2 | 18=>6 | 19=>7 | n=>n⟩
theorem Tryz.laysM171:Go.Proofs.LaysM.n171 Tryz.prog Tryz.laysM171_ren:={
 mixed:=by kernel_rfl
 f129:=Tryz.func174.trans (congrArg some (by kernel_rfl))
 f171:=Tryz.func82.trans (congrArg some (by kernel_rfl))
 f243:=Tryz.func106.trans (congrArg some (by kernel_rfl))
 f246:=Tryz.func141.trans (congrArg some (by kernel_rfl))
 f283:=Tryz.func159.trans (congrArg some (by kernel_rfl))
 f284:=Tryz.func160.trans (congrArg some (by kernel_rfl))
 f285:=Tryz.func161.trans (congrArg some (by kernel_rfl))
 f286:=Tryz.func162.trans (congrArg some (by kernel_rfl))
 f317:=Tryz.func173.trans (congrArg some (by kernel_rfl))
 f318:=Tryz.func175.trans (congrArg some (by kernel_rfl))
 f319:=Tryz.func176.trans (congrArg some (by kernel_rfl))
 f320:=Tryz.func177.trans (congrArg some (by kernel_rfl))
 f337:=Tryz.func186.trans (congrArg some (by kernel_rfl))
 f338:=Tryz.func187.trans (congrArg some (by kernel_rfl))
 t0:=Tryz.underlying0
 a0:=Tryz.isAgg0
 z0:=Tryz.sizeOf0
 v0:=Tryz.zeroValue0
 t2:=Tryz.underlying2
 a2:=Tryz.isAgg2
 z2:=Tryz.sizeOf2
 v2:=Tryz.zeroValue2
 t3:=Tryz.underlying3
 a3:=Tryz.isAgg3
 z3:=Tryz.sizeOf3
 v3:=Tryz.zeroValue3
 t4:=Tryz.underlying4
 a4:=Tryz.isAgg4
 z4:=Tryz.sizeOf4
 v4:=Tryz.zeroValue4
 t5:=Tryz.underlying5
 a5:=Tryz.isAgg5
 z5:=Tryz.sizeOf5
 v5:=Tryz.zeroValue5
 t9:=Tryz.underlying9
 a9:=Tryz.isAgg9
 z9:=Tryz.sizeOf9
 v9:=Tryz.zeroValue9
 t20:=Tryz.underlying20
 a20:=Tryz.isAgg20
 z20:=Tryz.sizeOf20
 v20:=Tryz.zeroValue20
 t37:=Tryz.underlying195
 a37:=Tryz.isAgg195
 z37:=Tryz.sizeOf195
 v37:=Tryz.zeroValue195
 t46:=Tryz.underlying247
 a46:=Tryz.isAgg247
 z46:=Tryz.sizeOf247
 v46:=Tryz.zeroValue247
 t51:=Tryz.underlying256
 a51:=Tryz.isAgg256
 z51:=Tryz.sizeOf256
 v51:=Tryz.zeroValue256
 t53:=Tryz.underlying236
 a53:=Tryz.isAgg236
 z53:=Tryz.sizeOf236
 v53:=Tryz.zeroValue236
 t171:=Tryz.underlying235
 a171:=Tryz.isAgg235
 z171:=Tryz.sizeOf235
 v171:=Tryz.zeroValue235
 t173:=Tryz.underlying239
 a173:=Tryz.isAgg239
 z173:=Tryz.sizeOf239
 v173:=Tryz.zeroValue239
 t212:=Tryz.underlying255
 a212:=Tryz.isAgg255
 z212:=Tryz.sizeOf255
 v212:=Tryz.zeroValue255
 t213:=Tryz.underlying257
 a213:=Tryz.isAgg257
 z213:=Tryz.sizeOf257
 t232:=Tryz.underlying270
 a232:=Tryz.isAgg270
 z232:=Tryz.sizeOf270
 v232:=Tryz.zeroValue270
 t233:=Tryz.underlying271
 a233:=Tryz.isAgg271
 z233:=Tryz.sizeOf271
 v233:=Tryz.zeroValue271
 g17:=by kernel_rfl
 g18:=by kernel_rfl
 g19:=by kernel_rfl
 i0:=by kernel_rfl
 i2:=by kernel_rfl
 i3:=by kernel_rfl
 i4:=by kernel_rfl
 i5:=by kernel_rfl
 i9:=by kernel_rfl
 i20:=by kernel_rfl
 i37:=by kernel_rfl
 i46:=by kernel_rfl
 i51:=by kernel_rfl
 i53:=by kernel_rfl
 i171:=by kernel_rfl
 i173:=by kernel_rfl
 i212:=by kernel_rfl
 i232:=by kernel_rfl
 i233:=by kernel_rfl
 m17:=by kernel_rfl
 m18:=by kernel_rfl
 m19:=by kernel_rfl }
def Tryz.laysC172_ren:Go.Shelf.Ren:=⟨fun | 172=>88 | 244=>120 | 245=>121 | 247=>148 | 279=>149 | 280=>150 | 281=>151 | 282=>152 | 287=>168 | 316=>169 | 171=>82 | 205=>170 | 321=>184 | 322=>185 | 243=>106 | 246=>141 | 283=>159 | 284=>160 | 285=>161 | 286=>162 | 129=>174 | 317=>173 | 318=>175 | 319=>176 | 320=>177 | 337=>186 | 338=>187 | n=>n,fun | 9=>9 | 3=>3 | 75=>169 | 76=>170 | 4=>4 | 5=>5 | 167=>227 | 37=>195 | 0=>0 | 85=>228 | 2=>2 | 168=>230 | 53=>236 | 175=>245 | 46=>247 | 210=>250 | 127=>221 | 145=>266 | 143=>264 | 21=>21 | 171=>235 | 173=>239 | 212=>255 | 51=>256 | 20=>20 | 213=>257 | 232=>270 | 233=>271 | 80=>118 | n=>n,fun | 15=>0 | 16=>1 | 17=>2 | 18=>6 | 19=>7 | n=>n⟩
theorem Tryz.laysC172:Go.Proofs.LaysC.n172 Tryz.prog Tryz.laysC172_ren:={
 mixed:=by kernel_rfl
 f129:=Tryz.func174.trans (congrArg some (by kernel_rfl))
 f171:=Tryz.func82.trans (congrArg some (by kernel_rfl))
 f172:=Tryz.func88.trans (congrArg some (by kernel_rfl))
 f205:=Tryz.func170.trans (congrArg some (by kernel_rfl))
 f243:=Tryz.func106.trans (congrArg some (by kernel_rfl))
 f244:=Tryz.func120.trans (congrArg some (by kernel_rfl))
 f245:=Tryz.func121.trans (congrArg some (by kernel_rfl))
 f246:=Tryz.func141.trans (congrArg some (by kernel_rfl))
 f247:=Tryz.func148.trans (congrArg some (by kernel_rfl))
 f279:=Tryz.func149.trans (congrArg some (by kernel_rfl))
 f280:=Tryz.func150.trans (congrArg some (by kernel_rfl))
 f281:=Tryz.func151.trans (congrArg some (by kernel_rfl))
 f282:=Tryz.func152.trans (congrArg some (by kernel_rfl))
 f283:=Tryz.func159.trans (congrArg some (by kernel_rfl))
 f284:=Tryz.func160.trans (congrArg some (by kernel_rfl))
 f285:=Tryz.func161.trans (congrArg some (by kernel_rfl))
 f286:=Tryz.func162.trans (congrArg some (by kernel_rfl))
 f287:=Tryz.func168.trans (congrArg some (by kernel_rfl))
 f316:=Tryz.func169.trans (congrArg some (by kernel_rfl))
 f317:=Tryz.func173.trans (congrArg some (by kernel_rfl))
 f318:=Tryz.func175.trans (congrArg some (by kernel_rfl))
 f319:=Tryz.func176.trans (congrArg some (by kernel_rfl))
 f320:=Tryz.func177.trans (congrArg some (by kernel_rfl))
 f321:=Tryz.func184.trans (congrArg some (by kernel_rfl))
 f322:=Tryz.func185.trans (congrArg some (by kernel_rfl))
 f337:=Tryz.func186.trans (congrArg some (by kernel_rfl))
 f338:=Tryz.func187.trans (congrArg some (by kernel_rfl))
 t0:=Tryz.underlying0
 a0:=Tryz.isAgg0
 z0:=Tryz.sizeOf0
 v0:=Tryz.zeroValue0
 t2:=Tryz.underlying2
 a2:=Tryz.isAgg2
 z2:=Tryz.sizeOf2
 v2:=Tryz.zeroValue2
 t3:=Tryz.underlying3
 a3:=Tryz.isAgg3
 z3:=Tryz.sizeOf3
 v3:=Tryz.zeroValue3
 t4:=Tryz.underlying4
 a4:=Tryz.isAgg4
 z4:=Tryz.sizeOf4
 v4:=Tryz.zeroValue4
 t5:=Tryz.underlying5
 a5:=Tryz.isAgg5
 z5:=Tryz.sizeOf5
 v5:=Tryz.zeroValue5
 t9:=Tryz.underlying9
 a9:=Tryz.isAgg9
 z9:=Tryz.sizeOf9
 v9:=Tryz.zeroValue9
 t20:=Tryz.underlying20
 a20:=Tryz.isAgg20
 z20:=Tryz.sizeOf20
 v20:=Tryz.zeroValue20
 t21:=Tryz.underlying21
 a21:=Tryz.isAgg21
 z21:=Tryz.sizeOf21
 v21:=Tryz.zeroValue21
 t37:=Tryz.underlying195
 a37:=Tryz.isAgg195
 z37:=Tryz.sizeOf195
 v37:=Tryz.zeroValue195
 t46:=Tryz.underlying247
 a46:=Tryz.isAgg247
 z46:=Tryz.sizeOf247
 v46:=Tryz.zeroValue247
 t51:=Tryz.underlying256
 a51:=Tryz.isAgg256
 z51:=Tryz.sizeOf256
 v51:=Tryz.zeroValue256
 t53:=Tryz.underlying236
 a53:=Tryz.isAgg236
 z53:=Tryz.sizeOf236
 v53:=Tryz.zeroValue236
 t75:=Tryz.underlying169
 a75:=Tryz.isAgg169
 z75:=Tryz.sizeOf169
 v75:=Tryz.zeroValue169
 t76:=Tryz.underlying170
 a76:=Tryz.isAgg170
 z76:=Tryz.sizeOf170
 v76:=Tryz.zeroValue170
 t85:=Tryz.underlying228
 a85:=Tryz.isAgg228
 z85:=Tryz.sizeOf228
 v85:=Tryz.zeroValue228
 t127:=Tryz.underlying221
 a127:=Tryz.isAgg221
 z127:=Tryz.sizeOf221
 v127:=Tryz.zeroValue221
 t143:=Tryz.underlying264
 a143:=Tryz.isAgg264
 z143:=Tryz.sizeOf264
 v143:=Tryz.zeroValue264
 t145:=Tryz.underlying266
 a145:=Tryz.isAgg266
 z145:=Tryz.sizeOf266
 v145:=Tryz.zeroValue266
 t167:=Tryz.underlying227
 a167:=Tryz.isAgg227
 z167:=Tryz.sizeOf227
 v167:=Tryz.zeroValue227
 t168:=Tryz.underlying230
 a168:=Tryz.isAgg230
 z168:=Tryz.sizeOf230
 v168:=Tryz.zeroValue230
 t171:=Tryz.underlying235
 a171:=Tryz.isAgg235
 z171:=Tryz.sizeOf235
 v171:=Tryz.zeroValue235
 t173:=Tryz.underlying239
 a173:=Tryz.isAgg239
 z173:=Tryz.sizeOf239
 v173:=Tryz.zeroValue239
 t175:=Tryz.underlying245
 a175:=Tryz.isAgg245
 z175:=Tryz.sizeOf245
 v175:=Tryz.zeroValue245
 t210:=Tryz.underlying250
 a210:=Tryz.isAgg250
 z210:=Tryz.sizeOf250
 v210:=Tryz.zeroValue250
 t212:=Tryz.underlying255
 a212:=Tryz.isAgg255
 z212:=Tryz.sizeOf255
 v212:=Tryz.zeroValue255
 t213:=Tryz.underlying257
 a213:=Tryz.isAgg257
 z213:=Tryz.sizeOf257
 t232:=Tryz.underlying270
 a232:=Tryz.isAgg270
 z232:=Tryz.sizeOf270
 v232:=Tryz.zeroValue270
 t233:=Tryz.underlying271
 a233:=Tryz.isAgg271
 z233:=Tryz.sizeOf271
 v233:=Tryz.zeroValue271
 g15:=by kernel_rfl
 g16:=by kernel_rfl
 g17:=by kernel_rfl
 g18:=by kernel_rfl
 g19:=by kernel_rfl
 t80:=Tryz.underlying118
 a80:=Tryz.isAgg118
 z80:=Tryz.sizeOf118
 v80:=Tryz.zeroValue118
 i0:=by kernel_rfl
 i2:=by kernel_rfl
 i3:=by kernel_rfl
 i4:=by kernel_rfl
 i5:=by kernel_rfl
 i9:=by kernel_rfl
 i20:=by kernel_rfl
 i21:=by kernel_rfl
 i37:=by kernel_rfl
 i46:=by kernel_rfl
 i51:=by kernel_rfl
 i53:=by kernel_rfl
 i75:=by kernel_rfl
 i76:=by kernel_rfl
 i80:=by kernel_rfl
 i85:=by kernel_rfl
 i127:=by kernel_rfl
 i143:=by kernel_rfl
 i145:=by kernel_rfl
 i167:=by kernel_rfl
 i168:=by kernel_rfl
 i171:=by kernel_rfl
 i173:=by kernel_rfl
 i175:=by kernel_rfl
 i210:=by kernel_rfl
 i212:=by kernel_rfl
 i232:=by kernel_rfl
 i233:=by kernel_rfl
 m15:=by kernel_rfl
 m16:=by kernel_rfl
 m17:=by kernel_rfl
 m18:=by kernel_rfl
 m19:=by kernel_rfl
 c0:=by kernel_rfl
 c2:=by kernel_rfl
 c3:=by kernel_rfl
 c4:=by kernel_rfl
 c5:=by kernel_rfl
 c9:=by kernel_rfl
 c20:=by kernel_rfl
 c21:=by kernel_rfl
 c37:=by kernel_rfl
 c46:=by kernel_rfl
 c51:=by kernel_rfl
 c53:=by kernel_rfl
 c75:=by kernel_rfl
 c76:=by kernel_rfl
 c80:=by kernel_rfl
 c85:=by kernel_rfl
 c127:=by kernel_rfl
 c143:=by kernel_rfl
 c145:=by kernel_rfl
 c167:=by kernel_rfl
 c168:=by kernel_rfl
 c171:=by kernel_rfl
 c173:=by kernel_rfl
 c175:=by kernel_rfl
 c210:=by kernel_rfl
 c212:=by kernel_rfl
 c213:=by kernel_rfl
 c232:=by kernel_rfl
 c233:=by kernel_rfl }
open Go.RowKit in
theorem Tryz.strconv_Atoi_ok (s:ByteArray) (hmax:s.size ≤ 9223372036854775806) (v:Int) (h:Lib.atoiAll s.data.toList = .ok v) (w:World) :
  Calls Tryz.prog 88 #[.string s] w fun e w'=>e = .returned (.tuple #[.int .i64 v,.nilIface])∧(w' = w ∨ ∃ t,w' = Lib.bytesWorld w 5 t):=Any.strconv_Atoi_ok Tryz.laysC172 s hmax v h w
def Tryz.lays144_ren:Go.Shelf.Ren:=⟨fun | 144=>119 | 143=>147 | 219=>167 | 217=>182 | 225=>181 | 224=>180 | 267=>183 | 266=>188 | 314=>189 | n=>n,fun | 9=>9 | 4=>4 | 3=>3 | 5=>5 | 46=>247 | 146=>268 | 51=>256 | n=>n,fun | 1=>3 | n=>n⟩
theorem Tryz.lays144:Go.Proofs.Lays.n144 Tryz.prog Tryz.lays144_ren:={
 mixed:=by kernel_rfl
 f143:=Tryz.func147.trans (congrArg some (by kernel_rfl))
 f144:=Tryz.func119.trans (congrArg some (by kernel_rfl))
 f217:=Tryz.func182.trans (congrArg some (by kernel_rfl))
 f219:=Tryz.func167.trans (congrArg some (by kernel_rfl))
 f224:=Tryz.func180.trans (congrArg some (by kernel_rfl))
 f225:=Tryz.func181.trans (congrArg some (by kernel_rfl))
 f266:=Tryz.func188.trans (congrArg some (by kernel_rfl))
 f267:=Tryz.func183.trans (congrArg some (by kernel_rfl))
 f314:=Tryz.func189.trans (congrArg some (by kernel_rfl))
 t3:=Tryz.underlying3
 a3:=Tryz.isAgg3
 z3:=Tryz.sizeOf3
 v3:=Tryz.zeroValue3
 t4:=Tryz.underlying4
 a4:=Tryz.isAgg4
 z4:=Tryz.sizeOf4
 v4:=Tryz.zeroValue4
 t5:=Tryz.underlying5
 a5:=Tryz.isAgg5
 z5:=Tryz.sizeOf5
 v5:=Tryz.zeroValue5
 t9:=Tryz.underlying9
 a9:=Tryz.isAgg9
 z9:=Tryz.sizeOf9
 v9:=Tryz.zeroValue9
 t46:=Tryz.underlying247
 a46:=Tryz.isAgg247
 z46:=Tryz.sizeOf247
 v46:=Tryz.zeroValue247
 t51:=Tryz.underlying256
 a51:=Tryz.isAgg256
 z51:=Tryz.sizeOf256
 v51:=Tryz.zeroValue256
 t146:=Tryz.underlying268
 a146:=Tryz.isAgg268
 z146:=Tryz.sizeOf268
 v146:=Tryz.zeroValue268
 g1:=by kernel_rfl }
open Go.RowKit Go.Lib in
theorem Tryz.strings_Contains_one (s:ByteArray) (c:UInt8) (w:World) :
  Calls Tryz.prog 119 #[.string s,.string ⟨#[c]⟩] w fun e w'=>e = .returned (.bool (decide (0 ≤ Lib.indexByte s.data.toList c)))∧w' = w:=Any.strings_Contains_one Tryz.lays144 s c w
def Tryz.lays155_ren:Go.Shelf.Ren:=⟨fun | 155=>91 | 154=>122 | 138=>153 | 165=>107 | 143=>147 | 166=>108 | 197=>145 | 169=>109 | 195=>171 | 218=>172 | 240=>142 | 241=>143 | 219=>167 | 260=>165 | 276=>163 | 277=>164 | 217=>182 | 225=>181 | 224=>180 | 267=>183 | 266=>188 | 314=>189 | n=>n,fun | 9=>9 | 3=>3 | 4=>4 | 72=>197 | 0=>0 | 76=>170 | 105=>223 | 21=>21 | 5=>5 | 70=>194 | 20=>20 | 37=>195 | 75=>169 | 127=>221 | 164=>241 | 46=>247 | 119=>259 | 139=>262 | 138=>261 | 146=>268 | 51=>256 | 80=>118 | n=>n,fun | 1=>3 | 3=>4 | 4=>5 | n=>n⟩
theorem Tryz.lays155:Go.Proofs.Lays.n155 Tryz.prog Tryz.lays155_ren:={
 mixed:=by kernel_rfl
 f138:=Tryz.func153.trans (congrArg some (by kernel_rfl))
 f143:=Tryz.func147.trans (congrArg some (by kernel_rfl))
 f154:=Tryz.func122.trans (congrArg some (by kernel_rfl))
 f155:=Tryz.func91.trans (congrArg some (by kernel_rfl))
 f165:=Tryz.func107.trans (congrArg some (by kernel_rfl))
 f166:=Tryz.func108.trans (congrArg some (by kernel_rfl))
 f169:=Tryz.func109.trans (congrArg some (by kernel_rfl))
 f195:=Tryz.func171.trans (congrArg some (by kernel_rfl))
 f197:=Tryz.func145.trans (congrArg some (by kernel_rfl))
 f217:=Tryz.func182.trans (congrArg some (by kernel_rfl))
 f218:=Tryz.func172.trans (congrArg some (by kernel_rfl))
 f219:=Tryz.func167.trans (congrArg some (by kernel_rfl))
 f224:=Tryz.func180.trans (congrArg some (by kernel_rfl))
 f225:=Tryz.func181.trans (congrArg some (by kernel_rfl))
 f240:=Tryz.func142.trans (congrArg some (by kernel_rfl))
 f241:=Tryz.func143.trans (congrArg some (by kernel_rfl))
 f260:=Tryz.func165.trans (congrArg some (by kernel_rfl))
 f266:=Tryz.func188.trans (congrArg some (by kernel_rfl))
 f267:=Tryz.func183.trans (congrArg some (by kernel_rfl))
 f276:=Tryz.func163.trans (congrArg some (by kernel_rfl))
 f277:=Tryz.func164.trans (congrArg some (by kernel_rfl))
 f314:=Tryz.func189.trans (congrArg some (by kernel_rfl))
 t0:=Tryz.underlying0
 a0:=Tryz.isAgg0
 z0:=Tryz.sizeOf0
 v0:=Tryz.zeroValue0
 t3:=Tryz.underlying3
 a3:=Tryz.isAgg3
 z3:=Tryz.sizeOf3
 v3:=Tryz.zeroValue3
 t4:=Tryz.underlying4
 a4:=Tryz.isAgg4
 z4:=Tryz.sizeOf4
 v4:=Tryz.zeroValue4
 t5:=Tryz.underlying5
 a5:=Tryz.isAgg5
 z5:=Tryz.sizeOf5
 v5:=Tryz.zeroValue5
 t9:=Tryz.underlying9
 a9:=Tryz.isAgg9
 z9:=Tryz.sizeOf9
 v9:=Tryz.zeroValue9
 t20:=Tryz.underlying20
 a20:=Tryz.isAgg20
 z20:=Tryz.sizeOf20
 v20:=Tryz.zeroValue20
 t21:=Tryz.underlying21
 a21:=Tryz.isAgg21
 z21:=Tryz.sizeOf21
 v21:=Tryz.zeroValue21
 t37:=Tryz.underlying195
 a37:=Tryz.isAgg195
 z37:=Tryz.sizeOf195
 v37:=Tryz.zeroValue195
 t46:=Tryz.underlying247
 a46:=Tryz.isAgg247
 z46:=Tryz.sizeOf247
 v46:=Tryz.zeroValue247
 t51:=Tryz.underlying256
 a51:=Tryz.isAgg256
 z51:=Tryz.sizeOf256
 v51:=Tryz.zeroValue256
 t70:=Tryz.underlying194
 a70:=Tryz.isAgg194
 z70:=Tryz.sizeOf194
 v70:=Tryz.zeroValue194
 t72:=Tryz.underlying197
 a72:=Tryz.isAgg197
 z72:=Tryz.sizeOf197
 v72:=Tryz.zeroValue197
 t75:=Tryz.underlying169
 a75:=Tryz.isAgg169
 z75:=Tryz.sizeOf169
 v75:=Tryz.zeroValue169
 t76:=Tryz.underlying170
 a76:=Tryz.isAgg170
 z76:=Tryz.sizeOf170
 v76:=Tryz.zeroValue170
 t105:=Tryz.underlying223
 a105:=Tryz.isAgg223
 z105:=Tryz.sizeOf223
 v105:=Tryz.zeroValue223
 t119:=Tryz.underlying259
 a119:=Tryz.isAgg259
 z119:=Tryz.sizeOf259
 t127:=Tryz.underlying221
 a127:=Tryz.isAgg221
 z127:=Tryz.sizeOf221
 v127:=Tryz.zeroValue221
 t138:=Tryz.underlying261
 a138:=Tryz.isAgg261
 z138:=Tryz.sizeOf261
 v138:=Tryz.zeroValue261
 t139:=Tryz.underlying262
 a139:=Tryz.isAgg262
 z139:=Tryz.sizeOf262
 v139:=Tryz.zeroValue262
 t146:=Tryz.underlying268
 a146:=Tryz.isAgg268
 z146:=Tryz.sizeOf268
 v146:=Tryz.zeroValue268
 t164:=Tryz.underlying241
 a164:=Tryz.isAgg241
 z164:=Tryz.sizeOf241
 v164:=Tryz.zeroValue241
 g1:=by kernel_rfl
 g3:=by kernel_rfl
 g4:=by kernel_rfl }
theorem Tryz.Builder_Extra_155:Builder.Extra Tryz.prog Tryz.lays155_ren:={
 sizeBuilder:=by kernel_rfl
 liesBuilder:=by kernel_rfl
 t5:=Tryz.underlying5
 a5:=Tryz.isAgg5
 z5:=Tryz.sizeOf5
 v5:=Tryz.zeroValue5
 infoByte:=by kernel_rfl
 cellsByte:=by kernel_rfl
 sizeByte:=by kernel_rfl
 neB5:=by decide }
open Go.RowKit Go.Lib in
theorem Tryz.strings_ReplaceAll (s old new:ByteArray) (m:Int) (w:World) (hs:s.size < 4294967281) (hm:w.cell? ⟨3,0,none⟩=some (.int .i64 m)) (h1:1 ≤ old.size) (hlen:s.size + Lib.countB s old * new.size ≤ 140737488355328) :
  Calls Tryz.prog 91 #[.string s,.string old,.string new] w fun e w' =>
   e = .returned (.string ⟨(Lib.replaceAll s.data.toList old.data.toList new.data.toList).toArray⟩)∧Below w.heap.size w w':=Any.strings_ReplaceAll Tryz.lays155 Tryz.Builder_Extra_155 s old new m w hs hm h1 hlen
end Go.Proofs
end
section
namespace Go.Proofs
open Go.Shelf
def Tryz.lays161_ren:Go.Shelf.Ren:=⟨fun | 161=>85 | 231=>110 | 227=>111 | 233=>112 | 235=>113 | 228=>144 | 197=>145 | 151=>146 | 260=>165 | 152=>166 | 137=>178 | 119=>179 | 224=>180 | 225=>181 | 217=>182 | 266=>188 | n=>n,fun | 9=>9 | 4=>4 | 3=>3 | 5=>5 | 117=>202 | 116=>201 | 0=>0 | 124=>205 | 105=>223 | 21=>21 | 119=>259 | 46=>247 | 139=>262 | 138=>261 | n=>n,fun | 3=>4 | 4=>5 | n=>n⟩
theorem Tryz.lays161:Go.Proofs.Lays.n161 Tryz.prog Tryz.lays161_ren:={
 mixed:=by kernel_rfl
 f119:=Tryz.func179.trans (congrArg some (by kernel_rfl))
 f137:=Tryz.func178.trans (congrArg some (by kernel_rfl))
 f151:=Tryz.func146.trans (congrArg some (by kernel_rfl))
 f152:=Tryz.func166.trans (congrArg some (by kernel_rfl))
 f161:=Tryz.func85.trans (congrArg some (by kernel_rfl))
 f197:=Tryz.func145.trans (congrArg some (by kernel_rfl))
 f217:=Tryz.func182.trans (congrArg some (by kernel_rfl))
 f224:=Tryz.func180.trans (congrArg some (by kernel_rfl))
 f225:=Tryz.func181.trans (congrArg some (by kernel_rfl))
 f227:=Tryz.func111.trans (congrArg some (by kernel_rfl))
 f228:=Tryz.func144.trans (congrArg some (by kernel_rfl))
 f231:=Tryz.func110.trans (congrArg some (by kernel_rfl))
 f233:=Tryz.func112.trans (congrArg some (by kernel_rfl))
 f235:=Tryz.func113.trans (congrArg some (by kernel_rfl))
 f260:=Tryz.func165.trans (congrArg some (by kernel_rfl))
 f266:=Tryz.func188.trans (congrArg some (by kernel_rfl))
 t0:=Tryz.underlying0
 a0:=Tryz.isAgg0
 z0:=Tryz.sizeOf0
 v0:=Tryz.zeroValue0
 t3:=Tryz.underlying3
 a3:=Tryz.isAgg3
 z3:=Tryz.sizeOf3
 v3:=Tryz.zeroValue3
 t4:=Tryz.underlying4
 a4:=Tryz.isAgg4
 z4:=Tryz.sizeOf4
 v4:=Tryz.zeroValue4
 t5:=Tryz.underlying5
 a5:=Tryz.isAgg5
 z5:=Tryz.sizeOf5
 v5:=Tryz.zeroValue5
 t9:=Tryz.underlying9
 a9:=Tryz.isAgg9
 z9:=Tryz.sizeOf9
 v9:=Tryz.zeroValue9
 t21:=Tryz.underlying21
 a21:=Tryz.isAgg21
 z21:=Tryz.sizeOf21
 v21:=Tryz.zeroValue21
 t46:=Tryz.underlying247
 a46:=Tryz.isAgg247
 z46:=Tryz.sizeOf247
 v46:=Tryz.zeroValue247
 t105:=Tryz.underlying223
 a105:=Tryz.isAgg223
 z105:=Tryz.sizeOf223
 v105:=Tryz.zeroValue223
 t116:=Tryz.underlying201
 a116:=Tryz.isAgg201
 z116:=Tryz.sizeOf201
 t117:=Tryz.underlying202
 a117:=Tryz.isAgg202
 z117:=Tryz.sizeOf202
 v117:=Tryz.zeroValue202
 t119:=Tryz.underlying259
 a119:=Tryz.isAgg259
 z119:=Tryz.sizeOf259
 t124:=Tryz.underlying205
 a124:=Tryz.isAgg205
 z124:=Tryz.sizeOf205
 v124:=Tryz.zeroValue205
 t138:=Tryz.underlying261
 a138:=Tryz.isAgg261
 z138:=Tryz.sizeOf261
 v138:=Tryz.zeroValue261
 t139:=Tryz.underlying262
 a139:=Tryz.isAgg262
 z139:=Tryz.sizeOf262
 v139:=Tryz.zeroValue262
 g3:=by kernel_rfl
 g4:=by kernel_rfl }
open Go.RowKit in
theorem Tryz.strings_TrimLeft_set (s cutset:ByteArray) (w:World) (hcs:cutset.size < 4294967281)
  (hascii:∀ (j:Nat) b,cutset.data.toList[j]? = some b→b.toNat < 128) :
  Calls Tryz.prog 85 #[.string s,.string cutset] w fun e w'=>e = .returned (.string ⟨(Lib.trimLeftS s.data.toList cutset.data.toList).toArray⟩)∧Below w.heap.size w w':=Any.strings_TrimLeft_laid Tryz.lays161 (by kernel_rfl) s cutset w hcs hascii
end Go.Proofs
end
namespace Go.Proofs.YtenoggjjhamdaaaGreatDoor
open Go Go.RowKit
section
def tabName:String:=((Rows.sqlRightRow.laid[2]?).map (fun x=>x.1)).getD default
structure W2 (w:World):Prop where
 tab:Lib.TabIs Tryz.prog w tabName .u64 Lib.pow10Tab
 most:∃ m,w.cell? ⟨3,0,none⟩=some (.int .i64 m)
 syn:∃ tp p,w.var? Tryz.prog "strconv.ErrSyntax" = some #[.iface tp p]
 rng:∃ tp p,w.var? Tryz.prog "strconv.ErrRange" = some #[.iface tp p]
 room:0 < w.heap.size∧1 < w.heap.size
theorem var?_below {P:Program} {B g:Nat} {W W':World} {n:String} {cs:Array Value} (h:Below B W W') (hg:P.globalNamed n=some g) (hgB:g < B) (hv:W.var? P n=some cs):W'.var? P n=some cs:=by
 unfold World.var? at hv ⊢
 simp only [hg,Option.bind_some] at hv ⊢
 rw [h.block g hgB]
 exact hv
theorem W2.ext {w w':World} (h:W2 w) (hx:Ext w w'):W2 w':=by
 obtain ⟨m,hm⟩:=h.most
 obtain ⟨t1,p1,h1⟩:=h.syn
 obtain ⟨t2,p2,h2⟩:=h.rng
 have hr:=h.room
 have hz:=hx.size
 exact ⟨TabIs_below (by kernel_rfl:Tryz.prog.globalNamed tabName=some 2) h.tab hx,⟨m,hx.cell hm⟩,⟨t1,p1,var?_below hx (by kernel_rfl:Tryz.prog.globalNamed "strconv.ErrSyntax" = some 0) (by omega) h1⟩,⟨t2,p2,var?_below hx (by kernel_rfl:Tryz.prog.globalNamed "strconv.ErrRange" = some 1) (by omega) h2⟩,by omega,by omega⟩
theorem Ext.grow (w:World) (os:Array Obj):Ext w (Sort.grow w os):=by
 refine ⟨rfl,rfl,rfl,?_,?_⟩
 ·show w.heap.size ≤ (w.heap ++ os).size
  simp
 ·intro b hb
  show (w.heap ++ os)[b]? = w.heap[b]?
  rw [Array.getElem?_append_left hb]
theorem ret_quiet {P:Program} {I:World→Prop} (hk:∀ w w',I w→Below w.heap.size w w'→I w') {f:FuncId} {d:Nat} {h:Id→O} {l:List A} {r:R} (hent:Enters P f) (vs0:Array Value) (hvs:∀ ι S w (vs:Array Value),VL ι S w l vs.toList→vs=vs0)
  (hc:∀ w,I w→Calls P f vs0 w fun e w'=>∃ v,e = .returned v∧Below w.heap.size w w' ∧ ∀ base prot ι S h,RepR base prot ι S h w' r v):Ret P I f d h l r h:=by
 refine ⟨hent,fun E ι S w vs hE hd hi hS hw hn hr hvl=>?_⟩
 obtain rfl:=hvs ι S w vs hvl
 have hI:I w:=hk _ _ hE.inv (by have:=hr.below; rwa [hE.base] at this)
 refine (hc w hI).mono ?_
 rintro e w' ⟨v,rfl,hb,hv⟩
 obtain ⟨m,hr'⟩:=hr.grow (S':=S) hb (fun _ _ h=>h) (fun b o hs=>⟨Or.inl hs,Nat.lt_of_lt_of_le (hr.inw b o hs) hb.size⟩)
 exact ⟨v,ι,S,rfl,m,hn,hr',hv _ _ _ _ _⟩
theorem va_s {ι:Ix} {S:Sb} {w:World} {v u:Value} (h:VA ι S w (.d (.s v)) u):u=v:=by
 simp only [VA,ValD,CellsD,List.cons.injEq,and_true] at h
 exact h.1
theorem vl1 {ι:Ix} {S:Sb} {w:World} {a:Value} {vs:Array Value} (h:VL ι S w [.d (.s a)] vs.toList):vs = #[a]:=by
 simp only [VL] at h
 obtain ⟨u,us,h1,h2,rfl⟩:=h
 obtain rfl:=va_s h2
 exact Array.ext' h1
theorem vl2 {ι:Ix} {S:Sb} {w:World} {a b:Value} {vs:Array Value} (h:VL ι S w [.d (.s a),.d (.s b)] vs.toList):vs = #[a,b]:=by
 simp only [VL] at h
 obtain ⟨u,us,h1,h2,u2,us2,rfl,h3,rfl⟩:=h
 obtain rfl:=va_s h2
 obtain rfl:=va_s h3
 exact Array.ext' h1
theorem vl3 {ι:Ix} {S:Sb} {w:World} {a b c:Value} {vs:Array Value} (h:VL ι S w [.d (.s a),.d (.s b),.d (.s c)] vs.toList):vs = #[a,b,c]:=by
 simp only [VL] at h
 obtain ⟨u,us,h1,h2,u2,us2,rfl,h3,u3,us3,rfl,h4,rfl⟩:=h
 obtain rfl:=va_s h2
 obtain rfl:=va_s h3
 obtain rfl:=va_s h4
 exact Array.ext' h1
theorem rep_s {base:Nat} {prot:Nat→Prop} {ι:Ix} {S:Sb} {h:Id→O} {w:World} {v:Value} (hv:noAgg v=true):RepR base prot ι S h w (.val (.s v)) v:=by
 show CellsD S w (.s v) [v]
 unfold CellsD
 exact ⟨rfl,hv⟩
theorem bytes_of {a:ByteArray} {l:List UInt8} (h:a.data.toList=l):a=⟨l.toArray⟩:=by subst h; rfl
theorem enters_itoa:Enters Tryz.prog 82:=enters_of Tryz.func82 (by decide) rfl
theorem enters_atoi:Enters Tryz.prog 88:=enters_of Tryz.func88 (by decide) rfl
theorem enters_repl:Enters Tryz.prog 91:=enters_of Tryz.func91 (by decide) rfl
theorem enters_trim:Enters Tryz.prog 85:=enters_of Tryz.func85 (by decide) rfl
theorem enters_cont:Enters Tryz.prog 119:=enters_of Tryz.func119 (by decide) rfl
theorem w2_keep (w w':World) (h:W2 w) (hb:Below w.heap.size w w'):W2 w':=h.ext hb
theorem itoa_ret {d:Nat} {h:Id→O} {n:Int} (h0:-9223372036854775808 ≤ n) (h1:n ≤ 9223372036854775807):Ret Tryz.prog W2 82 d h [.d (.s (.int .i64 n))] (.val (.s (.string ⟨(Lib.itoa n).toArray⟩))) h:=by
 refine ret_quiet w2_keep enters_itoa #[.int .i64 n] (fun _ _ _ _=>vl1) fun w hI=>?_
 refine (Any.strconv_Itoa Tryz.laysM171 n h0 h1 w hI.tab).mono ?_
 rintro e w1 ⟨rfl,j,os,rfl⟩
 exact ⟨_,rfl,(Ext.drewN w j).trans (Ext.grow _ _),fun _ _ _ _ _=>rep_s rfl⟩
theorem trim_ret {d:Nat} {h:Id→O} {s c:ByteArray} (hc:c.data.toList=[32,9,10]):Ret Tryz.prog W2 85 d h [.d (.s (.string s)),.d (.s (.string c))] (.val (.s (.string ⟨(Lib.trimLeftS s.data.toList [32,9,10]).toArray⟩))) h:=by
 refine ret_quiet w2_keep enters_trim #[.string s,.string c] (fun _ _ _ _=>vl2) fun w hI=>?_
 refine (Tryz.strings_TrimLeft_set s c w (by rw [bytes_of hc]; decide) (fun j b hb=>?_)).mono ?_
 ·rw [hc] at hb
  exact ascii_of_all (l:=[32,9,10]) (by decide) j b hb
 ·rintro e w1 ⟨rfl,hb⟩
  rw [hc]
  exact ⟨_,rfl,hb,fun _ _ _ _ _=>rep_s rfl⟩
theorem cont_one (c:UInt8):decide (0 ≤ Lib.indexByte signs c)=signs.contains c:=(Lib.contains_iff_indexByte signs c).symm
theorem cont_ret {d:Nat} {h:Id→O} {a b:ByteArray} (ha:a.data.toList=signs) (hb:b.size=1):Ret Tryz.prog W2 119 d h [.d (.s (.string a)),.d (.s (.string b))] (.val (.s (.bool (signs.contains (b.data.toList.getD 0 0))))) h:=by
 refine ret_quiet w2_keep enters_cont #[.string a,.string b] (fun _ _ _ _=>vl2) fun w hI=>?_
 obtain ⟨c,rfl⟩:∃ c,b=⟨#[c]⟩:=by
  obtain ⟨⟨l⟩⟩:=b
  match l,hb with
  | [c],_=>exact ⟨c,rfl⟩
 refine (Tryz.strings_Contains_one a c w).mono ?_
 rintro e w1 ⟨rfl,rfl⟩
 rw [ha,cont_one]
 exact ⟨_,rfl,Below.refl _ _,fun _ _ _ _ _=>rep_s rfl⟩
theorem repl_room (s:ByteArray) (hs:s.size ≤ 1000000):s.size + Lib.countB s ⟨#[39,39]⟩ * (⟨#[39]⟩:ByteArray).size ≤ 140737488355328:=by
 have:=Lib.countB_le ⟨#[39,39]⟩ (by decide) s.size s (Nat.le_refl _)
 have e:(⟨#[39]⟩:ByteArray).size=1:=rfl
 rw [e]; omega
theorem repl_ret {d:Nat} {h:Id→O} {s a b:ByteArray} (hs:s.size ≤ 1000000) (ha:a.data.toList=[39,39]) (hb:b.data.toList=[39]):Ret Tryz.prog W2 91 d h [.d (.s (.string s)),.d (.s (.string a)),.d (.s (.string b))] (.val (.s (.string (unq s)))) h:=by
 refine ret_quiet w2_keep enters_repl #[.string s,.string a,.string b] (fun _ _ _ _=>vl3) fun w hI=>?_
 obtain ⟨m,hm⟩:=hI.most
 obtain rfl:=bytes_of ha
 obtain rfl:=bytes_of hb
 refine (Tryz.strings_ReplaceAll s ⟨#[39,39]⟩ ⟨#[39]⟩ m w (by omega) hm (by decide) (repl_room s hs)).mono ?_
 rintro e w1 ⟨rfl,hx⟩
 exact ⟨_,rfl,hx,fun _ _ _ _ _=>rep_s rfl⟩
theorem va_int {ι:Ix} {S:Sb} {w:World} (n:Int):VA ι S w (.d (.s (.int .i64 n))) (.int .i64 n):=by
 show CellsD S w (.s (.int .i64 n)) [.int .i64 n]
 unfold CellsD
 exact ⟨rfl,rfl⟩
theorem va_nil {ι:Ix} {S:Sb} {w:World}:VA ι S w (errA false) .nilIface:=by
 show CellsD S w (.s .nilIface) [.nilIface]
 unfold CellsD
 exact ⟨rfl,rfl⟩
theorem va_err {ι:Ix} {S:Sb} {w:World} (N:Nat):VA ι S w (errA true) (.iface 230 (.pointer (some ⟨N,0,none⟩))):=by
 show CellsD S w (.ifc 230 .any) [.iface 230 (.pointer (some ⟨N,0,none⟩))]
 unfold CellsD
 refine ⟨[.pointer (some ⟨N,0,none⟩)],?_,rfl⟩
 unfold CellsD
 exact ⟨_,rfl,rfl⟩
theorem rep_two {base:Nat} {prot:Nat→Prop} {ι:Ix} {S:Sb} {h:Id→O} {w:World} {a b:A} {u v:Value} (h1:VA ι S w a u) (h2:VA ι S w b v):RepR base prot ι S h w (.tup [a,b]) (.tuple #[u,v]):=by
 refine ⟨#[u,v],rfl,?_⟩
 simp only [VL]
 exact ⟨u,[v],rfl,h1,v,[],rfl,h2,rfl⟩
theorem atoi_ret {d:Nat} {h:Id→O} {s:ByteArray} (hs:s.size ≤ 1000000):Ret Tryz.prog W2 88 d h [.d (.s (.string s))] (.tup [.d (.s (.int .i64 (atoiF s).1)),errA (atoiF s).2]) h:=by
 refine ret_quiet w2_keep enters_atoi #[.string s] (fun _ _ _ _=>vl1) fun w hI=>?_
 obtain ⟨t1,p1,h1⟩:=hI.syn
 obtain ⟨t2,p2,h2⟩:=hI.rng
 unfold atoiF
 cases ha:Lib.atoiAll s.data.toList with
 | ok v =>
  refine (Tryz.strconv_Atoi_ok s (by omega) v ha w).mono ?_
  rintro e w1 ⟨rfl,hx⟩
  refine ⟨_,rfl,?_,fun _ _ _ _ _=>rep_two (va_int v) va_nil⟩
  rcases hx with rfl | ⟨t,rfl⟩
  ·exact Below.refl _ _
  ·exact Lib.bytesWorld_below _ _ _
 | range =>
  refine (Any.strconv_Atoi_range_var Tryz.laysC172 s (by omega) ha t2 p2 w h2).mono ?_
  rintro e w1 ⟨N,rfl,_,_,x1⟩
  exact ⟨_,rfl,x1,fun _ _ _ _ _=>rep_two (va_int _) (va_err N)⟩
 | _ =>
  refine (Any.strconv_Atoi_syntax_var Tryz.laysC172 s (by omega) ha t1 p1 w h1).mono ?_
  rintro e w1 ⟨N,rfl,_,_,x1⟩
  exact ⟨_,rfl,x1,fun _ _ _ _ _=>rep_two (va_int _) (va_err N)⟩
theorem enters_join:Enters Tryz.prog 83:=enters_of Tryz.func83 (by decide) rfl
theorem strs_row {S:Sb} {w:World} {b:Nat}:∀ {xs:List D} {ss:List ByteArray} {o n:Nat},strsD xs=some ss→RowD S w b n o xs→ss.length=xs.length ∧ ∀ (j:Nat) x,ss[j]? = some x→S b (o + j)∧w.cell? ⟨b,o + j,none⟩=some (.string x)
 | [],ss,o,n,h,_=>by
  cases h
  exact ⟨rfl,fun j x hj=>by simp at hj⟩
 | .s (.string s) :: l,ss,o,n,h,hr=>by
  unfold strsD at h
  obtain ⟨ss',h1,rfl⟩:=Option.map_eq_some_iff.1 h
  unfold RowD at hr
  obtain ⟨⟨us,h2,h3,h4,h5⟩,h6⟩:=hr
  have hn:n=1:=h3.symm
  subst hn
  unfold CellsD at h4
  obtain ⟨rfl,-⟩:=h4
  obtain ⟨k1,k2⟩:=strs_row h1 h6
  refine ⟨by rw [List.length_cons,List.length_cons,k1],fun j x hj=>?_⟩
  cases j with
  | zero =>
   simp only [List.getElem?_cons_zero,Option.some.injEq] at hj
   subst hj
   exact (h5 0 _ rfl).2
  | succ j =>
   rw [List.getElem?_cons_succ] at hj
   have:=k2 j x hj
   rw [show o + 1 + j=o + (j + 1) by omega] at this
   exact this
theorem join_ret {d:Nat} {h:Id→O} {xs:List D} {ss:List ByteArray} {sep:ByteArray} (hs:strsD xs=some ss) (hne:ss.isEmpty=false) (hl:ss.length ≤ 1000000) (hj:(joinB ss sep).length ≤ 1000000):Ret Tryz.prog W2 83 d h [.d (.lst xs),.d (.s (.string sep))] (.val (.s (.string ⟨(joinB ss sep).toArray⟩))) h:=by
 refine ⟨enters_join,fun E ι S w vs hE hd hi hS hw hn hr hvl=>?_⟩
 simp only [VL] at hvl
 obtain ⟨u,us,h1,h2,u2,us2,rfl,h3,rfl⟩:=hvl
 obtain rfl:=va_s h3
 have h2:CellsD S w (.lst xs) [u]:=h2
 unfold CellsD at h2
 obtain ⟨a,cap,e,hcap,hx⟩:=h2
 simp only [List.cons.injEq,and_true] at e
 subst e
 have hvs:vs = #[.slice a xs.length cap,.string sep]:=Array.ext' h1
 subst hvs
 rcases hx with rfl | ⟨b,o,n,rfl,hrow⟩
 ·cases hs; cases hne
 ·obtain ⟨k1,k2⟩:=strs_row hs hrow
  rw [← k1]
  have hb:b < w.heap.size:=by
   cases ss with
   | nil=>cases hne
   | cons x ss=>exact hr.inw b _ (k2 0 x rfl).1
  refine (Tryz.strings_Join b o cap ss sep w (fun j x hx=>(k2 j x hx).2) hb (by omega) (by omega) (by have:(Lib.join (ss.map (·.data.toList)) sep.data.toList).length ≤ 1000000:=hj; omega)).mono ?_
  rintro e w' ⟨rfl,hb'⟩
  obtain ⟨m,hr'⟩:=hr.grow (S':=S) hb' (fun _ _ h=>h) (fun b o hs=>⟨Or.inl hs,Nat.lt_of_lt_of_le (hr.inw b o hs) hb'.size⟩)
  exact ⟨_,ι,S,rfl,m,hn,hr',rep_s rfl⟩
theorem ext26_ok:ExtOk Tryz.prog W2 ext26:=by
 have same:∀ f g d h l r h',ext26 f=some g→g d h l=some (r,h')→h' = h:=by
  intro f g d h l r h' hf hg
  unfold ext26 at hf
  split at hf
  ·cases hf
   unfold itoaE at hg
   split at hg
   ·split at hg
    ·cases hg; rfl
    ·cases hg
   ·cases hg
  ·split at hf
   ·cases hf
    unfold atoiE at hg
    split at hg
    ·split at hg
     ·cases hg; rfl
     ·cases hg
    ·cases hg
   ·split at hf
    ·cases hf
     unfold replE at hg
     split at hg
     ·split at hg
      ·cases hg; rfl
      ·cases hg
     ·cases hg
    ·split at hf
     ·cases hf
      unfold trimLE at hg
      split at hg
      ·split at hg
       ·cases hg; rfl
       ·cases hg
      ·cases hg
     ·split at hf
      ·cases hf
       unfold containsE at hg
       split at hg
       ·split at hg
        ·cases hg; rfl
        ·cases hg
       ·cases hg
      ·split at hf
       ·cases hf
        unfold joinE at hg
        split at hg
        ·split at hg
         ·split at hg
          ·cases hg; rfl
          ·cases hg
         ·cases hg
        ·cases hg
       ·cases hf
 refine ⟨by kernel_rfl,w2_keep,fun f g d h l r h' hf hg i _=>by rw [same f g d h l r h' hf hg],fun f g d h l r h' hf hg=>?_⟩
 obtain rfl:=same f g d h l r h' hf hg
 unfold ext26 at hf
 split at hf
 ·rename_i e; subst e
  cases hf
  unfold itoaE at hg
  split at hg
  ·split at hg
   ·rename_i n hc
    cases hg
    exact itoa_ret hc.1 hc.2
   ·cases hg
  ·cases hg
 ·split at hf
  ·rename_i e; subst e
   cases hf
   unfold atoiE at hg
   split at hg
   ·split at hg
    ·rename_i s hc
     cases hg
     exact atoi_ret hc
    ·cases hg
   ·cases hg
  ·split at hf
   ·rename_i e; subst e
    cases hf
    unfold replE at hg
    split at hg
    ·split at hg
     ·rename_i s a b hc
      cases hg
      exact repl_ret hc.1 hc.2.1 hc.2.2
     ·cases hg
    ·cases hg
   ·split at hf
    ·rename_i e; subst e
     cases hf
     unfold trimLE at hg
     split at hg
     ·split at hg
      ·rename_i s a hc
       cases hg
       exact trim_ret hc.2
      ·cases hg
     ·cases hg
    ·split at hf
     ·rename_i e; subst e
      cases hf
      unfold containsE at hg
      split at hg
      ·split at hg
       ·rename_i a b hc
        cases hg
        exact cont_ret hc.1 hc.2
       ·cases hg
      ·cases hg
     ·split at hf
      ·rename_i e; subst e
       cases hf
       unfold joinE at hg
       split at hg
       ·split at hg
        ·rename_i ss hss
         split at hg
         ·rename_i hc
          cases hg
          exact join_ret hss hc.1 hc.2.1 hc.2.2
         ·cases hg
        ·cases hg
       ·cases hg
      ·cases hf
end
end Go.Proofs.YtenoggjjhamdaaaGreatDoor
section
namespace Go.Proofs.YtenoggjjhamdaaaGreatDoor
open Go.RowKit Go.ChangeShapes Go.WideShapes Go.Deep
def Opens {α:Type} (P:Program) (t:TypeId) (n:Nat) (R:World→α→List Value→Prop):Prop :=
 P.cellsOf t=n ∧ ∀ {H:Type} (enc:TypeId × Value→H) (w:World) (spare:Nat→Bool) (held:Bool) (fuel:Nat) (cs:List Value) (x:DataW H × List MemPlace),
  DataW.trod enc P w 0 spare held fuel t cs=some x→(∀ m ∈ x.1.weights P t,m ≤ reachBytes)→∃ y,R w y cs
def stringOk (_:World) (s:ByteArray) (l:List Value):Prop:=l=[.string s]∧s.size ≤ reachBytes
def boolOk (_:World) (b:Bool) (l:List Value):Prop:=l=[.bool b]
def intIs (k:IntKind) (_:World) (n:Int) (l:List Value):Prop:=l=[.int k n]∧(Lit.int k n).wf=true
def sliceOk {α:Type} (n bytes:Nat) (R:World→α→List Value→Prop) (w:World) (xs:List α) (l:List Value):Prop:=∃ v,l=[v]∧SliceOf n R w v xs∧xs.length * bytes ≤ reachBytes
theorem opens_string {P:Program} {t:TypeId} (ht:P.underlying t=some .string) (hc:P.cellsOf t=1):Opens P t 1 stringOk :=
 ⟨hc,fun enc w spare held fuel cs x h hw=>by
  obtain ⟨s,rfl,rfl,_⟩:=DataW.trod_string ht h
  refine ⟨s,rfl,?_⟩
  have:=hw s.data.toList.length (by simp [DataW.weights])
  simpa using this⟩
theorem opens_bool {P:Program} {t:TypeId} (ht:P.underlying t=some .bool) (hc:P.cellsOf t=1):Opens P t 1 boolOk :=
 ⟨hc,fun enc w spare held fuel cs x h _=>by
  obtain ⟨s,rfl,rfl⟩:=DataW.trod_bool ht h
  exact ⟨s,rfl⟩⟩
theorem opens_int {P:Program} {t:TypeId} {k:IntKind} (ht:P.underlying t=some (.int k)) (hc:P.cellsOf t=1):Opens P t 1 (intIs k) :=
 ⟨hc,fun enc w spare held fuel cs x h _=>by
  obtain ⟨n,rfl,rfl,hw⟩:=DataW.trod_int ht h
  exact ⟨n,rfl,hw⟩⟩
theorem addr_plain {w:World} {a:Addr} {v:Value} (h:w.cell? a=some v):a=⟨a.block,a.off,none⟩:=by
 obtain ⟨b,o,s⟩:=a
 cases s with
 | none=>rfl
 | some k =>
  unfold World.cell? at h
  split at h
  ·simp at h
  ·simp at h
theorem add_eq (b o j:Nat):(⟨b,o,none⟩:Addr).add j=⟨b,o + j,none⟩:=by
 unfold Addr.add
 by_cases hj:j=0
 ·simp [hj]
 ·simp [hj]
theorem weights_elem {H:Type} {P:Program} {e:TypeId} {l:List (DataW H)} {d:DataW H} (h:d ∈ l):∀ m ∈ d.weights P e,m ∈ DataW.weightsAll P e l:=by
 intro m hm
 induction l with
 | nil=>simp at h
 | cons x l ih =>
  simp only [DataW.weightsAll,List.mem_append]
  rcases List.mem_cons.1 h with rfl | h
  ·exact Or.inl hm
  ·exact Or.inr (ih h)
theorem Opens.arg {P:Program} {α:Type} {t:TypeId} {n:Nat} {R:World→α→List Value→Prop} (hR:Opens P t n R) {H:Type} {enc:TypeId × Value→H} {w:World} {spare:Nat→Bool} {held:Bool} {v:Value} {d:DataW H} {ps:List MemPlace}
  (h:DataW.Trod enc P w 0 spare held t v d ps) (hw:∀ m ∈ d.weights P t,m ≤ reachBytes):∃ y,R w y v.cells.toList:=by
 obtain ⟨fuel,hf⟩:=h
 exact hR.2 enc w spare held fuel _ _ hf hw
theorem reach_arg {H:Type} {P:Program} {ts:List TypeId} {ds:List (DataW H)} (h:(DataW.weightsEach P ts ds).all (· ≤ reachBytes)=true) {j:Nat} {t:TypeId} {d:DataW H} (ht:ts[j]? = some t) (hd:ds[j]? = some d):∀ m ∈ d.weights P t,m ≤ reachBytes:=fun m hm=>by
 have:=List.all_eq_true.1 h _ (DataW.weights_mem_each ht hd m hm)
 simpa using this
end Go.Proofs.YtenoggjjhamdaaaGreatDoor
end
section
namespace Go.Proofs.YtenoggjjhamdaaaGreatDoor
open Go Go.RowKit Go.ChangeShapes Go.WideShapes Go.Deep
def OpensN {α:Type} (N:Nat) (P:Program) (t:TypeId) (n:Nat) (R:World→α→List Value→Prop):Prop :=
 P.cellsOf t=n ∧ ∀ {H:Type} (enc:TypeId × Value→H) (w:World) (spare:Nat→Bool) (held:Bool) (fuel:Nat) (cs:List Value) (x:DataW H × List MemPlace),SizeOf.sizeOf x.1 < N →
  DataW.trod enc P w 0 spare held fuel t cs=some x→(∀ m ∈ x.1.weights P t,m ≤ reachBytes)→∃ y,R w y cs
theorem Opens.n {α:Type} {N:Nat} {P:Program} {t:TypeId} {n:Nat} {R:World→α→List Value→Prop} (h:Opens P t n R):OpensN N P t n R:=⟨h.1,fun enc w spare held fuel cs x _=>h.2 enc w spare held fuel cs x⟩
theorem OpensN.all {α:Type} {P:Program} {t:TypeId} {n:Nat} {R:World→α→List Value→Prop} (h:∀ N,OpensN N P t n R):Opens P t n R:=⟨(h 0).1,fun enc w spare held fuel cs x=>(h (SizeOf.sizeOf x.1 + 1)).2 enc w spare held fuel cs x (Nat.lt_succ_self _)⟩
theorem OpensN.down {α:Type} {N:Nat} {P:Program} {t:TypeId} {n:Nat} {R:World→α→List Value→Prop} (h:OpensN (N + 1) P t n R):OpensN N P t n R:=⟨h.1,fun enc w spare held fuel cs x hx=>h.2 enc w spare held fuel cs x (Nat.lt_succ_of_lt hx)⟩
theorem opens_sliceN {N:Nat} {P:Program} {α:Type} {t e:TypeId} {n bytes:Nat} {R:World→α→List Value→Prop} (ht:P.underlying t=some (.slice e)) (hc:P.cellsOf t=1) (hn:0 < n) (hb:P.bytesOf e=bytes) (he:OpensN N P e n R):OpensN (N + 1) P t 1 (sliceOk n bytes R):=by
 refine ⟨hc,fun enc w spare held fuel cs x hN h hw=>?_⟩
 rcases open_slice ht h with ⟨rfl,rfl⟩ | ⟨a,len,cap,m,k,D,Pl,rfl,_,hl,hm,hmm,rfl,hx⟩
 ·exact ⟨[],_,rfl,SliceOf.nil,by simp⟩
 have hlm:len ≤ m:=by rw [hmm]; split <;> omega
 have hwl:=hw ((((List.range len).map D).length + ((List.range (m - len)).map fun j=>D (len + j)).length) * P.bytesOf e) (by simp [DataW.weights,ht])
 simp only [List.length_map,List.length_range,hb] at hwl
 have hel:∀ i,i < len→∃ y cs',w.cells? 0 (a.add (i * n)) n=some cs' ∧ R w y cs':=by
  intro i hi
  obtain ⟨cs',h1,h2⟩:=hx i (by omega)
  rw [he.1] at h1
  have hmem:D i ∈ (List.range len).map D:=List.mem_map.2 ⟨i,List.mem_range.2 hi,rfl⟩
  have hsz:SizeOf.sizeOf (D i) < N:=by
   have h3:=List.sizeOf_lt_of_mem hmem
   simp only [DataW.slice.sizeOf_spec] at hN
   omega
  obtain ⟨y,hy⟩:=he.2 enc w spare held k cs' _ hsz h2 (fun q hq=>hw q (by
   simp only [DataW.weights,ht,List.mem_cons,List.mem_append]
   exact Or.inr (Or.inl (weights_elem hmem q hq))))
  exact ⟨y,cs',h1,hy⟩
 by_cases h0:len=0
 ·subst h0
  exact ⟨[],_,rfl,⟨some a,cap,rfl,by simp,hm,by simp,fun i hi=>by simp at hi⟩,by simp⟩
 ·obtain ⟨b,off,rfl⟩:∃ b off,a=⟨b,off,none⟩:=by
   obtain ⟨y,cs',h1,_⟩:=hel 0 (by omega)
   obtain ⟨_,h2,h3⟩:=World.cells?_some h1
   have h4:=h3 0 hn
   rw [Nat.zero_mul,add_add] at h4
   have:cs'[0]? = some (cs'[0]'(by omega)):=List.getElem?_eq_getElem (by omega)
   rw [this] at h4
   have h5:a.add (0 + 0)=a:=by simp [Addr.add]
   rw [h5] at h4
   exact ⟨_,_,addr_plain h4⟩
  have hch:∀ i:Fin len,∃ y,∃ cs',w.cells? 0 ((⟨b,off,none⟩:Addr).add (i.val * n)) n=some cs' ∧ R w y cs':=fun i=>hel i.val i.isLt
  let f:Fin len→α:=fun i=>Classical.choose (hch i)
  have hf:∀ i:Fin len,∃ cs',w.cells? 0 ((⟨b,off,none⟩:Addr).add (i.val * n)) n=some cs' ∧ R w (f i) cs':=fun i=>Classical.choose_spec (hch i)
  have hlen:(List.ofFn f).length=len:=by simp
  refine ⟨List.ofFn f,_,rfl,⟨some ⟨b,off,none⟩,cap,by rw [hlen],by omega,hm,by simp,fun i hi=>⟨b,off,rfl,?_⟩⟩,?_⟩
  ·obtain ⟨cs',h1,h2⟩:=hf ⟨i,by omega⟩
   obtain ⟨_,h3,h4⟩:=World.cells?_some h1
   refine ⟨cs',h3,by simpa using h2,fun j hj=>?_⟩
   have h5:=h4 j (by omega)
   rw [add_add,add_eq,List.getElem?_eq_getElem hj] at h5
   simpa [Nat.add_assoc] using h5
  ·rw [hlen]
   refine Nat.le_trans (Nat.mul_le_mul_right _ ?_) hwl
   omega
theorem opens_fieldsN {N:Nat} {P:Program} {t:TypeId} {fs:Array Field} (ht:P.underlying t=some (.struct fs)) {H:Type} {enc:TypeId × Value→H} {w:World} {spare:Nat→Bool} {held:Bool} {fuel:Nat} {cs:List Value} {x:DataW H × List MemPlace} (hN:SizeOf.sizeOf x.1 < N + 1)
  (h:DataW.trod enc P w 0 spare held fuel t cs=some x) (hw:∀ m ∈ x.1.weights P t,m ≤ reachBytes) :
  cs.length=P.cellsOf t ∧ ∀ (i:Nat) (f:Field),fs[i]? = some f→∀ {α:Type} (n:Nat) (R:World→α→List Value→Prop),OpensN N P f.type n R→∃ y,R w y ((cs.drop f.offset).take n):=by
 obtain ⟨xs,k,_,rfl,hl,hlen,hf⟩:=DataW.trod_struct ht h
 refine ⟨hl,fun i f hi α n R hR=>?_⟩
 have h1:=hf i f hi
 have hlt:i < xs.length:=by rw [hlen]; exact (Array.getElem?_eq_some_iff.1 hi).1
 rw [List.getElem?_eq_getElem hlt,hR.1] at h1
 have hsz:SizeOf.sizeOf xs[i].1 < N:=by
  have h3:xs[i].1 ∈ xs.map (·.1):=List.mem_map.2 ⟨_,List.getElem_mem hlt,rfl⟩
  have h4:=List.sizeOf_lt_of_mem h3
  simp only [DataW.agg.sizeOf_spec] at hN
  omega
 refine hR.2 enc w spare held k _ _ hsz h1 (fun m hm=>hw m ?_)
 simp only [DataW.weights,ht]
 refine DataW.weights_mem_each (j:=i) (t:=f.type) (d:=xs[i].1) ?_ ?_ m hm
 ·simp [hi]
 ·simp [hlt]
abbrev AllS (w:World):Sb:=fun b _=>b < w.heap.size
def OD (ty:Ty) (w:World) (x:D) (l:List Value):Prop:=CellsL (AllS w) w x.cells l∧ShT RB ty x ∧ ∀ u ∈ l,u.oneCell' = true
theorem od_flat {ty:Ty} {w:World} {x:D} {u:Value} (hf:x.flat=true) (h:CellsD (AllS w) w x [u]) (ht:ShT RB ty x) (ho:u.oneCell' = true):OD ty w x [u]:=by
 refine ⟨?_,ht,fun v hv=>by simp only [List.mem_singleton] at hv; subst hv; exact ho⟩
 have e:x.cells=[x]:=by cases x <;> first | rfl | cases hf
 rw [e]
 unfold CellsL CellsL
 exact ⟨u,[],rfl,⟨hf,h⟩,rfl⟩
theorem opStrD {N:Nat}:OpensN N Tryz.prog 9 1 (OD (.str bS)):=by
 refine Opens.n ⟨by kernel_rfl,fun enc w spare held fuel cs x h hw=>?_⟩
 obtain ⟨s,rfl,hs⟩:=(opens_string Tryz.underlying9 (by kernel_rfl)).2 enc w spare held fuel cs x h hw
 refine ⟨.s (.string s),od_flat rfl (by unfold CellsD; exact ⟨rfl,rfl⟩) ?_ rfl⟩
 unfold ShT
 exact ⟨s,rfl,Nat.le_trans hs (by decide)⟩
theorem opIntD {N:Nat}:OpensN N Tryz.prog 3 1 (OD tI):=by
 refine Opens.n ⟨by kernel_rfl,fun enc w spare held fuel cs x h hw=>?_⟩
 obtain ⟨n,rfl,hs⟩:=(opens_int (k:=.i64) Tryz.underlying3 (by kernel_rfl)).2 enc w spare held fuel cs x h hw
 refine ⟨.s (.int .i64 n),od_flat rfl (by unfold CellsD; exact ⟨rfl,rfl⟩) ?_ rfl⟩
 unfold ShT
 exact ⟨n,rfl⟩
theorem opBoolD {N:Nat}:OpensN N Tryz.prog 4 1 (OD .bool):=by
 refine Opens.n ⟨by kernel_rfl,fun enc w spare held fuel cs x h hw=>?_⟩
 obtain ⟨n,rfl⟩:=(opens_bool Tryz.underlying4 (by kernel_rfl)).2 enc w spare held fuel cs x h hw
 refine ⟨.s (.bool n),od_flat rfl (by unfold CellsD; exact ⟨rfl,rfl⟩) ?_ rfl⟩
 unfold ShT
 exact ⟨n,rfl⟩
theorem cellsD_of {S:Sb} {w:World} {x:D} {l:List Value} (h:CellsL S w x.cells l):CellsD S w x l:=by
 have flat:∀ y:D,CellsL S w [y] l→CellsD S w y l:=fun y h=>by
  unfold CellsL CellsL at h
  obtain ⟨u,us,rfl,⟨_,h2⟩,rfl⟩:=h
  exact h2
 cases x with
 | agg ys=>unfold CellsD; exact h
 | s v=>exact flat _ h
 | lst xs=>exact flat _ h
 | ifc t y=>exact flat _ h
 | any=>exact flat _ h
theorem opSliceD {N n bytes:Nat} {t e:TypeId} {ty:Ty} (ht:Tryz.prog.underlying t=some (.slice e)) (hc:Tryz.prog.cellsOf t=1) (hn:0 < n) (hb:Tryz.prog.bytesOf e=bytes) (hpos:0 < bytes) (he:OpensN N Tryz.prog e n (OD ty)):OpensN (N + 1) Tryz.prog t 1 (OD (.lst ty bB)):=by
 refine ⟨hc,fun enc w spare held fuel cs x hN h hw=>?_⟩
 obtain ⟨xs,v,rfl,hs,hlim⟩:=(opens_sliceN ht hc hn hb he).2 enc w spare held fuel cs x hN h hw
 obtain ⟨a,cap,rfl,h2,h3,h4,h5⟩:=hs.out
 have hlen:xs.length ≤ bB:=by
  have h6:xs.length * 1 ≤ xs.length * bytes:=Nat.mul_le_mul_left _ hpos
  have h7:reachBytes ≤ bB:=by decide
  omega
 have hel:∀ i (hi:i < xs.length),∃ l,OD ty w xs[i] l:=fun i hi=>by
  obtain ⟨b,off,ha,l,hl,hR,_⟩:=h5 i hi
  exact ⟨l,hR⟩
 refine ⟨.lst xs,od_flat rfl ?_ ?_ rfl⟩
 ·unfold CellsD
  refine ⟨a,cap,by simp,by simpa using h2,?_⟩
  by_cases h0:xs=[]
  ·exact Or.inl h0
  ·right
   have hp:0 < xs.length:=List.length_pos_iff.2 h0
   obtain ⟨b,off,ha,_⟩:=h5 0 hp
   refine ⟨b,off,n,ha,RowD_get.2 fun i x hx=>?_⟩
   obtain ⟨hi,rfl⟩:=List.getElem?_eq_some_iff.1 hx
   obtain ⟨b',off',ha',l,hl,hR,hcl⟩:=h5 i hi
   rw [ha] at ha'
   simp only [Option.some.injEq,Addr.mk.injEq] at ha'
   obtain ⟨rfl,rfl,_⟩:=ha'
   refine ⟨l,hl,?_,cellsD_of hR.1,fun j u hj=>?_⟩
   ·have:=(CellsL_get.1 hR.1).1
    omega
   ·obtain ⟨hj',rfl⟩:=List.getElem?_eq_some_iff.1 hj
    have h6:=hcl j hj'
    exact ⟨hR.2.2 _ (List.getElem_mem hj'),lt_of_cell h6,h6⟩
 ·unfold ShT
  exact ⟨xs,rfl,hlen,fun y hy=>by
   obtain ⟨i,hi,rfl⟩:=List.getElem_of_mem hy
   obtain ⟨l,hl⟩:=hel i hi
   exact hl.2.1⟩
theorem od_one {ty:Ty} {w:World} {y:D} {c:Value} (h:OD ty w y [c]) (hf:y.flat=true):CellsD (AllS w) w y [c]:=cellsD_of h.1
theorem cells_cons {S:Sb} {w:World} {x:D} {xs:List D} {u:Value} {us:List Value} (hf:x.flat=true) (h:CellsD S w x [u]) (k:CellsL S w xs us):CellsL S w (x :: xs) (u :: us):=by
 unfold CellsL
 exact ⟨u,us,rfl,⟨hf,h⟩,k⟩
theorem cells_nil {S:Sb} {w:World}:CellsL S w [] []:=by unfold CellsL; rfl
theorem od_int {w:World} {y:D} {c:Value} (h:OD tI w y [c]):∃ n,y = .s (.int .i64 n)∧CellsD (AllS w) w y [c]∧c.oneCell' = true:=by
 have:=h.2.1
 unfold ShT at this
 obtain ⟨n,rfl⟩:=this
 exact ⟨n,rfl,od_one h rfl,h.2.2 c List.mem_cons_self⟩
theorem od_str {w:World} {y:D} {c:Value} (h:OD (.str bS) w y [c]):(∃ s,y = .s (.string s)∧s.size ≤ bS)∧CellsD (AllS w) w y [c]∧c.oneCell' = true:=by
 have:=h.2.1
 unfold ShT at this
 obtain ⟨s,rfl,hs⟩:=this
 exact ⟨⟨s,rfl,hs⟩,od_one h rfl,h.2.2 c List.mem_cons_self⟩
theorem od_bool {w:World} {y:D} {c:Value} (h:OD .bool w y [c]):(∃ b,y = .s (.bool b))∧CellsD (AllS w) w y [c]∧c.oneCell' = true:=by
 have:=h.2.1
 unfold ShT at this
 obtain ⟨s,rfl⟩:=this
 exact ⟨⟨s,rfl⟩,od_one h rfl,h.2.2 c List.mem_cons_self⟩
theorem od_lst {ty:Ty} {b:Nat} {w:World} {y:D} {c:Value} (h:OD (.lst ty b) w y [c]):(∃ xs,y = .lst xs∧xs.length ≤ b ∧ ∀ x ∈ xs,ShT RB ty x)∧CellsD (AllS w) w y [c]∧c.oneCell' = true:=by
 have:=h.2.1
 unfold ShT at this
 obtain ⟨s,rfl,hs⟩:=this
 exact ⟨⟨s,rfl,hs⟩,od_one h rfl,h.2.2 c List.mem_cons_self⟩
theorem ShL_cons {R:Nat→D→Prop} {t:Ty} {ts:List Ty} {x:D} {l:List D} (h:ShT R t x) (k:ShL R ts l):ShL R (t :: ts) (x :: l):=by
 unfold ShL
 exact ⟨x,l,rfl,h,k⟩
theorem ShL_nil {R:Nat→D→Prop}:ShL R [] []:=by unfold ShL; rfl
theorem shT_int {R:Nat→D→Prop} {n:Int}:ShT R tI (.s (.int .i64 n)):=by unfold ShT; exact ⟨n,rfl⟩
theorem shT_bool {R:Nat→D→Prop} {b:Bool}:ShT R .bool (.s (.bool b)):=by unfold ShT; exact ⟨b,rfl⟩
theorem shT_str {R:Nat→D→Prop} {b:Nat} {s:ByteArray} (h:s.size ≤ b):ShT R (.str b) (.s (.string s)):=by unfold ShT; exact ⟨s,rfl,h⟩
theorem shT_lst {R:Nat→D→Prop} {e:Ty} {b:Nat} {xs:List D} (h:xs.length ≤ b) (k:∀ x ∈ xs,ShT R e x):ShT R (.lst e b) (.lst xs):=by unfold ShT; exact ⟨xs,rfl,h,k⟩
theorem pos_of {n:Nat} (h:Nat.blt 0 n=true):0 < n:=by simpa using h
theorem opFrnD {N:Nat}:OpensN N Tryz.prog 285 3 (OD (.st [tI,tI,tI])):=by
 refine OpensN.down ⟨by kernel_rfl,fun enc w spare held fuel cs x hN h hw=>?_⟩
 obtain ⟨hl,hf⟩:=opens_fieldsN (N:=N) Tryz.underlying285 hN h hw
 rw [show Tryz.prog.cellsOf 285=3 by kernel_rfl] at hl
 match cs,hl with
 | [c0,c1,c2],_ =>
 obtain ⟨y0,h0⟩:=hf 0 _ rfl 1 _ opIntD
 obtain ⟨y1,h1⟩:=hf 1 _ rfl 1 _ opIntD
 obtain ⟨y2,h2⟩:=hf 2 _ rfl 1 _ opIntD
 obtain ⟨n0,rfl,k0,q0⟩:=od_int (c:=c0) h0
 obtain ⟨n1,rfl,k1,q1⟩:=od_int (c:=c1) h1
 obtain ⟨n2,rfl,k2,q2⟩:=od_int (c:=c2) h2
 refine ⟨.agg [_,_,_],(cells_cons rfl k0 (cells_cons rfl k1 (cells_cons rfl k2 cells_nil))),?_,fun u hu=>?_⟩
 ·unfold ShT
  refine ⟨_,rfl,?_⟩
  refine ShL_cons shT_int ?_
  refine ShL_cons shT_int ?_
  refine ShL_cons shT_int ?_
  exact ShL_nil
 ·simp only [List.mem_cons,List.not_mem_nil,or_false] at hu
  rcases hu with rfl | rfl | rfl <;> assumption
theorem opSmD {N:Nat}:OpensN N Tryz.prog 287 3 (OD (.st [tI,tI,tI])):=by
 refine OpensN.down ⟨by kernel_rfl,fun enc w spare held fuel cs x hN h hw=>?_⟩
 obtain ⟨hl,hf⟩:=opens_fieldsN (N:=N) Tryz.underlying287 hN h hw
 rw [show Tryz.prog.cellsOf 287=3 by kernel_rfl] at hl
 match cs,hl with
 | [c0,c1,c2],_ =>
 obtain ⟨y0,h0⟩:=hf 0 _ rfl 1 _ opIntD
 obtain ⟨y1,h1⟩:=hf 1 _ rfl 1 _ opIntD
 obtain ⟨y2,h2⟩:=hf 2 _ rfl 1 _ opIntD
 obtain ⟨n0,rfl,k0,q0⟩:=od_int (c:=c0) h0
 obtain ⟨n1,rfl,k1,q1⟩:=od_int (c:=c1) h1
 obtain ⟨n2,rfl,k2,q2⟩:=od_int (c:=c2) h2
 refine ⟨.agg [_,_,_],(cells_cons rfl k0 (cells_cons rfl k1 (cells_cons rfl k2 cells_nil))),?_,fun u hu=>?_⟩
 ·unfold ShT
  refine ⟨_,rfl,?_⟩
  refine ShL_cons shT_int ?_
  refine ShL_cons shT_int ?_
  refine ShL_cons shT_int ?_
  exact ShL_nil
 ·simp only [List.mem_cons,List.not_mem_nil,or_false] at hu
  rcases hu with rfl | rfl | rfl <;> assumption
theorem opColD {N:Nat}:OpensN N Tryz.prog 108 4 (OD (.st cCol)):=by
 refine OpensN.down ⟨by kernel_rfl,fun enc w spare held fuel cs x hN h hw=>?_⟩
 obtain ⟨hl,hf⟩:=opens_fieldsN (N:=N) Tryz.underlying108 hN h hw
 rw [show Tryz.prog.cellsOf 108=4 by kernel_rfl] at hl
 match cs,hl with
 | [c0,c1,c2,c3],_ =>
 obtain ⟨y0,h0⟩:=hf 0 _ rfl 1 _ opStrD
 obtain ⟨y1,h1⟩:=hf 1 _ rfl 1 _ opIntD
 obtain ⟨y2,h2⟩:=hf 2 _ rfl 1 _ opIntD
 obtain ⟨y3,h3⟩:=hf 3 _ rfl 1 _ opBoolD
 obtain ⟨⟨n0,rfl,z0⟩,k0,q0⟩:=od_str (c:=c0) h0
 obtain ⟨n1,rfl,k1,q1⟩:=od_int (c:=c1) h1
 obtain ⟨n2,rfl,k2,q2⟩:=od_int (c:=c2) h2
 obtain ⟨⟨n3,rfl⟩,k3,q3⟩:=od_bool (c:=c3) h3
 refine ⟨.agg [_,_,_,_],(cells_cons rfl k0 (cells_cons rfl k1 (cells_cons rfl k2 (cells_cons rfl k3 cells_nil)))),?_,fun u hu=>?_⟩
 ·unfold ShT
  refine ⟨_,rfl,?_⟩
  refine ShL_cons (shT_str z0) ?_
  refine ShL_cons shT_int ?_
  refine ShL_cons shT_int ?_
  refine ShL_cons shT_bool ?_
  exact ShL_nil
 ·simp only [List.mem_cons,List.not_mem_nil,or_false] at hu
  rcases hu with rfl | rfl | rfl | rfl <;> assumption
theorem opValD {N:Nat}:OpensN N Tryz.prog 44 3 (OD (.st [tI,tI,.str bS])):=by
 refine OpensN.down ⟨by kernel_rfl,fun enc w spare held fuel cs x hN h hw=>?_⟩
 obtain ⟨hl,hf⟩:=opens_fieldsN (N:=N) Tryz.underlying44 hN h hw
 rw [show Tryz.prog.cellsOf 44=3 by kernel_rfl] at hl
 match cs,hl with
 | [c0,c1,c2],_ =>
 obtain ⟨y0,h0⟩:=hf 0 _ rfl 1 _ opIntD
 obtain ⟨y1,h1⟩:=hf 1 _ rfl 1 _ opIntD
 obtain ⟨y2,h2⟩:=hf 2 _ rfl 1 _ opStrD
 obtain ⟨n0,rfl,k0,q0⟩:=od_int (c:=c0) h0
 obtain ⟨n1,rfl,k1,q1⟩:=od_int (c:=c1) h1
 obtain ⟨⟨n2,rfl,z2⟩,k2,q2⟩:=od_str (c:=c2) h2
 refine ⟨.agg [_,_,_],(cells_cons rfl k0 (cells_cons rfl k1 (cells_cons rfl k2 cells_nil))),?_,fun u hu=>?_⟩
 ·unfold ShT
  refine ⟨_,rfl,?_⟩
  refine ShL_cons shT_int ?_
  refine ShL_cons shT_int ?_
  refine ShL_cons (shT_str z2) ?_
  exact ShL_nil
 ·simp only [List.mem_cons,List.not_mem_nil,or_false] at hu
  rcases hu with rfl | rfl | rfl <;> assumption
theorem cells_inv {S:Sb} {w:World} {x:D} {xs:List D} {u:Value} {us:List Value} (h:CellsL S w (x :: xs) (u :: us)):x.flat=true∧CellsD S w x [u]∧CellsL S w xs us:=by
 unfold CellsL at h
 obtain ⟨u',us',h1,⟨hf,h2⟩,h3⟩:=h
 simp only [List.cons.injEq] at h1
 obtain ⟨rfl,rfl⟩:=h1
 exact ⟨hf,h2,h3⟩
theorem od_val {w:World} {y:D} {a b c:Value} (h:OD (.st [tI,tI,.str bS]) w y [a,b,c]):∃ (m n:Int) (s:ByteArray),y = .agg [.s (.int .i64 m),.s (.int .i64 n),.s (.string s)]∧s.size ≤ bS∧CellsD (AllS w) w (.s (.int .i64 m)) [a]∧CellsD (AllS w) w (.s (.int .i64 n)) [b]∧CellsD (AllS w) w (.s (.string s)) [c]∧a.oneCell' = true∧b.oneCell' = true∧c.oneCell' = true:=by
 obtain ⟨h1,h2,h3⟩:=h
 simp only [ShT,ShL] at h2
 obtain ⟨_,rfl,_,_,rfl,⟨m,rfl⟩,_,_,rfl,⟨n,rfl⟩,_,_,rfl,⟨s,rfl,hs⟩,rfl⟩:=h2
 have h1:CellsL (AllS w) w [.s (.int .i64 m),.s (.int .i64 n),.s (.string s)] [a,b,c]:=h1
 obtain ⟨_,k1,h1⟩:=cells_inv h1
 obtain ⟨_,k2,h1⟩:=cells_inv h1
 obtain ⟨_,k3,_⟩:=cells_inv h1
 exact ⟨m,n,s,rfl,hs,k1,k2,k3,h3 _ (by simp),h3 _ (by simp),h3 _ (by simp)⟩
theorem ShB_succ:∀ {k:Nat} {x:D},ShB k x→ShB (k + 1) x
 | 0,x,h=>h.elim
 | k + 1,x,h=>by
  obtain ⟨ds,h1,h2⟩:=h
  exact ⟨ds,h1,ShL_mono (fun i y hy=>⟨hy.1,ShB_succ hy.2⟩) h2⟩
theorem ShB_mono {a b:Nat} {x:D} (hab:a ≤ b) (h:ShB a x):ShB b x:=by
 obtain ⟨k,rfl⟩:=Nat.exists_eq_add_of_le hab
 induction k with
 | zero=>exact h
 | succ k ih=>exact ShB_succ (ih (by omega))
theorem ShB_all:∀ {xs:List D},(∀ x ∈ xs,∃ m,ShB m x)→∃ m,∀ x ∈ xs,ShB m x
 | [],_=>⟨0,fun x hx=>nomatch hx⟩
 | x :: xs,h=>by
  obtain ⟨a,ha⟩:=h x List.mem_cons_self
  obtain ⟨b,hb⟩:=ShB_all (xs:=xs) fun y hy=>h y (List.mem_cons_of_mem _ hy)
  refine ⟨max a b,fun y hy=>?_⟩
  rcases List.mem_cons.1 hy with rfl | hy
  ·exact ShB_mono (Nat.le_max_left _ _) ha
  ·exact ShB_mono (Nat.le_max_right _ _) (hb y hy)
theorem opExpD:∀ {N:Nat},OpensN N Tryz.prog 59 6 (OD (.nm 551))
 | 0=>⟨by kernel_rfl,fun enc w spare held fuel cs x hN h hw=>absurd hN (Nat.not_lt_zero _)⟩
 | N + 1=>by
  refine ⟨by kernel_rfl,fun enc w spare held fuel cs x hN h hw=>?_⟩
  obtain ⟨hl,hf⟩:=opens_fieldsN (N:=N) Tryz.underlying59 hN h hw
  rw [show Tryz.prog.cellsOf 59=6 by kernel_rfl] at hl
  match cs,hl with
  | [c0,c1,c2,c3,c4,c5],_ =>
  obtain ⟨y0,h0⟩:=hf 0 _ rfl 1 _ opIntD
  obtain ⟨y1,h1⟩:=hf 1 _ rfl 1 _ opIntD
  obtain ⟨y2,h2⟩:=hf 2 _ rfl 3 _ opValD
  obtain ⟨y3,h3⟩:=hf 3 _ rfl 1 _ (opSliceD Tryz.underlying28 (by kernel_rfl) (by decide) rfl (pos_of (by kernel_rfl)) opExpD).down
  obtain ⟨n0,rfl,k0,q0⟩:=od_int (c:=c0) h0
  obtain ⟨n1,rfl,k1,q1⟩:=od_int (c:=c1) h1
  obtain ⟨m,n,s,rfl,hs,k2,k3,k4,q2,q3,q4⟩:=od_val (a:=c2) (b:=c3) (c:=c4) h2
  obtain ⟨⟨xs,rfl,hl5,hx5⟩,k5,q5⟩:=od_lst (c:=c5) h3
  obtain ⟨M,hM⟩:=ShB_all (xs:=xs) fun x hx=>by
   have:=hx5 x hx
   unfold ShT at this
   exact this.2
  refine ⟨.agg [_,_,_,_,_,_],cells_cons rfl k0 (cells_cons rfl k1 (cells_cons rfl k2 (cells_cons rfl k3 (cells_cons rfl k4 (cells_cons rfl k5 cells_nil))))),?_,fun u hu=>?_⟩
  ·unfold ShT
   refine ⟨rfl,M + 1,_,rfl,?_⟩
   refine ShL_cons shT_int (ShL_cons shT_int (ShL_cons shT_int (ShL_cons shT_int (ShL_cons (shT_str hs) (ShL_cons (shT_lst hl5 fun x hx=>?_) ShL_nil)))))
   unfold ShT
   exact ⟨rfl,hM x hx⟩
  ·simp only [List.mem_cons,List.not_mem_nil,or_false] at hu
   rcases hu with rfl | rfl | rfl | rfl | rfl | rfl <;> assumption
theorem opTblD {N:Nat}:OpensN N Tryz.prog 98 6 (OD (.st cTabB)):=by
 refine OpensN.down ⟨by kernel_rfl,fun enc w spare held fuel cs x hN h hw=>?_⟩
 obtain ⟨hl,hf⟩:=opens_fieldsN (N:=N) Tryz.underlying98 hN h hw
 rw [show Tryz.prog.cellsOf 98=6 by kernel_rfl] at hl
 match cs,hl with
 | [c0,c1,c2,c3,c4,c5],_ =>
 obtain ⟨y0,h0⟩:=hf 0 _ rfl 1 _ opStrD
 obtain ⟨y1,h1⟩:=hf 1 _ rfl 1 _ (opSliceD Tryz.underlying94 (by kernel_rfl) (by decide) rfl (pos_of (by kernel_rfl)) opColD).down
 obtain ⟨y2,h2⟩:=hf 2 _ rfl 1 _ (opSliceD Tryz.underlying30 (by kernel_rfl) (by decide) rfl (pos_of (by kernel_rfl)) opIntD).down
 obtain ⟨y3,h3⟩:=hf 3 _ rfl 1 _ (opSliceD Tryz.underlying28 (by kernel_rfl) (by decide) rfl (pos_of (by kernel_rfl)) opExpD).down
 obtain ⟨y4,h4⟩:=hf 4 _ rfl 1 _ (opSliceD Tryz.underlying95 (by kernel_rfl) (by decide) rfl (pos_of (by kernel_rfl)) opFrnD).down
 obtain ⟨y5,h5⟩:=hf 5 _ rfl 1 _ (opSliceD Tryz.underlying96 (by kernel_rfl) (by decide) rfl (pos_of (by kernel_rfl)) opSmD).down
 obtain ⟨⟨n0,rfl,z0⟩,k0,q0⟩:=od_str (c:=c0) h0
 obtain ⟨⟨n1,rfl,z1⟩,k1,q1⟩:=od_lst (c:=c1) h1
 obtain ⟨⟨n2,rfl,z2⟩,k2,q2⟩:=od_lst (c:=c2) h2
 obtain ⟨⟨n3,rfl,z3⟩,k3,q3⟩:=od_lst (c:=c3) h3
 obtain ⟨⟨n4,rfl,z4⟩,k4,q4⟩:=od_lst (c:=c4) h4
 obtain ⟨⟨n5,rfl,z5⟩,k5,q5⟩:=od_lst (c:=c5) h5
 refine ⟨.agg [_,_,_,_,_,_],(cells_cons rfl k0 (cells_cons rfl k1 (cells_cons rfl k2 (cells_cons rfl k3 (cells_cons rfl k4 (cells_cons rfl k5 cells_nil)))))),?_,fun u hu=>?_⟩
 ·unfold ShT
  refine ⟨_,rfl,?_⟩
  refine ShL_cons (shT_str z0) ?_
  refine ShL_cons (shT_lst z1.1 z1.2) ?_
  refine ShL_cons (shT_lst z2.1 z2.2) ?_
  refine ShL_cons (shT_lst z3.1 z3.2) ?_
  refine ShL_cons (shT_lst z4.1 z4.2) ?_
  refine ShL_cons (shT_lst z5.1 z5.2) ?_
  exact ShL_nil
 ·simp only [List.mem_cons,List.not_mem_nil,or_false] at hu
  rcases hu with rfl | rfl | rfl | rfl | rfl | rfl <;> assumption
theorem opSchD {N:Nat}:OpensN N Tryz.prog 24 1 (OD (.st cSchB)):=by
 refine OpensN.down ⟨by kernel_rfl,fun enc w spare held fuel cs x hN h hw=>?_⟩
 obtain ⟨hl,hf⟩:=opens_fieldsN (N:=N) Tryz.underlying24 hN h hw
 rw [show Tryz.prog.cellsOf 24=1 by kernel_rfl] at hl
 match cs,hl with
 | [c0],_ =>
 obtain ⟨y0,h0⟩:=hf 0 _ rfl 1 _ (opSliceD Tryz.underlying22 (by kernel_rfl) (by decide) rfl (pos_of (by kernel_rfl)) opTblD).down
 obtain ⟨⟨n0,rfl,z0⟩,k0,q0⟩:=od_lst (c:=c0) h0
 refine ⟨.agg [_],(cells_cons rfl k0 cells_nil),?_,fun u hu=>?_⟩
 ·unfold ShT
  refine ⟨_,rfl,?_⟩
  refine ShL_cons (shT_lst z0.1 z0.2) ?_
  exact ShL_nil
 ·simp only [List.mem_cons,List.not_mem_nil,or_false] at hu
  rcases hu with rfl <;> assumption
theorem opens_schema:Opens Tryz.prog 24 1 fun w x l=>IsBig x∧ValD (AllS w) w x (.agg l.toArray):=by
 refine OpensN.all fun N=>⟨by kernel_rfl,fun enc w spare held fuel cs x hN h hw=>?_⟩
 obtain ⟨y,h1,h2,h3⟩:=opSchD.2 enc w spare held fuel cs x hN h hw
 unfold ShT at h2
 obtain ⟨ds,rfl,h2⟩:=h2
 exact ⟨.agg ds,⟨ds,rfl,h2⟩,cs.toArray,rfl,h1⟩
end Go.Proofs.YtenoggjjhamdaaaGreatDoor
end
section
namespace Go.Proofs.YtenoggjjhamdaaaGreatDoor
open Go.ChangeShapes Go.WideShapes Go.ChangeAt Go.RowKit
theorem own:ownKnob Tryz.prog.godebug=none:=by kernel_rfl
theorem laidOut:laidOutB Tryz.prog=true:=by kernel_rfl
theorem stays {H:Type} {enc:TypeId × Value→H} {P:Program} (hl:laidOutB P=true) {W W':World} (hb:Ext W W') :
  ∀ (ts:List TypeId) (vs:List Value) (ds:List (DataW H)) (ps:List MemPlace),(∀ t ∈ ts,P.readableRec t=true∧t < P.types.size)→DataW.TrodAll enc P W 0 (fun _=>true) true ts vs ds ps→(∀ x ∈ ps,x.block < W.heap.size) →
   DataW.TrodAll enc P W' 0 (fun b=>decide (b < W.heap.size)) true ts vs ds ps:=by
 intro ts
 induction ts with
 | nil =>
  intro vs ds ps _ h _
  obtain ⟨rfl,rfl,rfl⟩:=trodAll_nil h
  exact trodAll_mk0
 | cons t ts ih =>
  intro vs ds ps hr h hp
  obtain ⟨v0,vs0,d0,ds0,p0,q0,rfl,rfl,rfl,h0,r0⟩:=trodAll_cons h
  have h1:=hr t (by simp)
  exact trodAll_cons_mk (Below.trod hl h1.1 h1.2 h0 hb (fun x hx=>hp x (List.mem_append.2 (Or.inl hx)))) (ih _ _ _ (fun t ht=>hr t (by simp [ht])) r0 (fun x hx=>hp x (List.mem_append.2 (Or.inr hx))))
theorem post_law {H:Type} {enc:TypeId × Value→H} {P:Program} (hl:laidOutB P=true) {f:Func} {s:ChangeSpec} {tb:TypeId} (hb:P.underlying tb=some .bool) (hvars:s.vars=[]) (hres:f.resultTypes = #[tb]) {W W':World} {args:Array Value} {ds gs:List (DataW H)} {before:List MemPlace}
  (hW:DataW.Whole enc P f.params.toList s.vars false W args.toList ds gs before) (hr:∀ t ∈ f.params.toList,P.readableRec t=true∧t < P.types.size)
  (hfn:(s.fn H (ds ++ gs)).results=[.lit (.bool true)]∧(s.fn H (ds ++ gs)).args=ds∧(s.fn H (ds ++ gs)).vars=[]) (hx:Ext W W') :
  ∃ v,Ending.returned (.bool true) = .returned v∧s.post enc P f false true false false W args v W':=by
 have hlt:=hW.lt
 have hW':=hW
 obtain ⟨p,q,hA,hV,rfl,hfz,hnd⟩:=hW
 rw [hvars] at hV
 obtain ⟨rfl,rfl⟩:=trodVars_none hV
 refine ⟨_,rfl,ds,[],p ++ [],[],p,[],hW',?_,?_,?_,hx.frame _,fun h=>by cases h⟩
 ·rw [hfn.1,hres]
  exact trodAll_cons_mk (shut_bool hb _) trodAll_mk0
 ·rw [hfn.2.1]
  exact stays hl hx _ _ _ _ hr hA (fun x hx=>hlt x (List.mem_append.2 (Or.inl hx)))
 ·rw [hfn.2.2,hvars]
  rfl
def cellOf:DataW Unit→Value
 | .lit (.int k n)=>Value.int k n
 | _=>undef
def firstCells:Array Value:=(match Go.Pinned.utf8First with | .agg ps=>ps.map cellOf | _=>[]).toArray
def acceptCells:Array Value:=#[.int .u8 128,.int .u8 191,.int .u8 160,.int .u8 191,.int .u8 128,.int .u8 159,.int .u8 144,.int .u8 191,.int .u8 128,.int .u8 143] ++ Array.replicate 22 (.int .u8 0)
def layFirst:Obj→Obj
 | .cells _ t frozen=>.cells firstCells t frozen
 | o=>o
def layAccept:Obj→Obj
 | .cells _ t frozen=>.cells acceptCells t frozen
 | o=>o
end Go.Proofs.YtenoggjjhamdaaaGreatDoor
end
