/-
  WHAT IS PROVED HERE: parts of the proof: Cpa26 Cpb26 Cpc26 Kn26 Cpd26.
-/
import Derived.Test.YtenoggjjhamdaaaGreatDoorB07
import Derived.Test.YtenoggjjhamdaaaGreatDoorB15
set_option linter.all false
namespace Go.Proofs.YtenoggjjhamdaaaGreatDoor
open Go Go.RowKit
section
theorem okWithin (bd:BD) (k:Nat):Ok26 bd k cWithin:=checks_ok (base26 (ixs:=[]) (ctrs_nil _ _)) (las:=lWithin) (fn:=Tryz.f30) (fuel:=2000) rfl Tryz.func30 (by decide) (by kernel_rfl)
theorem okKey (bd:BD) (k:Nat):Ok26 bd k cKey:=checks_ok (base26 (ixs:=[]) (ctrs_cons (okWithin bd k) (ctrs_nil _ _))) (las:=lKey) (fn:=Tryz.f32) (fuel:=2000) rfl Tryz.func32 (by decide) (by kernel_rfl)
theorem okBlank (bd:BD) (k:Nat):Ok26 bd k cBlank:=checks_ok (base26 (ixs:=[]) (ctrs_nil _ _)) (las:=lBlank) (fn:=Tryz.f34) (fuel:=2000) rfl Tryz.func34 (by decide) (by kernel_rfl)
theorem okVRight (bd:BD) (k:Nat):Ok26 bd k cVRight:=checks_ok (base26 (ixs:=[]) (ctrs_nil _ _)) (las:=lVRight) (fn:=Tryz.f104) (fuel:=2000) rfl Tryz.func104 (by decide) (by kernel_rfl)
theorem okRKind (bd:BD) (k:Nat):Ok26 bd k cRKind:=checks_ok (base26 (ixs:=[]) (ctrs_nil _ _)) (las:=lRKind) (fn:=Tryz.f140) (fuel:=2000) rfl Tryz.func140 (by decide) (by kernel_rfl)
theorem okRCheck (bd:BD) (k:Nat):Ok26 bd k cRCheck:=checks_ok (base26 (ixs:=[]) (ctrs_cons (okVRight bd k) (ctrs_cons (okRKind bd k) (ctrs_nil _ _)))) (las:=lRCheck) (fn:=Tryz.f102) (fuel:=2000) rfl Tryz.func102 (by decide) (by kernel_rfl)
theorem okRRight (bd:BD) (k:Nat):Ok26 bd k cRRight:=checks_ok (base26 (ixs:=[]) (ctrs_cons (okRCheck bd k) (ctrs_nil _ _))) (las:=lRRight) (fn:=Tryz.f74) (fuel:=2000) rfl Tryz.func74 (by decide) (by kernel_rfl)
theorem okInsert (bd:BD) (k:Nat):Ok26 bd k cInsert:=checks_ok (base26 (ixs:=[]) (ctrs_cons (okBlank bd k) (ctrs_cons (okRRight bd k) (ctrs_cons (okKey bd k) (ctrs_cons (okWithin bd k) (ctrs_nil _ _)))))) (las:=lInsert) (fn:=Tryz.f31) (fuel:=2000) rfl Tryz.func31 (by decide) (by kernel_rfl)
theorem okOVal (bd:BD) (k:Nat):Ok26 bd k cOVal:=checks_ok (base26 (ixs:=[]) (ctrs_cons (okVRight bd k) (ctrs_nil _ _))) (las:=lOVal) (fn:=Tryz.f77) (fuel:=2000) rfl Tryz.func77 (by decide) (by kernel_rfl)
theorem okOPlace (bd:BD) (k:Nat):Ok26 bd k cOPlace:=checks_ok (base26 (ixs:=[]) (ctrs_cons (okWithin bd k) (ctrs_nil _ _))) (las:=lOPlace) (fn:=Tryz.f78) (fuel:=2000) rfl Tryz.func78 (by decide) (by kernel_rfl)
theorem okIndexI (bd:BD) (k:Nat):Ok26 bd k cIndexI:=checks_ok (base26 (ixs:=[]) (ctrs_nil _ _)) (las:=lIndexI) (fn:=Tryz.f103) (fuel:=2000) rfl Tryz.func103 (by decide) (by kernel_rfl)
theorem okContI (bd:BD) (k:Nat):Ok26 bd k cContI:=checks_ok (base26 (ixs:=[]) (ctrs_cons (okIndexI bd k) (ctrs_nil _ _))) (las:=lContI) (fn:=Tryz.f75) (fuel:=2000) rfl Tryz.func75 (by decide) (by kernel_rfl)
theorem okCell (bd:BD) (k:Nat):Ok26 bd k cCell:=checks_ok (base26 (ixs:=[]) (ctrs_cons (okOKinds bd k) (ctrs_cons (okContI bd k) (ctrs_cons (okOVal bd k) (ctrs_cons (okOPlace bd k) (ctrs_nil _ _)))))) (las:=lCell) (fn:=Tryz.f33) (fuel:=2000) rfl Tryz.func33 (by decide) (by kernel_rfl)
theorem okORight (bd:BD) (k:Nat):Ok26 bd k cORight:=checks_ok (base26 (ixs:=[]) (ctrs_cons (okWithin bd k) (ctrs_cons (okInsert bd k) (ctrs_cons (okKey bd k) (ctrs_cons (okCell bd k) (ctrs_cons (okBlank bd k) (ctrs_nil _ _))))))) (las:=lORight) (fn:=Tryz.f10) (fuel:=2000) rfl Tryz.func10 (by decide) (by kernel_rfl)
end
section
theorem okSTab1 (bd:BD) (k:Nat):Ok26 bd k cSTab1:=checks_ok (base26 (ixs:=[]) (ctrs_nil _ _)) (las:=lSTab1) (fn:=Tryz.f93) (fuel:=2000) rfl Tryz.func93 (by decide) (by kernel_rfl)
theorem okIxTab (bd:BD) (k:Nat):Ok26 bd k cIxTab:=checks_ok (base26 (ixs:=[]) (ctrs_cons (okSTab1 bd k) (ctrs_nil _ _))) (las:=lIxTab) (fn:=Tryz.f92) (fuel:=2000) rfl Tryz.func92 (by decide) (by kernel_rfl)
theorem okSTab (bd:BD) (k:Nat):Ok26 bd k cSTab:=checks_ok (base26 (ixs:=[]) (ctrs_cons (okIxTab bd k) (ctrs_nil _ _))) (las:=lSTab) (fn:=Tryz.f64) (fuel:=2000) rfl Tryz.func64 (by decide) (by kernel_rfl)
theorem okSCol1 (bd:BD) (k:Nat):Ok26 bd k cSCol1:=checks_ok (base26 (ixs:=[]) (ctrs_nil _ _)) (las:=lSCol1) (fn:=Tryz.f90) (fuel:=2000) rfl Tryz.func90 (by decide) (by kernel_rfl)
theorem okIxCol (bd:BD) (k:Nat):Ok26 bd k cIxCol:=checks_ok (base26 (ixs:=[]) (ctrs_cons (okSCol1 bd k) (ctrs_nil _ _))) (las:=lIxCol) (fn:=Tryz.f89) (fuel:=2000) rfl Tryz.func89 (by decide) (by kernel_rfl)
theorem okSCol (bd:BD) (k:Nat):Ok26 bd k cSCol:=checks_ok (base26 (ixs:=[]) (ctrs_cons (okIxCol bd k) (ctrs_nil _ _))) (las:=lSCol) (fn:=Tryz.f55) (fuel:=2000) rfl Tryz.func55 (by decide) (by kernel_rfl)
theorem okWTable (bd:BD) (k:Nat):Ok26 bd k cWTable:=checks_ok (base26 (ixs:=[]) (ctrs_cons (okSTab bd k) (ctrs_nil _ _))) (las:=lWTable) (fn:=Tryz.f53) (fuel:=2000) rfl Tryz.func53 (by decide) (by kernel_rfl)
theorem okWAt (bd:BD) (k:Nat):Ok26 bd k cWAt:=checks_ok (base26 (ixs:=[]) (ctrs_cons (okSCol bd k) (ctrs_nil _ _))) (las:=lWAt) (fn:=Tryz.f54) (fuel:=2000) rfl Tryz.func54 (by decide) (by kernel_rfl)
theorem stWExprs {bd:BD} {k:Nat} (h:Ok26 bd k cWExpr):Ok26 bd k cWExprs:=checks_ok (base26 (ixs:=[]) (ctrs_cons h (ctrs_nil _ _))) (las:=lWExprs) (fn:=Tryz.f56) (fuel:=2000) rfl Tryz.func56 (by decide) (by kernel_rfl)
theorem suWExprs {bd:BD} {k:Nat} (h:Ok26 bd k cWExpr.up):Ok26 bd k cWExprs.up:=checks_ok (base26 (ixs:=[]) (ctrs_cons h (ctrs_nil _ _))) (las:=(lWExprs.map LA.up)) (fn:=Tryz.f56) (fuel:=2000) rfl Tryz.func56 (by decide) (by kernel_rfl)
theorem okWExpr (bd:BD):∀ k:Nat,Ok26 bd k cWExpr
 | 0=>checks_ok (base26 (ixs:=[]) (ctrs_cons (okWAt bd 0) (ctrs_cons (suWExprs (ok_upN (c:=cWExpr) rfl)) (ctrs_nil _ _)))) (las:=lWExpr) (fn:=Tryz.f57) (fuel:=2000) rfl Tryz.func57 (by decide) (by kernel_rfl)
 | k + 1=>checks_ok (base26 (ixs:=[]) (ctrs_cons (okWAt bd (k + 1)) (ctrs_cons (suWExprs (ok_up (F:=fam26 bd) (okWExpr bd k) (by decide))) (ctrs_nil _ _)))) (las:=lWExpr) (fn:=Tryz.f57) (fuel:=2000) rfl Tryz.func57 (by decide) (by kernel_rfl)
theorem okWExprs (bd:BD) (k:Nat):Ok26 bd k cWExprs:=stWExprs (okWExpr bd k)
end
section
theorem okShown (bd:BD) (k:Nat):Ok26 bd k cShown:=checks_ok (base26 (ixs:=[]) (ctrs_nil _ _)) (las:=lShown) (fn:=Tryz.f66) (fuel:=2000) rfl Tryz.func66 (by decide) (by kernel_rfl)
theorem okGrp1 (bd:BD) (k:Nat):Ok26 bd k cGrp1:=checks_ok (base26 (ixs:=[]) (ctrs_nil _ _)) (las:=lGrp1) (fn:=Tryz.f99) (fuel:=2000) rfl Tryz.func99 (by decide) (by kernel_rfl)
theorem okIxOut (bd:BD) (k:Nat):Ok26 bd k cIxOut:=checks_ok (base26 (ixs:=[]) (ctrs_cons (okGrp1 bd k) (ctrs_nil _ _))) (las:=lIxOut) (fn:=Tryz.f139) (fuel:=2000) rfl Tryz.func139 (by decide) (by kernel_rfl)
theorem okCoOut (bd:BD) (k:Nat):Ok26 bd k cCoOut:=checks_ok (base26 (ixs:=[]) (ctrs_cons (okIxOut bd k) (ctrs_nil _ _))) (las:=lCoOut) (fn:=Tryz.f98) (fuel:=2000) rfl Tryz.func98 (by decide) (by kernel_rfl)
theorem okGrouped (bd:BD) (k:Nat):Ok26 bd k cGrouped:=checks_ok (base26 (ixs:=[]) (ctrs_cons (okCoOut bd k) (ctrs_nil _ _))) (las:=lGrouped) (fn:=Tryz.f70) (fuel:=2000) rfl Tryz.func70 (by decide) (by kernel_rfl)
theorem okERight (bd:BD) (k:Nat):Ok26 bd k cERight:=checks_ok (base26 (ixs:=[]) (ctrs_nil _ _)) (las:=lERight) (fn:=Tryz.f123) (fuel:=2000) rfl Tryz.func123 (by decide) (by kernel_rfl)
theorem okDeep (bd:BD):∀ k:Nat,Ok26 bd k cDeep
 | 0=>checks_ok (base26 (ixs:=[]) (ctrs_cons (ok_upZ (c:=cDeep) (Or.inl rfl) rfl) (ctrs_nil _ _))) (las:=lDeep) (fn:=Tryz.f94) (fuel:=2000) rfl Tryz.func94 (by decide) (by kernel_rfl)
 | k + 1=>checks_ok (base26 (ixs:=[]) (ctrs_cons (ok_up (F:=fam26 bd) (okDeep bd k) (by decide)) (ctrs_nil _ _))) (las:=lDeep) (fn:=Tryz.f94) (fuel:=2000) rfl Tryz.func94 (by decide) (by kernel_rfl)
theorem okFormed (bd:BD):∀ k:Nat,Ok26 bd k cFormed
 | 0=>checks_ok (base26 (ixs:=[]) (ctrs_cons (okEKinds bd 0) (ctrs_cons (okERight bd 0) (ctrs_cons (ok_upZ (c:=cFormed) (Or.inl rfl) rfl) (ctrs_nil _ _))))) (las:=lFormed) (fn:=Tryz.f95) (fuel:=2000) rfl Tryz.func95 (by decide) (by kernel_rfl)
 | k + 1=>checks_ok (base26 (ixs:=[]) (ctrs_cons (okEKinds bd (k + 1)) (ctrs_cons (okERight bd (k + 1)) (ctrs_cons (ok_up (F:=fam26 bd) (okFormed bd k) (by decide)) (ctrs_nil _ _))))) (las:=lFormed) (fn:=Tryz.f95) (fuel:=2000) rfl Tryz.func95 (by decide) (by kernel_rfl)
theorem okThere (bd:BD):∀ k:Nat,Ok26 bd k cThere
 | 0=>checks_ok (base26 (ixs:=[]) (ctrs_cons (ok_upZ (c:=cThere) (Or.inl rfl) rfl) (ctrs_nil _ _))) (las:=lThere) (fn:=Tryz.f68) (fuel:=2000) rfl Tryz.func68 (by decide) (by kernel_rfl)
 | k + 1=>checks_ok (base26 (ixs:=[]) (ctrs_cons (ok_up (F:=fam26 bd) (okThere bd k) (by decide)) (ctrs_nil _ _))) (las:=lThere) (fn:=Tryz.f68) (fuel:=2000) rfl Tryz.func68 (by decide) (by kernel_rfl)
theorem okTogether (bd:BD) (k:Nat):Ok26 bd k cTogether:=checks_ok (base26 (ixs:=[]) (ctrs_nil _ _)) (las:=lTogether) (fn:=Tryz.f96) (fuel:=2000) rfl Tryz.func96 (by decide) (by kernel_rfl)
theorem suEqX {bd:BD} {k:Nat} (h:Ok26 bd k cSame.up):Ok26 bd k cEqX.up:=checks_ok (base26 (ixs:=[]) (ctrs_cons h (ctrs_nil _ _))) (las:=(lEqX.map LA.up)) (fn:=Tryz.f101) (fuel:=2000) rfl Tryz.func101 (by decide) (by kernel_rfl)
theorem okSame (bd:BD):∀ k:Nat,Ok26 bd k cSame
 | 0=>checks_ok (base26 (ixs:=[]) (ctrs_cons (suEqX (ok_upZ (c:=cSame) (Or.inl rfl) rfl)) (ctrs_nil _ _))) (las:=lSame) (fn:=Tryz.f73) (fuel:=2000) rfl Tryz.func73 (by decide) (by kernel_rfl)
 | k + 1=>checks_ok (base26 (ixs:=[]) (ctrs_cons (suEqX (ok_up (F:=fam26 bd) (okSame bd k) (by decide))) (ctrs_nil _ _))) (las:=lSame) (fn:=Tryz.f73) (fuel:=2000) rfl Tryz.func73 (by decide) (by kernel_rfl)
theorem okOut1 (bd:BD) (k:Nat):Ok26 bd k cOut1:=checks_ok (base26 (ixs:=[]) (ctrs_cons (okSame bd k) (ctrs_nil _ _))) (las:=lOut1) (fn:=Tryz.f72) (fuel:=2000) rfl Tryz.func72 (by decide) (by kernel_rfl)
theorem okIxX (bd:BD) (k:Nat):Ok26 bd k cIxX:=checks_ok (base26 (ixs:=[]) (ctrs_cons (okOut1 bd k) (ctrs_nil _ _))) (las:=lIxX) (fn:=Tryz.f100) (fuel:=2000) rfl Tryz.func100 (by decide) (by kernel_rfl)
theorem okCoX (bd:BD) (k:Nat):Ok26 bd k cCoX:=checks_ok (base26 (ixs:=[]) (ctrs_cons (okIxX bd k) (ctrs_nil _ _))) (las:=lCoX) (fn:=Tryz.f71) (fuel:=2000) rfl Tryz.func71 (by decide) (by kernel_rfl)
end
section
set_option maxRecDepth 4000
theorem cols_row {R:Nat→D→Prop} {x:D} (h:ShT R (.st cCol) x):∃ (s:ByteArray) (a b:Int) (c:Bool),x = .agg [.s (.string s),.s (.int .i64 a),.s (.int .i64 b),.s (.bool c)]∧s.size ≤ bS:=by
 simp only [ShT,ShL] at h
 obtain ⟨_,rfl,_,_,rfl,⟨s,rfl,hs⟩,_,_,rfl,⟨a,rfl⟩,_,_,rfl,⟨b,rfl⟩,_,_,rfl,⟨c,rfl⟩,rfl⟩:=h
 exact ⟨s,a,b,c,rfl,hs⟩
theorem tab_row {R:Nat→D→Prop} {x:D} (h:ShT R (.st cTab) x):∃ (s:ByteArray) (cols:List D) (a b c e:D),x = .agg [.s (.string s),.lst cols,a,b,c,e]∧cols.length ≤ bL ∧ ∀ y ∈ cols,ShT R (.st cCol) y:=by
 simp only [cTab] at h
 obtain ⟨_,rfl,h⟩:=h
 simp only [ShL] at h
 obtain ⟨_,_,rfl,h1,_,_,rfl,h2,a,_,rfl,_,b,_,rfl,_,c,_,rfl,_,e,_,rfl,_,rfl⟩:=h
 simp only [ShT] at h1
 obtain ⟨s,rfl,_⟩:=h1
 obtain ⟨cols,rfl,h3,h4⟩:=h2
 exact ⟨s,cols,a,b,c,e,rfl,h3,h4⟩
def allI (xs:List D):Prop:=∀ x ∈ xs,∃ n:Int,x = .s (.int .i64 n)
def isKs:R→Prop
 | .tup [.clip [],.d (.s (.bool b))]=>True
 | .freshT 1 xs [.d (.s (.bool b))]=>allI xs∧xs.length ≤ bL
 | _=>False
theorem isKs_clip (b:Bool):isKs (.tup [.clip [],.d (.s (.bool b))])=True:=rfl
theorem isKs_fresh (xs:List D) (b:Bool):isKs (.freshT 1 xs [.d (.s (.bool b))])=(allI xs∧xs.length ≤ bL):=rfl
attribute [simp] isKs_clip isKs_fresh
theorem kinds1_ex (R:Nat→D→Prop) (hS:∀ (s:ByteArray) (a b:Int) (c:Bool),s.size ≤ bS→∃ n:Int,ev26 66 0 E0 [.d (.agg [.s (.string s),.s (.int .i64 a),.s (.int .i64 b),.s (.bool c)])]=some (.val (.s (.int .i64 n)),E0))
  {d:Nat} {id:Id} {ver:Nat} (hid:id.1 < d) (tabs:List D) (hb:tabs.length ≤ bL) (htabs:∀ x ∈ tabs,ShT R (.st cTab) x) (n:Int) (h:Id→O) (hbox:h id = .box ver [.d (.lst tabs)]) :
  ∃ r h',ev26 65 d h [.d (.s (.int .i64 n)),.bp id ver 0]=some (r,h')∧h' = h∧isKs r:=by
 refine evr_bodyP (n:=200000005) rfl (fn:=Tryz.f65) Tryz.func65 rfl (by simp [Tryz.ntmps65]) (by decide) ?_
 by_cases k0:n < 0
 ·simp [Tryz.ntmps65,Tryz.results65,hbox,hid,id_ne hid,id_ne' hid,k0,(show keepT Tryz.f65.name=true from rfl)]
  exact ⟨_,_,⟨rfl,rfl⟩,rfl,by simp⟩
 ·by_cases k1:(tabs.length:Int) ≤ n
  ·simp [Tryz.ntmps65,Tryz.results65,hbox,hid,id_ne hid,id_ne' hid,k0,k1,(show keepT Tryz.f65.name=true from rfl)]
   exact ⟨_,_,⟨rfl,rfl⟩,rfl,by simp⟩
  ·have hn:n.toNat < tabs.length:=by omega
   obtain ⟨s,cols,a,b,c,e,hrow,hcl,hcols⟩:=tab_row (htabs _ (List.getElem_mem hn))
   have hg:tabs[n.toNat]? = some (.agg [.s (.string s),.lst cols,a,b,c,e]):=by rw [List.getElem?_eq_getElem hn,hrow]
   simp [Tryz.ntmps65,Tryz.results65,hbox,hid,id_ne hid,id_ne' hid,k0,k1,hg,(show keepT Tryz.f65.name=true from rfl)]
   refine ⟨⟨by omega,by omega⟩,?_⟩
   refine Wk_range cols [25,26,27,7,28,29,30,31,32,5,33,24] [] 24 (fun j t h=>(j=0∧t 5 = .clip []) ∨ ∃ v xs,t 5 = .sl (d,32) v 0 j∧h (d,32) = .vec v 1 xs false∧xs.length=j∧allI xs) (by have:bL=100000000:=rfl; omega) (by have:bL=100000000:=rfl; omega) (by simp) (Or.inl ⟨rfl,by simp⟩) ?_ ?_
   ·intro j hj t h' hi hT hT2 hH hH2 hJ hw
    obtain ⟨q1,q2,q3,q4,hq,hqs⟩:=cols_row (hcols _ (List.getElem_mem hj))
    obtain ⟨m,hm⟩:=hS q1 q2 q3 q4 hqs
    rcases hJ with ⟨rfl,h5⟩ | ⟨v,xs,h5,hv,hx,ha⟩
    ·simp [hT,hH,hj,hi,hw,hq,hm,h5,hT2,hH2,tb3,(show IntKind.i64.wrap 1=1 from rfl),Tryz.ntmps65,Tryz.results65]
     intro x hx
     simp at hx
     exact ⟨_,hx⟩
    ·subst hx
     have hlen:(xs.length + 1) * 9 ≤ 70368744177664:=by have:bL=100000000:=rfl; omega
     simp [hT,hH,hj,hi,hw,hq,hm,h5,hv,hT2,hH2,tb3,hlen,Tryz.ntmps65,Tryz.results65]
     intro x hx
     rcases List.mem_append.1 hx with hx | hx
     ·exact ha x hx
     ·simp at hx
      exact ⟨_,hx⟩
   ·intro t h' hi hT hT2 hH hH2 hJ
    have hcut:Go.Proofs.YtenoggjjhamdaaaGreatDoor.cut d h h' = h:=by
     funext i
     unfold Go.Proofs.YtenoggjjhamdaaaGreatDoor.cut
     split
     ·exact hH i (by simp) (by omega)
     ·rfl
    rcases hJ with ⟨hl,h5⟩ | ⟨v,xs,h5,hv,hx,ha⟩
    ·simp [hT,hH,hi,h5,(show keepT Tryz.f65.name=true from rfl),Tryz.ntmps65,Tryz.results65]
     exact ⟨_,_,⟨rfl,rfl⟩,hcut,by simp⟩
    ·simp [hT,hH,hi,h5,hv,hx,(show keepT Tryz.f65.name=true from rfl),Tryz.ntmps65,Tryz.results65]
     exact ⟨_,_,⟨rfl,rfl⟩,hcut,by simp [ha]; omega⟩
end
section
theorem okPPeek (bd:BD) (k:Nat):Ok26 bd k cPPeek:=checks_ok (base26 (ixs:=[]) (ctrs_nil _ _)) (las:=lPPeek) (fn:=Tryz.f62) (fuel:=2000) rfl Tryz.func62 (by decide) (by kernel_rfl)
theorem okPNext (bd:BD) (k:Nat):Ok26 bd k cPNext:=checks_ok (base26 (ixs:=[]) (ctrs_cons (okPPeek bd k) (ctrs_nil _ _))) (las:=lPNext) (fn:=Tryz.f63) (fuel:=2000) rfl Tryz.func63 (by decide) (by kernel_rfl)
theorem okPTake (bd:BD) (k:Nat):Ok26 bd k cPTake:=checks_ok (base26 (ixs:=[]) (ctrs_cons (okPPeek bd k) (ctrs_cons (okPNext bd k) (ctrs_nil _ _)))) (las:=lPTake) (fn:=Tryz.f25) (fuel:=2000) rfl Tryz.func25 (by decide) (by kernel_rfl)
theorem okPNeed (bd:BD) (k:Nat):Ok26 bd k cPNeed:=checks_ok (base26 (ixs:=[]) (ctrs_cons (okPTake bd k) (ctrs_nil _ _))) (las:=lPNeed) (fn:=Tryz.f46) (fuel:=2000) rfl Tryz.func46 (by decide) (by kernel_rfl)
theorem okPName (bd:BD) (k:Nat):Ok26 bd k cPName:=checks_ok (base26 (ixs:=[]) (ctrs_cons (okPNext bd k) (ctrs_nil _ _))) (las:=lPName) (fn:=Tryz.f48) (fuel:=2000) rfl Tryz.func48 (by decide) (by kernel_rfl)
theorem okPDone (bd:BD) (k:Nat):Ok26 bd k cPDone:=checks_ok (base26 (ixs:=[]) (ctrs_nil _ _)) (las:=lPDone) (fn:=Tryz.f22) (fuel:=2000) rfl Tryz.func22 (by decide) (by kernel_rfl)
theorem okPNum (bd:BD) (k:Nat):Ok26 bd k cPNum:=checks_ok (base26 (ixs:=[]) (ctrs_cons (okPNext bd k) (ctrs_cons (okAtoi bd k) (ctrs_cons (okItoa bd k) (ctrs_nil _ _))))) (las:=lPNum) (fn:=Tryz.f52) (fuel:=2000) rfl Tryz.func52 (by decide) (by kernel_rfl)
theorem okPText (bd:BD) (k:Nat):Ok26 bd k cPText:=checks_ok (base26 (ixs:=[]) (ctrs_cons (okPNext bd k) (ctrs_cons (okRepl bd k) (ctrs_nil _ _)))) (las:=lPText) (fn:=Tryz.f60) (fuel:=2000) rfl Tryz.func60 (by decide) (by kernel_rfl)
theorem okPLit (bd:BD) (k:Nat):Ok26 bd k cPLit:=checks_ok (base26 (ixs:=[]) (ctrs_cons (okPTake bd k) (ctrs_cons (okPPeek bd k) (ctrs_cons (okPText bd k) (ctrs_cons (okPNum bd k) (ctrs_nil _ _)))))) (las:=lPLit) (fn:=Tryz.f59) (fuel:=2000) rfl Tryz.func59 (by decide) (by kernel_rfl)
theorem okPCol (bd:BD) (k:Nat):Ok26 bd k cPCol:=checks_ok (base26 (ixs:=[]) (ctrs_cons (okPNum bd k) (ctrs_cons (okPNeed bd k) (ctrs_cons (okPName bd k) (ctrs_nil _ _))))) (las:=lPCol) (fn:=Tryz.f49) (fuel:=2000) rfl Tryz.func49 (by decide) (by kernel_rfl)
theorem okPExpr (bd:BD):∀ k:Nat,Ok26 bd k cPExpr
 | 0=>checks_ok (base26 (ixs:=[]) (ctrs_cons (okPTake bd 0) (ctrs_cons (okPPeek bd 0) (ctrs_cons (okPNext bd 0) (ctrs_cons (okPCol bd 0) (ctrs_cons (okPLit bd 0) (ctrs_cons (okPNeed bd 0) (ctrs_cons (okOprs bd 0) (ctrs_cons (ok_upP (c:=cPExpr) (by unfold cPExpr; exact List.mem_cons_self)) (ctrs_nil _ _)))))))))) (las:=lPExpr) (fn:=Tryz.f87) (fuel:=2000) rfl Tryz.func87 (by decide) (by kernel_rfl)
 | k + 1=>checks_ok (base26 (ixs:=[]) (ctrs_cons (okPTake bd (k + 1)) (ctrs_cons (okPPeek bd (k + 1)) (ctrs_cons (okPNext bd (k + 1)) (ctrs_cons (okPCol bd (k + 1)) (ctrs_cons (okPLit bd (k + 1)) (ctrs_cons (okPNeed bd (k + 1)) (ctrs_cons (okOprs bd (k + 1)) (ctrs_cons (ok_up (F:=fam26 bd) (okPExpr bd k) (by decide)) (ctrs_nil _ _)))))))))) (las:=lPExpr) (fn:=Tryz.f87) (fuel:=2000) rfl Tryz.func87 (by decide) (by kernel_rfl)
theorem okPExprs (bd:BD) (k:Nat):Ok26 bd k cPExprs:=checks_ok (base26 (ixs:=[]) (ctrs_cons (okPTake bd k) (ctrs_cons (okPExpr bd k) (ctrs_nil _ _)))) (las:=lPExprs) (fn:=Tryz.f50) (fuel:=2000) rfl Tryz.func50 (by decide) (by kernel_rfl)
theorem okPOut (bd:BD) (k:Nat):Ok26 bd k cPOut:=checks_ok (base26 (ixs:=[]) (ctrs_cons (okAggs bd k) (ctrs_cons (okPPeek bd k) (ctrs_cons (okPNext bd k) (ctrs_cons (okPNeed bd k) (ctrs_cons (okPExpr bd k) (ctrs_nil _ _))))))) (las:=lPOut) (fn:=Tryz.f47) (fuel:=2000) rfl Tryz.func47 (by decide) (by kernel_rfl)
theorem okPOrd (bd:BD) (k:Nat):Ok26 bd k cPOrd:=checks_ok (base26 (ixs:=[]) (ctrs_cons (okPNum bd k) (ctrs_cons (okPTake bd k) (ctrs_nil _ _)))) (las:=lPOrd) (fn:=Tryz.f51) (fuel:=2000) rfl Tryz.func51 (by decide) (by kernel_rfl)
end
end Go.Proofs.YtenoggjjhamdaaaGreatDoor
