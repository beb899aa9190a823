/-
  WHAT IS PROVED HERE: parts of the proof: Lift26 Aw26.
-/
import Derived.Stop.LaidErr
import Derived.Shelf.Vars
import Derived.Test.YtenoggjjhamdaaaGreatDoorB22
import Derived.Test.YtenoggjjhamdaaaGreatDoorB23
set_option linter.all false
namespace Go.Proofs.YtenoggjjhamdaaaGreatDoor
open Go Go.RowKit
section
theorem gES:Tryz.prog.globalNamed "strconv.ErrSyntax" = some 0:=by kernel_rfl
theorem gER:Tryz.prog.globalNamed "strconv.ErrRange" = some 1:=by kernel_rfl
theorem gEST:(Tryz.prog.globals[0]?).map (·.type)=some 169:=by kernel_rfl
theorem gERT:(Tryz.prog.globals[1]?).map (·.type)=some 169:=by kernel_rfl
theorem cellsES:Tryz.prog.cellsOf 266=1:=by kernel_rfl
theorem cellsOfS:Tryz.prog.cellsOf 9=1:=by kernel_rfl
def esName:String:=(match (Rows.laid_strconv_ErrSyntax:DataW Unit) with | .iface n _=>n | _=>default)
theorem starES (s:String) (h:s.toList=[Char.ofNat 42]):s ++ "errors.errorString" = esName:=by
 apply String.toList_inj.1
 rw [String.toList_append,h]
 decide
theorem rowES (u:TypeId) (h:Tryz.prog.typeName? 3 u=some esName):u=264 :=
 typeName_ptr_named (nm := "errors.errorString") (by rw [starES _ (by decide)]; kernel_rfl) (by kernel_rfl) (by decide) u (by rw [starES _ (by decide)]; exact h)
theorem u64_prog:Tryz.prog.underlying 236=some (.int .u64):=Tryz.underlying236
theorem w2_of {w:World} (h:laidMet Tryz.prog Rows.sqlRightRow.laid w) (hsh:w.ShapedOpen Tryz.prog):W2 w:=by
 have h3:=h.tail.tail
 have h5:=h3.tail.tail
 have h6:=h5.tail
 obtain ⟨a0,s0,hv0,hc0,-,-⟩:=laid_sentinel h6 gES gEST Tryz.underlying169 rowES Tryz.underlying264 Tryz.underlying266 rfl rfl Tryz.underlying9 cellsES cellsOfS
 obtain ⟨a1,s1,hv1,hc1,-,-⟩:=laid_sentinel h5 gER gERT Tryz.underlying169 rowES Tryz.underlying264 Tryz.underlying266 rfl rfl Tryz.underlying9 cellsES cellsOfS
 have hm:=cell_of_shapedOpen_int (g:=3) (t:=3) (zero:=#[.int .i64 0]) hsh (of_decide_eq_true (by kernel_rfl)) (by kernel_rfl) rfl (by kernel_rfl) (by kernel_rfl) Tryz.underlying3
 refine ⟨?_,hm,⟨_,_,hv0⟩,⟨_,_,hv1⟩,?_⟩
 ·exact Lib.tabIs_of_head (g:=2) (by kernel_rfl) (by kernel_rfl) Tryz.underlying255 u64_prog (by kernel_rfl) (by kernel_rfl) (by exact h3)
 ·exact ⟨lt_of_cell (World.var?_cell gES hv0 0),lt_of_cell (World.var?_cell gER hv1 0)⟩
noncomputable def dataCells (d:DataW Unit):Array Value:=(match d with | .agg ps=>ps.map cellOf | _=>[]).toArray
def layCells (cs:Array Value):Obj→Obj
 | .cells _ t frozen=>.cells cs t frozen
 | o=>o
def textOf (l:List UInt8):Value:=.string ⟨l.toArray⟩
noncomputable def holdHeap (os:Os):Array Obj:=(World.holding Tryz.prog os ⟨#[],#[],[]⟩).heap
noncomputable def laidWorld2 (os:Os):World :=
 { World.holding Tryz.prog os ⟨#[],#[],[]⟩ with heap :=
  ((((((((holdHeap os).modify 4 layFirst).modify 5 layAccept).modify 6 (layCells (dataCells Rows.laid_math_bits_deBruijn32tab))).modify 7 (layCells (dataCells Rows.laid_math_bits_deBruijn64tab))).modify 2 (layCells (dataCells Rows.laid_internal_strconv_uint64pow10))).modify
   0 (layCells #[.iface 264 (.pointer (some ⟨(holdHeap os).size,0,none⟩))])).modify 1 (layCells #[.iface 264 (.pointer (some ⟨(holdHeap os).size + 1,0,none⟩))])) ++
   #[.cells #[textOf [105,110,118,97,108,105,100,32,115,121,110,116,97,120]] 266,.cells #[textOf [118,97,108,117,101,32,111,117,116,32,111,102,32,114,97,110,103,101]] 266] }
theorem ret_true {P:Program} {I:World→Prop} {f:FuncId} {ds:List D} {h':Id→O} (h:Ret P I f 0 (fun _=>.no 0) (ds.map .d) (.val (.s (.bool true))) h') {w:World} (hI:I w) {vs:Array Value} (hv:ValDs (AllS w) w ds vs.toList):Calls P f vs w fun e w'=>e = .returned (.bool true)∧Ext w w':=by
 have hE:EnvOk I ⟨w.heap.size,w,AllS w,0,noIx,w,fun _=>False,fun _=>0⟩:=⟨rfl,hI⟩
 have hr:RelH ⟨w.heap.size,w,AllS w,0,noIx,w,fun _=>False,fun _=>0⟩ noIx (AllS w) (fun _=>.no 0) w :=
  ⟨Below.refl _ _,Nat.le_refl _,fun id=>trivial,fun id id' L L' _ hl=>(by cases hl),fun _ _ _=>rfl,fun _ _ h=>h,fun _ _ h=>Or.inl h,fun _ _ h=>h,fun _ _ _ _ h=>h,fun _ _ _=>rfl,fun _ _ _=>rfl,fun _ h=>h.elim,fun _=>rfl,fun i hi=>absurd hi (Nat.not_lt_zero _)⟩
 refine (h.calls _ noIx (AllS w) w vs hE rfl rfl rfl rfl (fun _ _ _=>rfl) hr (ValDs_VL hv)).mono ?_
 rintro e w' ⟨v,ι',S',rfl,_,_,rr,hrep⟩
 have hr':ValD S' w' (.s (.bool true)) v:=hrep
 unfold ValD CellsD at hr'
 simp only [List.cons.injEq,and_true] at hr'
 rw [hr'.1]
 exact ⟨rfl,rr.below⟩
theorem valD_str (S:Sb) (w:World) (s:ByteArray):ValD S w (.s (.string s)) (.string s):=by
 unfold ValD CellsD
 exact ⟨rfl,rfl⟩
theorem valDs_nil (S:Sb) (w:World):ValDs S w [] []:=by simp only [ValDs]
theorem valDs_cons {S:Sb} {w:World} {x:D} {v:Value} {xs:List D} {vs:List Value} (h:ValD S w x v) (k:ValDs S w xs vs):ValDs S w (x :: xs) (v :: vs):=Exists.intro v (Exists.intro vs (And.intro rfl (And.intro h k)))
end
section
set_option maxRecDepth 100000
abbrev nD (n:Int):D:=.s (.int .i64 n)
abbrev sD (l:List UInt8):D:=.s (.string ⟨⟨l⟩⟩)
abbrev eD (k n vk vn:Int) (of:List D):D:=.agg [nD k,nD n,nD vk,nD vn,sD [],.lst of]
abbrev colD (n:Int):D:=eD 0 n 0 0 []
def plainD:D:=.agg [.lst [.agg [.s (.string ⟨#[97]⟩),.lst [.agg [.s (.string ⟨#[105,100]⟩),nD 0,nD 1,.s (.bool false)],.agg [.s (.string ⟨#[110]⟩),nD 0,nD 1,.s (.bool false)]],.lst [],.lst [],.lst [],.lst []]]]
def wantD:D:=.agg [nD 0,.lst [],.lst [eD 6 0 0 0 [colD 1,eD 1 0 1 5 []]],.lst [colD 1],.lst [.agg [nD 0,nD 0,nD 1,nD 0,nD 0,sD [],.lst []],.agg [nD 1,nD 0,nD 0,nD 0,nD 0,sD [],.lst []]],.lst [nD (-2)],nD 3]
def opsD:D:=.lst [.agg [nD 1,nD 0,nD 0,nD 0,.lst [.agg [nD 1,nD 1,sD []],.agg [nD 1,nD (-5),sD []]],nD 0,nD 0,sD [],nD 0,nD 0,nD 0],.agg [nD 2,nD 0,nD 1,nD 1,.lst [],nD 1,nD 7,sD [],nD 0,nD 0,nD 0]]
def askD:D:=.s (.string ⟨#[115,101,108,101,99,116,32,48,46,110,44,32,99,111,117,110,116,40,48,46,105,100,41,32,102,114,111,109,32,97,32,119,104,101,114,101,32,40,48,46,110,32,60,32,53,41,32,103,114,111,117,112,32,98,121,32,48,46,110,32,111,114,100,101,114,32,98,121,32,50,32,100,101,115,99,32,108,105,109,105,116,32,51]⟩)
def doD:D:=.s (.string ⟨#[105,110,115,101,114,116,32,97,32,40,49,44,32,45,53,41,59,32,115,101,116,32,97,32,49,32,110,32,55]⟩)
def askedD:D:=.s (.string ⟨#[115,101,108,101,99,116,32,48,32,46,32,110,32,44,32,99,111,117,110,116,32,40,32,48,32,46,32,105,100,32,41,32,102,114,111,109,32,97,32,119,104,101,114,101,32,40,32,48,32,46,32,110,32,60,32,53,32,41,32,103,114,111,117,112,32,98,121,32,48,32,46,32,110,32,111,114,100,101,114,32,98,121,32,50,32,100,101,115,99,32,108,105,109,105,116,32,51]⟩)
def doneD:D:=.s (.string ⟨#[105,110,115,101,114,116,32,97,32,40,32,49,32,44,32,45,32,53,32,41,32,59,32,115,101,116,32,97,32,49,32,110,32,55]⟩)
def twoQ (x:Option (R × (Id→O))):Option (D × D):=match x with | some (.tup [.d q,.d e],_)=>some (q,e) | _=>none
def oneD (x:Option (R × (Id→O))):Option D:=match x with | some (.val q,_)=>some q | _=>none
def oneQ (x:Option (R × (Id→O))):Bool:=match x with | some (.val (.s (.bool b)),_)=>b | _=>false
theorem aw_plain:oneD (eval Tryz.prog ext26 5 15 0 E0 [])=some plainD:=by kernel_rfl
theorem aw_same:oneQ (eval Tryz.prog ext26 60 13 0 E0 [.d wantD,.d wantD])=true:=by kernel_rfl
theorem aw_sameOps:oneQ (eval Tryz.prog ext26 60 14 0 E0 [.d opsD,.d opsD])=true:=by kernel_rfl
end
end Go.Proofs.YtenoggjjhamdaaaGreatDoor
