/-
  WHAT IS PROVED HERE: parts of the proof: Rd26 Cs0 Cs26 Ir Ir2 Pa26 Pb26 Fw26 La26 Bm26 Bn26 Bs26 Bt26.
-/
import Derived.Test.YtenoggjjhamdaaaGreatDoorB06
import Derived.Test.YtenoggjjhamdaaaGreatDoorB07
import Derived.Test.YtenoggjjhamdaaaGreatDoorB14
import Derived.Test.YtenoggjjhamdaaaGreatDoorB15
import Derived.Test.YtenoggjjhamdaaaGreatDoorB17
import Derived.Test.YtenoggjjhamdaaaGreatDoorB18
import Derived.Test.YtenoggjjhamdaaaGreatDoorB19
import Derived.Test.YtenoggjjhamdaaaGreatDoorB21
set_option linter.all false
namespace Go.Proofs.YtenoggjjhamdaaaGreatDoor
open Go Go.RowKit
section
def GoodW (w:Word):Prop:=w.s.size ≤ 4000∧1 ≤ w.kind∧(w.kind=3→2 ≤ w.s.size)
theorem firstF_good {s:ByteArray} (h:(firstF s).s.toList ≠ []) (hs:s.size ≤ 4000):GoodW (firstF s):=by
 have hle:=first_le s
 have hne:=mt (empty_iff (firstF s).s).2 h
 revert hle hne
 unfold firstF
 split
 ·intro h1 h2; exact ⟨by omega,by show (1:Int) ≤ 1; omega,fun h=>by cases h⟩
 ·split
  ·split
   ·intro h1 h2; exact absurd rfl h2
   ·intro h1 h2; exact ⟨by omega,by show (1:Int) ≤ 2; omega,fun h=>by cases h⟩
  ·split
   ·intro h1 h2
    refine ⟨by omega,by show (1:Int) ≤ 3; omega,fun _=>?_⟩
    have e:(s.extract 0 (quotedF s)).size=min (quotedF s) s.size - 0:=ByteArray.size_extract ..
    rcases quotQ_le s (s.size + 1) 1 (by omega) with hq | hq
    ·have hq:quotedF s=0:=hq
     rw [hq] at e h2
     exact absurd (by rw [e]; simp) h2
    ·have h3:2 ≤ quotedF s:=hq.1
     have h4:quotedF s ≤ s.size:=hq.2
     show 2 ≤ (s.extract 0 (quotedF s)).size
     rw [e]; omega
   ·split
    ·intro h1 h2; exact ⟨by omega,by show (1:Int) ≤ 4; omega,fun h=>by cases h⟩
    ·intro h1 h2; exact absurd rfl h2
theorem wordsF_good:∀ (n:Nat) (s:ByteArray) (ws:List Word),s.size ≤ 4000→wordsF n s=some ws→(∀ w ∈ ws,GoodW w)∧ws.length ≤ s.size
 | 0,s,ws,_,h=>by cases h
 | n + 1,s,ws,hs,h=>by
  unfold wordsF at h
  have ht:=trimL_le s
  split at h
  ·cases h; exact ⟨fun w hw=>(by cases hw),Nat.zero_le _⟩
  ·split at h
   ·cases h
   ·rename_i h1 h2
    obtain ⟨l,hl,rfl⟩:=Option.map_eq_some_iff.1 h
    have hsz:((trimL s).extract (firstF (trimL s)).s.size (trimL s).size).size=(trimL s).size - (firstF (trimL s)).s.size:=by rw [ByteArray.size_extract]; omega
    obtain ⟨h3,h4⟩:=wordsF_good n _ l (by omega) hl
    have hne:=mt (empty_iff (firstF (trimL s)).s).2 h2
    refine ⟨fun w hw=>?_,?_⟩
    ·rcases List.mem_cons.1 hw with rfl | hw
     ·exact firstF_good h2 (by omega)
     ·exact h3 w hw
    ·rw [List.length_cons]
     have:=first_le (trimL s)
     omega
theorem readF_good (s:ByteArray):(∀ w ∈ (readF s).1,GoodW w)∧(readF s).1.length ≤ 4000∧0 ≤ (readF s).2:=by
 unfold readF
 split
 ·exact ⟨fun w hw=>(by cases hw),Nat.zero_le _,by show (0:Int) ≤ 2; omega⟩
 ·rename_i h
  split
  ·rename_i ws hws
   obtain ⟨h1,h2⟩:=wordsF_good _ _ _ (by omega) hws
   exact ⟨h1,by show ws.length ≤ 4000; omega,by show (0:Int) ≤ 0; omega⟩
  ·exact ⟨fun w hw=>(by cases hw),Nat.zero_le _,by show (0:Int) ≤ 3; omega⟩
theorem words_ShT {bd:BD} {k:Nat} {ws:List Word} (h:∀ w ∈ ws,GoodW w) (hl:ws.length ≤ bW):ShT (R26 bd k) (.lst (.nm 550) bW) (encWs ws):=by
 simp only [ShT]
 refine ⟨_,rfl,by simpa using hl,fun y hy=>?_⟩
 obtain ⟨w,hw,rfl⟩:=List.mem_map.1 hy
 obtain ⟨h1,h2,h3⟩:=h w hw
 exact (R26_550 (bd:=bd) (k:=k)).2 ⟨w.kind,w.s,rfl,h1,h2,h3⟩
theorem okRead (bd:BD) (k:Nat):Ok26 bd k cRead:=by
 intro d h π zs hC hpl hz hp hpre
 obtain ⟨rfl,rfl⟩:=hpl rfl
 obtain ⟨a,rfl,h1⟩:=oks_one hz
 simp only [TV.ok,ShT] at h1
 obtain ⟨x,rfl,s,rfl,hs⟩:=h1
 have h3:=read_at s (by omega)
 obtain ⟨g1,g2,g3⟩:=readF_good s
 refine ⟨_,.tup ([encWs (readF s).1,D.s (.int .i64 (readF s).2)].map .d),E0,h3,⟨_,rfl,rfl,?_⟩,fun _ _=>rfl,fun _ _=>rfl,ok_same rfl,fun v hv f hf=>?_⟩
 ·simp only [ShL]
  exact ⟨_,_,rfl,words_ShT (bd:=bdK bd k) (k:=k) g1 g2,_,_,rfl,by simp only [ShT]; exact ⟨_,rfl⟩,rfl⟩
 ·simp only [cRead,List.mem_singleton] at hf
  subst hf
  have e:tv v (1,6,1,0)=(readF s).2:=by show intA (v (6,1,0))=_; rw [hv.nc]; rfl
  show tv v zT + 0 ≤ tv v (1,6,1,0)
  rw [e]
  show 0 + 0 ≤ (readF s).2
  omega
end
end Go.Proofs.YtenoggjjhamdaaaGreatDoor
section

end
namespace Go.Proofs.YtenoggjjhamdaaaGreatDoor
open Go Go.RowKit
section
def hkParseE0:SS:={ n:=50,wh:=[((true,2),(.nm 580))],sl:=[(11,.bp (true,11) 0),(4,.bp (true,4) 0),(2,.bp (true,2) 0),(0,.c (.nm 580)),(1,.c (.str 1000))],hp:=[((true,11),[.c tI,.c (.lst (.st [tI,tI,tI]) bL),.c (.lst (.nm 0) bL),.c (.lst (.nm 0) bL),.c (.lst (.st [tI,tI,tI,tI,tI,(.str bS),(.lst (.nm 1000) bL)]) bL),.c (.lst tI bL),.c tI]),((true,4),[.c tI,.nilv,.nilv,.nilv,.nilv,.nilv,.c tI]),((true,2),[.c (.lst (.st [(.str bS),(.lst (.st [(.str bS),tI,tI,.bool]) bL),(.lst tI bL),(.lst (.nm 551) bL),(.lst (.st [tI,tI,tI]) bL),(.lst (.st [tI,tI,tI]) bL)]) bL)])],fs:=[.f (.le zT (2,2,11,1) (0)),.f (.le zT (2,2,11,2) (0)),.f (.le zT (2,2,11,3) (0)),.f (.le zT (2,2,11,4) (0)),.f (.le zT (2,2,11,5) (0)),.f (.le (2,2,11,1) zT (-100000000)),.f (.le (2,2,11,2) zT (-100000000)),.f (.le (2,2,11,3) zT (-100000000)),.f (.le (2,2,11,4) zT (-100000000)),.f (.le (2,2,11,5) zT (-100000000)),.f (.le zT (2,2,2,0) (0)),.f (.le (2,2,2,0) zT (-100000000)),.f (.le zT (2,0,1,0) (0)),.f (.le (1,2,4,0) zT (0)),.f (.le zT (1,2,4,0) (0)),.f (.le (2,2,4,1) zT (0)),.f (.le (2,2,4,2) zT (0)),.f (.le (2,2,4,3) zT (0)),.f (.le (2,2,4,4) zT (0)),.f (.le (2,2,4,5) zT (0)),.f (.le (1,2,4,6) zT (0)),.f (.le zT (1,2,4,6) (0)),.f (.le (2,1,0,0) (2,2,2,0) (0)),.f (.le (2,2,2,0) (2,1,0,0) (0)),.f (.le (2,1,0,0) zT (-100000000)),.f (.le (2,0,1,0) zT (-1000)),.f (.le (1,4,3000,0) (2,1,0,0) (0)),.f (.le (2,1,0,0) (1,4,3000,0) (0)),.f (.le zT (1,4,3002,0) (4000))] }
noncomputable def wParseE:Ways:=ways (k26 [cRead,cPQuery,cPDone,cWFind,cQRight] []) lParseE Tryz.f7 cParseE
noncomputable def bParseE0:Code:=Tryz.f7.body.getD .skip
noncomputable def bParseE1:Code:=(cutC 9 bParseE0).2
theorem sgParseE0:seg wParseE 2000 9 bParseE0 (start E26 Tryz.f7 cParseE) hkParseE0=true:=by kernel_rfl
theorem sgParseE_0:checks0 (k26 [cRead,cPQuery,cPDone,cWFind,cQRight] []) Tryz.f7 cParseE=true:=by kernel_rfl
def hkOpsE0:SS:={ n:=87,wh:=[((true,2),(.nm 580))],sl:=[(10,.own (true,71) (.st [tI,tI,tI,tI,(.lst (.st [tI,tI,(.str bS)]) bL),tI,tI,(.str bS),tI,tI,tI])),(56,.c tI),(55,.c tI),(2,.bp (true,2) 0),(0,.c (.nm 580)),(1,.c (.str 1000))],hp:=[((true,2),[.c (.lst (.st [(.str bS),(.lst (.st [(.str bS),tI,tI,.bool]) bL),(.lst tI bL),(.lst (.nm 551) bL),(.lst (.st [tI,tI,tI]) bL),(.lst (.st [tI,tI,tI]) bL)]) bL)])],fs:=[.f (.le (2,0,54,0) (1,0,56,0) (0)),.f (.le zT (1,0,56,0) (0)),.f (.le (1,0,56,0) (1,0,55,0) (0)),.f (.le (2,0,10,0) (1,0,56,0) (0)),.f (.le (1,0,55,0) (2,0,54,0) (0)),.f (.le (2,0,54,0) (1,0,55,0) (0)),.f (.le zT (1,0,55,0) (0)),.f (.le zT (2,0,54,0) (0)),.f (.le (2,0,54,0) zT (-4001)),.f (.le zT (2,0,1,0) (0)),.f (.le (2,1,0,0) (2,2,2,0) (0)),.f (.le (2,2,2,0) (2,1,0,0) (0)),.f (.le (2,1,0,0) zT (-100000000)),.f (.le (2,0,1,0) zT (-1000))] }
noncomputable def wOpsE:Ways:=ways (k26 [cRead,cPDeed,cPTake,cPDone,cDPlace,cORight] []) lOpsE Tryz.f8 cOpsE
noncomputable def bOpsE0:Code:=Tryz.f8.body.getD .skip
noncomputable def bOpsE1:Code:=(cutC 9 bOpsE0).2
theorem sgOpsE0:seg wOpsE 2000 9 bOpsE0 (start E26 Tryz.f8 cOpsE) hkOpsE0=true:=by kernel_rfl
theorem sgOpsE_0:checks0 (k26 [cRead,cPDeed,cPTake,cPDone,cDPlace,cORight] []) Tryz.f8 cOpsE=true:=by kernel_rfl
end
section
def setJ (j:Nat) (a:A) (st:St):St:={ st with t:=upd st.t j a }
def opNo (j:Nat) (x:Operand):Bool:=match x with
 | .tmp t=>!(Nat.beq t j)
 | _=>true
def operNo (j:Nat) (o:Oper):Bool:=o.op.operands.toList.all (opNo j) && (match o.dst with | some t=>!(Nat.beq t j) | none=>true)
def codeNo (j:Nat):Code→Bool
 | .region _ ops _=>ops.toList.all (operNo j)
 | .seq a b=>codeNo j a && codeNo j b
 | .cond c a b=>opNo j c && (codeNo j a && codeNo j b)
 | .block _ c | .loop c | .scope c=>codeNo j c
 | _=>true
section
variable {P:Program} {X:Orc} {j:Nat} {a:A}
theorem upd_no {α:Type} {t:Nat→α} {i j:Nat} {a:α} (h:i ≠ j):upd t j a i=t i:=by unfold upd; rw [if_neg h]
theorem upd_swap {α:Type} {t:Nat→α} {i j:Nat} {a b:α} (h:i ≠ j):upd (upd t j a) i b=upd (upd t i b) j a:=by
 funext k
 unfold upd
 by_cases h1:k=i
 ·subst h1; rw [if_pos rfl,if_neg h,if_pos rfl]
 ·by_cases h2:k=j
  ·subst h2; rw [if_neg h1,if_pos rfl,if_pos rfl]
  ·rw [if_neg h1,if_neg h2,if_neg h2,if_neg h1]
theorem ev_no {st:St} {x:Operand} (h:opNo j x=true):(setJ j a st).ev x=st.ev x:=by
 cases x with
 | tmp t =>
  have h:(!(Nat.beq t j))=true:=h
  have hn:t ≠ j:=fun e=>by subst e; rw [Nat.beq_refl] at h; cases h
  show (if t < st.n then upd st.t j a t else _)=if t < st.n then st.t t else _
  rw [upd_no hn]
 | _=>rfl
theorem put_no {st:St} {dst:Option Nat} {e:Eff} (h:(match dst with | some t=>!(Nat.beq t j) | none=>true)=true):(setJ j a st).put dst e=setJ j a (st.put dst e):=by
 cases dst with
 | none=>rfl
 | some t =>
  have h:(!(Nat.beq t j))=true:=h
  have hn:t ≠ j:=fun e=>by subst e; rw [Nat.beq_refl] at h; cases h
  show ({ n:=st.n,d:=st.d,t:=upd (upd st.t j a) t e.v,h:=_,al:=st.al }:St) = { n:=st.n,d:=st.d,t:=upd (upd st.t t e.v) j a,h:=_,al:=st.al }
  rw [upd_swap hn]; rfl
theorem wanted_no {ops:Array Oper} {st:St} {o:Oper} (ho:∀ x ∈ ops.toList,operNo j x=true):wantedA ops (setJ j a st) o=wantedA ops st o:=by
 unfold wantedA
 cases o.guard with
 | none=>rfl
 | some p =>
  obtain ⟨i,want⟩:=p
  simp only
  cases hi:ops[i]? with
  | none=>rfl
  | some x =>
   have hx:x ∈ ops.toList:=by
    rw [Array.getElem?_eq_some_iff] at hi
    obtain ⟨h1,rfl⟩:=hi
    simp
   have h1:=ho x hx
   unfold operNo at h1
   rw [Bool.and_eq_true] at h1
   simp only [Option.bind_some]
   cases hd:x.dst with
   | none=>rfl
   | some t =>
    have h2:=h1.2
    rw [hd] at h2
    have h2:(!(Nat.beq t j))=true:=h2
    have hn:t ≠ j:=fun e=>by subst e; rw [Nat.beq_refl] at h2; cases h2
    show (if t < st.n then (match upd st.t j a t with | .d (.s (.bool b))=>_ | .d (.s (.tuple _))=>_ | _=>_) else _)=_
    rw [upd_no hn]; rfl
theorem step_no {ops:Array Oper} {st:St} {o:Oper} (ho:∀ x ∈ ops.toList,operNo j x=true) (hm:operNo j o=true):stepE P X ops o (setJ j a st)=stepE P X ops o st:=by
 unfold stepE
 rw [wanted_no ho]
 unfold operNo at hm
 rw [Bool.and_eq_true] at hm
 have e:opE P X st.d (setJ j a st).ev st.h (st.d,o.dst.getD st.n) o=opE P X st.d st.ev st.h (st.d,o.dst.getD st.n) o:=op_congr fun x hx=>ev_no (List.all_eq_true.1 hm.1 x (by simpa using hx))
 show (if dstOk st.n o.dst=true then (match wantedA ops st o with | some true=>chkE (setJ j a st) (opE P X st.d (setJ j a st).ev st.h (st.d,o.dst.getD st.n) o) | some false=>_ | none=>_) else _)=_
 rw [e]
 rfl
theorem ops_no {ops:Array Oper} (ho:∀ x ∈ ops.toList,operNo j x=true):∀ (l:List Oper) (st:St),(∀ x ∈ l,operNo j x=true)→runOps P X ops l (setJ j a st)=(runOps P X ops l st).map (setJ j a)
 | [],st,_=>rfl
 | o :: l,st,hl=>by
  have hm:=hl o List.mem_cons_self
  unfold runOps stepSt
  rw [step_no ho hm]
  cases stepE P X ops o st with
  | none=>rfl
  | some e =>
   simp only [Option.map_some,Option.bind_some]
   unfold operNo at hm
   rw [Bool.and_eq_true] at hm
   rw [put_no hm.2]
   exact ops_no ho l _ fun x hx=>hl x (List.mem_cons_of_mem _ hx)
theorem tr_no {ops:Array Oper} (ho:∀ x ∈ ops.toList,operNo j x=true):∀ (l:List Oper) (st:St),(∀ x ∈ l,operNo j x=true)→runTr P X ops l (setJ j a st)=(runTr P X ops l st).map fun p=>(setJ j a p.1,p.2)
 | [],st,_=>rfl
 | o :: l,st,hl=>by
  have hm:=hl o List.mem_cons_self
  unfold runTr
  rw [step_no ho hm]
  cases stepE P X ops o st with
  | none=>rfl
  | some e =>
   unfold operNo at hm
   rw [Bool.and_eq_true] at hm
   simp only
   rw [put_no hm.2,tr_no ho l _ fun x hx=>hl x (List.mem_cons_of_mem _ hx)]
   cases runTr P X ops l (st.put o.dst e) with
   | none=>rfl
   | some p=>rfl
theorem iter_no {f:St→Option (Ex × St)} (hf:∀ st,f (setJ j a st)=(f st).map fun p=>(p.1,setJ j a p.2)):∀ (n:Nat) (st:St),iter f n (setJ j a st)=(iter f n st).map fun p=>(p.1,setJ j a p.2)
 | 0,st=>rfl
 | n + 1,st=>by
  unfold iter
  rw [hf]
  cases f st with
  | none=>rfl
  | some p =>
   obtain ⟨x,s⟩:=p
   cases x with
   | normal=>exact iter_no hf n s
   | _=>rfl
theorem exec_no {n:Nat}:∀ (c:Code) (st:St),codeNo j c=true→exec P X n c (setJ j a st)=(exec P X n c st).map fun p=>(p.1,setJ j a p.2):=by
 intro c
 induction c with
 | region i ops dr =>
  intro st h
  have ho:∀ x ∈ ops.toList,operNo j x=true:=List.all_eq_true.1 h
  cases dr with
  | false =>
   rw [exec,exec,ops_no ho _ _ ho]
   cases runOps P X ops ops.toList st <;> rfl
  | true =>
   rw [exec,exec,tr_no ho _ _ ho]
   cases runTr P X ops ops.toList st with
   | none=>rfl
   | some p =>
    obtain ⟨s,es⟩:=p
    simp only [Option.map_some]
    split <;> rfl
 | seq c1 c2 ih1 ih2 =>
  intro st h
  have h:(codeNo j c1 && codeNo j c2)=true:=h
  rw [Bool.and_eq_true] at h
  rw [exec,exec,ih1 st h.1]
  cases exec P X n c1 st with
  | none=>rfl
  | some p =>
   obtain ⟨x,s⟩:=p
   cases x with
   | normal=>exact ih2 s h.2
   | _=>rfl
 | cond c c1 c2 ih1 ih2 =>
  intro st h
  have h:(opNo j c && (codeNo j c1 && codeNo j c2))=true:=h
  rw [Bool.and_eq_true,Bool.and_eq_true] at h
  rw [exec,exec,ev_no h.1]
  cases (st.ev c).bool? with
  | none=>rfl
  | some b =>
   cases b with
   | true=>exact ih1 st h.2.1
   | false=>exact ih2 st h.2.2
 | block i c ih =>
  intro st h
  rw [exec,exec,ih st h]
  cases exec P X n c st with
  | none=>rfl
  | some p =>
   obtain ⟨x,s⟩:=p
   cases x with
   | exit k =>
    simp only [Option.map_some]
    split <;> rfl
   | _=>rfl
 | loop c ih =>
  intro st h
  rw [exec,exec]
  exact iter_no (fun s=>ih s h) n st
 | scope c ih =>
  intro st h
  rw [exec,exec,ih st h]
  cases exec P X n c st with
  | none=>rfl
  | some p =>
   obtain ⟨x,s⟩:=p
   cases x <;> rfl
 | _=>intro st h; rfl
end
end
section
theorem execK_one {P:Program} {X:Orc} {N:Nat} {c:Code} {st:St}:execK P X N [.code c] st=exec P X N c st:=by
 rw [execK]
 cases exec P X N c st with
 | none=>rfl
 | some p =>
  obtain ⟨x,s⟩:=p
  cases x with
  | normal=>simp only; rw [execK]
  | exit i=>simp only; rw [unwK]
  | goto i=>simp only; rw [unwK]
  | ret=>simp only; rw [unwK]
theorem exec_two {P:Program} {X:Orc} {N:Nat} {a b c:Code} {st s:St} (h:Wk P X N [.code a,.code b] st (fun x s'=>x = .normal∧s' = s)):exec P X N (.seq a (.seq b c)) st=exec P X N c s:=by
 obtain ⟨x,s',h1,rfl,rfl⟩:=h
 rw [execK] at h1
 rw [exec]
 cases h2:exec P X N a st with
 | none=>rw [h2] at h1; cases h1
 | some p =>
  obtain ⟨x,s1⟩:=p
  rw [h2] at h1
  cases x with
  | normal =>
   simp only at h1 ⊢
   rw [execK_one] at h1
   rw [exec,h1]
  | exit i=>simp only [unwK] at h1; cases h1
  | goto i=>simp only [unwK] at h1; cases h1
  | ret=>simp only [unwK] at h1; cases h1
def resNo (j:Nat):ResultVar→Bool
 | .tmp t=>!(Nat.beq t j)
 | .cell a _=>!(Nat.beq a j)
theorem nbeq {a b:Nat} (h:(!(Nat.beq a b))=true):a ≠ b:=fun e=>by subst e; rw [Nat.beq_refl] at h; cases h
theorem resA_no {P:Program} {j:Nat} {a:A} {st:St} {r:ResultVar} (h:resNo j r=true):resA P (setJ j a st) r=resA P st r:=by
 cases r with
 | tmp t =>
  show (if t < st.n then some (upd st.t j a t) else none)=_
  rw [upd_no (nbeq h)]; rfl
 | cell t ty =>
  show (if t < st.n then (loadE P st.h ty (upd st.t j a t)).map (·.v) else none)=_
  rw [upd_no (nbeq h)]; rfl
theorem resAs_no {P:Program} {j:Nat} {a:A} {st:St}:∀ {l:List ResultVar},l.all (resNo j)=true→resAs P (setJ j a st) l=resAs P st l
 | [],_=>rfl
 | r :: l,h=>by
  rw [List.all_cons,Bool.and_eq_true] at h
  unfold resAs
  rw [resA_no h.1,resAs_no h.2]
theorem bodyR_no {P:Program} {fn:Func} {d:Nat} {h:Id→O} {j:Nat} {a:A} {st:St} (hr:fn.results.toList.all (resNo j)=true):bodyR P fn d h (setJ j a st)=bodyR P fn d h st:=by
 unfold bodyR
 rw [resAs_no hr]; rfl
def setJs:List (Nat × A)→St→St
 | [],st=>st
 | p :: l,st=>setJ p.1 p.2 (setJs l st)
theorem exec_setJs {P:Program} {X:Orc} {N:Nat} {c:Code}:∀ (l:List (Nat × A)) (st:St),(l.all fun p=>codeNo p.1 c)=true→exec P X N c (setJs l st)=(exec P X N c st).map fun p=>(p.1,setJs l p.2)
 | [],st,_=>by simp only [setJs]; cases exec P X N c st <;> rfl
 | p :: l,st,h=>by
  rw [List.all_cons,Bool.and_eq_true] at h
  unfold setJs
  rw [exec_no c _ h.1,exec_setJs l st h.2]
  cases exec P X N c st <;> rfl
theorem bodyR_setJs {P:Program} {fn:Func} {d:Nat} {h:Id→O}:∀ {l:List (Nat × A)} {st:St},(l.all fun p=>fn.results.toList.all (resNo p.1))=true→bodyR P fn d h (setJs l st)=bodyR P fn d h st
 | [],st,_=>rfl
 | p :: l,st,hl=>by
  rw [List.all_cons,Bool.and_eq_true] at hl
  unfold setJs
  rw [bodyR_no hl.1,bodyR_setJs hl.2]
theorem evr_irr {P:Program} {ext:Exts} {N:Nat} {f:FuncId} {fn:Func} {a b c:Code} {d:Nat} {h:Id→O} {l1 l2:List A} (hx:ext f=none) (hf:P.funcs[f]? = some fn) (hbody:fn.body=some (.seq a (.seq b c))) (hl1:l1.length ≤ fn.ntmps) (hl2:l2.length ≤ fn.ntmps) (hn:fn.name ≠ "runtime.NumGoroutine")
  {A1:St} (js:List (Nat × A)) (h1:Wk P (evr P ext) N [.code a,.code b] (initSt fn d h l1) (fun x s=>x = .normal∧s=A1)) (h2:Wk P (evr P ext) N [.code a,.code b] (initSt fn d h l2) (fun x s=>x = .normal∧s=setJs js A1))
  (hc:(js.all fun p=>codeNo p.1 c)=true) (hr:(js.all fun p=>fn.results.toList.all (resNo p.1))=true) {G:R→(Id→O)→Prop} (hw:Wk P (evr P ext) N [.code (.seq a (.seq b c))] (initSt fn d h l1) (bodyE P fn d h G)) :
  ∃ r h',evr P ext f d h l1=some (r,h')∧evr P ext f d h l2=some (r,h')∧G r h':=by
 obtain ⟨x,s,e1,e2⟩:=hw
 rw [execK_one] at e1
 have e3:=exec_two (c:=c) h1
 rw [e1] at e3
 have e4:=exec_two (c:=c) h2
 rw [exec_setJs js A1 hc,← e3] at e4
 simp only [Option.map_some] at e4
 obtain ⟨r,h',hb,hg⟩:∃ r h',bodyR P fn d h s=some (r,h')∧G r h' ∧ (x = .normal ∨ x = .ret):=by
  cases x with
  | normal=>rw [bodyE_normal] at e2; obtain ⟨r,h',q1,q2⟩:=e2; exact ⟨r,h',q1,q2,Or.inl rfl⟩
  | ret=>rw [bodyE_ret] at e2; obtain ⟨r,h',q1,q2⟩:=e2; exact ⟨r,h',q1,q2,Or.inr rfl⟩
  | exit i=>exact absurd e2 (by simp [bodyE,bodyQ])
  | goto i=>exact absurd e2 (by simp [bodyE,bodyQ])
 have key:∀ (l:List A) (s':St),l.length ≤ fn.ntmps→exec P (evr P ext) N (.seq a (.seq b c)) (initSt fn d h l)=some (x,s')→bodyR P fn d h s' = some (r,h')→evr P ext f d h l=some (r,h'):=fun l s' hl q1 q2=>by
  have hq:bodyE P fn d h (fun r2 h2=>r2=r∧h2=h') x s':=by
   rcases hg.2 with rfl | rfl
   ·rw [bodyE_normal]; exact ⟨r,h',q2,rfl,rfl⟩
   ·rw [bodyE_ret]; exact ⟨r,h',q2,rfl,rfl⟩
  obtain ⟨r2,h2,q3,rfl,rfl⟩:=bx_bodyE hf hbody hl hn (⟨x,s',by rw [execK_one]; exact q1,hq⟩:Wk P (evr P ext) N [.code (.seq a (.seq b c))] (initSt fn d h l) _)
  exact evr_body hx q3
 exact ⟨r,h',key l1 s hl1 e1 hb,key l2 _ hl2 e4 (by rw [bodyR_setJs hr]; exact hb),hg.1⟩
end
section
attribute [local congr] ite_congr
def bdS (S:D) (m:Nat):BD:=⟨fun i=>if i=0 then m else 0,fun _=>S⟩
def tabsN:D→Nat
 | .agg [.lst xs]=>xs.length
 | _=>0
theorem sch_cells {S x:D} (h:IsSch S x):∃ xs:List D,x = .agg [.lst xs]∧S = .agg [.lst xs]∧xs.length ≤ bL:=by
 obtain ⟨h1,ds,h2,h3⟩:=h
 simp only [ShL,ShT] at h3
 obtain ⟨_,_,rfl,⟨xs,rfl,hl,_⟩,rfl⟩:=h3
 exact ⟨xs,h2,h1 ▸ h2,hl⟩
theorem qry_cells {R:Nat→D→Prop} {ds:List D} (h:ShL R cQry ds):∃ (a:Int) (b c d e f:List D) (g:Int),ds=[.s (.int .i64 a),.lst b,.lst c,.lst d,.lst e,.lst f,.s (.int .i64 g)]:=by
 simp only [ShL,ShT] at h
 obtain ⟨_,_,rfl,⟨a,rfl⟩,_,_,rfl,⟨b,rfl,_⟩,_,_,rfl,⟨c,rfl,_⟩,_,_,rfl,⟨d,rfl,_⟩,_,_,rfl,⟨e,rfl,_⟩,_,_,rfl,⟨f,rfl,_⟩,_,_,rfl,⟨g,rfl⟩,rfl⟩:=h
 exact ⟨a,b,c,d,e,f,g,rfl⟩
theorem wk_cut {P:Program} {X:Orc} {N m:Nat} {fn:Func} {c c':Code} {st:St} {Q:Ex→St→Prop} (h1:fn.body=some c) (h2:(cutC m c).2=c') (h:Wk P X N [.code c'] st Q):Wk P X N [.code (cutC m (fn.body.getD .skip)).2] st Q:=by
 rw [h1]; subst h2; exact h
def ParG (S:D) (r:R) (h':Id→O):Prop:=h' = E0 ∧ ∃ (q:D) (e:Int),r = .tup [.d q,.d (.s (.int .i64 e))]∧ShT (R26 (bdK (bdS S (tabsN S)) 4000) 4000) (.st cQry) q∧(e=0→ev26 9 0 E0 [.d S,.d q]=some (.val (.s (.int .i64 0)),E0))∧(e ≠ 0→∃ a g:Int,q = .agg [.s (.int .i64 a),.lst [],.lst [],.lst [],.lst [],.lst [],.s (.int .i64 g)])
noncomputable abbrev cxP (S:D) (c:Ctr):Cx:=cx0 (bdS S (tabsN S)) 4000 c
theorem qright_at {S q:D} (hS:IsSch S S) (hq:ShT (R26 (bdK (bdS S (tabsN S)) 4000) 4000) (.st cQry) q):∃ n:Int,ev26 9 0 E0 [.d S,.d q]=some (.val (.s (.int .i64 n)),E0):=by
 have hS':ShT (R26 (bdK (bdS S (tabsN S)) 4000) 4000) tSch S:=by
  obtain ⟨_,ds,h2,h3⟩:=hS
  exact ⟨ds,h2,ShL_mono (fun i y hy=>by obtain ⟨rfl,h⟩:=hy; exact (R26_551 (bd:=bdK (bdS S (tabsN S)) 4000) (k:=4000)).2 h) h3⟩
 obtain ⟨r,a,e1,⟨x,rfl,_,n,rfl⟩,_⟩:=val_of (bd:=bdS S (tabsN S)) (k:=4000) (c:=cQRight) (okQRight _ 4000) rfl rfl rfl (zs:=[.d S,.d q]) (oks2 (by simp only [TV.ok]; exact ⟨_,rfl,hS'⟩) (by simp only [TV.ok]; exact ⟨_,rfl,hq⟩)) (nil_pre rfl)
 exact ⟨n,e1⟩
theorem parse_last {S:D} (hS:IsSch S S) {t:D}:RunQ wParseE (cxP S cParseE) ev26 2000000000000000 (fun i=>([.d S,.d t]:List A).getD i (.d (.s undef))) bParseE1 hkParseE0 (bodyE Tryz.prog Tryz.f7 0 E0 (ParG S)):=by
 intro gs st hgs g ha
 obtain ⟨v11,cs11,b1,b2⟩:=g.hp ((true,11),_) List.mem_cons_self
 obtain ⟨v4,cs4,c1,c2⟩:=g.hp ((true,4),_) (List.mem_cons_of_mem _ List.mem_cons_self)
 obtain ⟨v2,ds2,w1,w2⟩:=g.wh ((true,2),_) List.mem_cons_self
 obtain ⟨u11,cu11,p1,p2⟩:=g.sl (11,.bp (true,11) 0) List.mem_cons_self
 obtain ⟨u4,cu4,p3,p4⟩:=g.sl (4,.bp (true,4) 0) (List.mem_cons_of_mem _ List.mem_cons_self)
 obtain ⟨u2,cu2,p5,p6⟩:=g.sl (2,.bp (true,2) 0) (List.mem_cons_of_mem _ (List.mem_cons_of_mem _ List.mem_cons_self))
 have hd:=g.d
 have hn:=g.n
 obtain ⟨n,d,tt,h,al⟩:=st
 obtain rfl:d=0:=hd
 obtain rfl:n=50:=hn
 have b1:h (0,11) = .box v11 cs11:=b1
 have c1:h (0,4) = .box v4 cs4:=c1
 have w1:h (0,2) = .box v2 (ds2.map A.d):=w1
 have p1:tt 11 = .bp (0,11) u11 0:=p1
 have p3:tt 4 = .bp (0,4) u4 0:=p3
 have p5:tt 2 = .bp (0,2) u2 0:=p5
 have p2:h (0,11) = .box u11 cu11:=p2
 have p4:h (0,4) = .box u4 cu4:=p4
 have p6:h (0,2) = .box u2 cu2:=p6
 rw [b1] at p2; rw [c1] at p4; rw [w1] at p6
 cases p2; cases p4; cases p6
 have w2:IsSch S (.agg ds2):=(R26_580 (bd:=bdK (bdS S (tabsN S)) 4000) (k:=4000)).1 w2
 obtain ⟨xs,e1,e2,_⟩:=sch_cells w2
 cases e1
 have hq:∃ dq:List D,cs11=dq.map A.d∧ShL (R26 (bdK (bdS S (tabsN S)) 4000) 4000) cQry dq:=by
  simp only [TV.oks,TV.ok] at b2
  obtain ⟨_,_,rfl,⟨x0,rfl,h0⟩,_,_,rfl,⟨x1,rfl,h1⟩,_,_,rfl,⟨x2,rfl,h2⟩,_,_,rfl,⟨x3,rfl,h3⟩,_,_,rfl,⟨x4,rfl,h4⟩,_,_,rfl,⟨x5,rfl,h5⟩,_,_,rfl,⟨x6,rfl,h6⟩,rfl⟩:=b2
  refine ⟨[x0,x1,x2,x3,x4,x5,x6],rfl,?_⟩
  simp only [ShL]
  exact ⟨_,_,rfl,h0,_,_,rfl,h1,_,_,rfl,h2,_,_,rfl,h3,_,_,rfl,h4,_,_,rfl,h5,_,_,rfl,h6,rfl⟩
 obtain ⟨dq,rfl,hq⟩:=hq
 have hqr:=qright_at hS (q:=.agg dq) (by simp only [ShT]; exact ⟨_,rfl,hq⟩)
 have hG:ev26 9 0 E0 [.d S,.d (.agg dq)]=some (.val (.s (.int .i64 0)),E0)→ParG S (.tup [.d (.agg dq),.d (.s (.int .i64 0))]) E0:=fun he=>⟨rfl,_,0,rfl,by simp only [ShT]; exact ⟨_,rfl,hq⟩,fun _=>he,fun h=>(h rfl).elim⟩
 have hG0:∀ e:Int,e ≠ 0→ParG S (.tup [.d (.agg [.s (.int .i64 0),.lst [],.lst [],.lst [],.lst [],.lst [],.s (.int .i64 0)]),.d (.s (.int .i64 e))]) E0:=fun e he=>⟨rfl,_,e,rfl,by
  simp only [ShT,ShL]
  exact ⟨_,rfl,_,_,rfl,⟨_,rfl⟩,_,_,rfl,⟨[],rfl,Nat.zero_le _,fun y hy=>(by cases hy)⟩,_,_,rfl,⟨[],rfl,Nat.zero_le _,fun y hy=>(by cases hy)⟩,_,_,rfl,⟨[],rfl,Nat.zero_le _,fun y hy=>(by cases hy)⟩,_,_,rfl,⟨[],rfl,Nat.zero_le _,fun y hy=>(by cases hy)⟩,_,_,rfl,⟨[],rfl,Nat.zero_le _,fun y hy=>(by cases hy)⟩,_,_,rfl,⟨_,rfl⟩,rfl⟩,fun h=>absurd h he,fun _=>⟨_,_,rfl⟩⟩
 obtain ⟨a1,a2,a3,a4,a5,a6,a7,rfl⟩:=qry_cells hq
 obtain ⟨m,hm⟩:=hqr
 rw [e2] at hm hG
 rw [e2] at hG0
 have hc4:cs4.length=7:=by
  have:=oks_len c2
  simpa using this
 show Wk Tryz.prog ev26 2000000000000000 [.code bParseE1] ⟨50,0,tt,h,al⟩ (bodyE Tryz.prog Tryz.f7 0 E0 (ParG S))
 rw [e2]
 obtain ⟨z1,z2,z3,z4,z5,z6,z7,rfl⟩:∃ z1 z2 z3 z4 z5 z6 z7,cs4=[z1,z2,z3,z4,z5,z6,z7]:=by
  match cs4,hc4 with
  | [z1,z2,z3,z4,z5,z6,z7],_=>exact ⟨z1,z2,z3,z4,z5,z6,z7,rfl⟩
 by_cases hm0:m=0
 ·subst hm0
  have h9:=hG hm
  refine wk_cut (fn:=Tryz.f7) (m:=9) rfl (by simp only [cutC]; rfl) ?_
  simp [b1,c1,w1,p1,p3,p5,hm,Tryz.ntmps7,Tryz.results7,(show keepT Tryz.f7.name=false from rfl)]
  exact ⟨_,_,⟨rfl,rfl⟩,h9⟩
 ·have h9:=hG0 m hm0
  refine wk_cut (fn:=Tryz.f7) (m:=9) rfl (by simp only [cutC]; rfl) ?_
  simp [b1,c1,w1,p1,p3,p5,hm,hm0,Tryz.ntmps7,Tryz.results7,(show keepT Tryz.f7.name=false from rfl)]
  exact ⟨_,_,⟨rfl,rfl⟩,h9⟩
theorem parse_end {S:D} {t:D} {r:R} {h':Id→O} (h:EndOk (cxP S cParseE) cParseE 0 E0 [.d S,.d t] r h'):ParG S r h':=by
 obtain ⟨a,⟨ds,rfl,rfl,h1⟩,h2,_,h3⟩:=h
 have e:h' = E0:=by
  funext i
  refine h2 i ?_
  rintro (⟨j,hj,_⟩ | ⟨p,hp,_⟩)
  ·cases hj
  ·cases hp
 subst e
 simp only [ShL,ShT] at h1
 obtain ⟨q,_,rfl,⟨_,rfl,_,_,rfl,⟨c0,rfl⟩,_,_,rfl,⟨z1,rfl,n1,_⟩,_,_,rfl,⟨z2,rfl,n2,_⟩,_,_,rfl,⟨z3,rfl,n3,_⟩,_,_,rfl,⟨z4,rfl,n4,_⟩,_,_,rfl,⟨z5,rfl,n5,_⟩,_,_,rfl,⟨c1,rfl⟩,rfl⟩,_,_,rfl,⟨e,rfl⟩,rfl⟩:=h1
 obtain rfl:=List.length_eq_zero_iff.1 (Nat.le_zero.1 n1)
 obtain rfl:=List.length_eq_zero_iff.1 (Nat.le_zero.1 n2)
 obtain rfl:=List.length_eq_zero_iff.1 (Nat.le_zero.1 n3)
 obtain rfl:=List.length_eq_zero_iff.1 (Nat.le_zero.1 n4)
 obtain rfl:=List.length_eq_zero_iff.1 (Nat.le_zero.1 n5)
 generalize hqq:D.agg [.s (.int .i64 c0),.lst [],.lst [],.lst [],.lst [],.lst [],.s (.int .i64 c1)]=q at *
 refine ⟨rfl,q,e,rfl,?_,fun he=>?_,fun _=>⟨c0,c1,hqq.symm⟩⟩
 ·subst hqq
  simp only [ShT,ShL]
  exact ⟨_,rfl,_,_,rfl,⟨_,rfl⟩,_,_,rfl,⟨[],rfl,Nat.zero_le _,fun y hy=>(by cases hy)⟩,_,_,rfl,⟨[],rfl,Nat.zero_le _,fun y hy=>(by cases hy)⟩,_,_,rfl,⟨[],rfl,Nat.zero_le _,fun y hy=>(by cases hy)⟩,_,_,rfl,⟨[],rfl,Nat.zero_le _,fun y hy=>(by cases hy)⟩,_,_,rfl,⟨[],rfl,Nat.zero_le _,fun y hy=>(by cases hy)⟩,_,_,rfl,⟨_,rfl⟩,rfl⟩
 exfalso
 let v:AP→A:=fun y=>match y.1 with
  | 5=>.tup ([q,D.s (.int .i64 e)].map .d)
  | 6=>(A.tup ([q,D.s (.int .i64 e)].map .d)).parts.getD y.2.1 .any
  | 7=>boxCell (E0 ((cxP S cParseE).π y.2.2)) y.2.1
  | _=>apv (cxP S cParseE) (st0 0 E0 [.d S,.d t]) y
 have h4:=h3 v ⟨fun y hy=>by
  obtain ⟨i,j,k⟩:=y
  have hy:i < 5:=hy
  show (match i with | 5=>_ | 6=>_ | 7=>_ | _=>_)=_
  split
  ·omega
  ·omega
  ·omega
  ·rfl,fun _ _=>rfl,fun _ _=>rfl,fun _ _=>rfl⟩
 have h5:tv v zT + 1 ≤ tv v (1,6,1,0):=h4 _ List.mem_cons_self
 have e1:tv v (1,6,1,0)=e:=rfl
 have z0:tv v zT=0:=rfl
 omega
theorem parse_wk {S:D} (hS:IsSch S S) {t:ByteArray} (ht:t.size ≤ 1000):Wk Tryz.prog ev26 2000000000000000 [.code bParseE0] (initSt Tryz.f7 0 E0 [.d S,.d (.s (.string t))]) (bodyE Tryz.prog Tryz.f7 0 E0 (ParG S)):=by
 obtain ⟨xs,hx,_,hl⟩:=sch_cells hS
 have hN:tabsN S=xs.length:=by rw [hx]; rfl
 have hz:TV.oks (cxP S cParseE) E0 cParseE.args [.d S,.d (.s (.string t))]:=by
  refine oks2 ?_ ?_
  ·simp only [TV.ok,ShT]
   exact ⟨_,rfl,(R26_580 (bd:=bdK (bdS S (tabsN S)) 4000) (k:=4000)).2 hS⟩
  ·simp only [TV.ok,ShT]; exact ⟨_,rfl,_,rfl,ht⟩
 have hpre:∀ v,Now (cxP S cParseE) (st0 0 E0 [.d S,.d (.s (.string t))]) v→FOk v cParseE.pre:=fun v hv f hf=>by
  have e0:tv v (2,1,0,0)=xs.length:=by
   show lenA (v (1,0,0))=_
   rw [hv _ (by show 1 < 5; decide),hx]; rfl
  have eg:tv v (1,4,3000,0)=xs.length:=by
   show intA (v (4,3000,0))=_
   rw [hv _ (by show 4 < 5; decide)]
   show (cxP S cParseE).gs 3000=_
   rw [show (cxP S cParseE).gs 3000=(cxP S cParseE).bd 0 from cx0_gb (bdS S (tabsN S)) 4000 cParseE 0]
   show ((tabsN S:Nat):Int)=_
   rw [hN]
  have e2:tv v (1,4,3002,0)=4000:=by
   show intA (v (4,3002,0))=_
   rw [hv _ (by show 4 < 5; decide)]
   exact cx0_gb (bdS S (tabsN S)) 4000 cParseE 2
  have z0:tv v zT=0:=rfl
  simp only [cParseE,List.mem_cons,List.not_mem_nil,or_false] at hf
  rcases hf with rfl | rfl | rfl
  ·show tv v (1,4,3000,0) + 0 ≤ tv v (2,1,0,0); omega
  ·show tv v (2,1,0,0) + 0 ≤ tv v (1,4,3000,0); omega
  ·show tv v zT + 4000 ≤ tv v (1,4,3002,0); omega
 exact partsG_wk (K:=k26 [cRead,cPQuery,cPDone,cWFind,cQRight] []) (las:=lParseE) (base26 (ctrs_cons (okRead _ _) (ctrs_cons (okPQuery _ _) (ctrs_cons (okPDone _ _) (ctrs_cons (okWFind _ _) (ctrs_cons (okQRight _ _) (ctrs_nil _ _))))))) sgParseE_0 (cx0_ok _ _ _ rfl rfl rfl) (fun _=>⟨rfl,rfl⟩) hz (fun i ts hi=>by simp [cParseE] at hi) hpre (ParG S) (fun r h'=>parse_end) (fun hK hbr=>rq_seg (c:=bParseE0) (by decide) hK hbr sgParseE0 (parse_last hS))
def codeC1:Code→Code
 | .seq a _=>a
 | c=>c
def codeC2:Code→Code
 | .seq _ (.seq b _)=>b
 | c=>c
theorem wk_two {P:Program} {X:Orc} {N:Nat} {fn:Func} {c a b:Code} {st:St} {Q:Ex→St→Prop} (h1:fn.body=some c) (h2:codeC1 c=a) (h3:codeC2 c=b) (h:Wk P X N [.code a,.code b] st Q):Wk P X N [.code (codeC1 (fn.body.getD .skip)),.code (codeC2 (fn.body.getD .skip))] st Q:=by
 rw [h1]; subst h2; subst h3; exact h
theorem two_getD {a b c z:A} {i:Nat} (h:i ≠ 1):([a,b]:List A)[i]?.getD z=([a,c]:List A)[i]?.getD z:=by
 match i with
 | 0=>rfl
 | 1=>exact absurd rfl h
 | n + 2=>rfl
theorem parse_at {S:D} (hS:IsSch S S) {t1 t2:ByteArray} (h1:t1.size ≤ 1000) (h2:t2.size ≤ 1000) (hr:readF t2=readF t1):∃ r h',ev26 7 0 E0 [.d S,.d (.s (.string t1))]=some (r,h')∧ev26 7 0 E0 [.d S,.d (.s (.string t2))]=some (r,h')∧ParG S r h':=by
 have hw:=parse_wk hS h1
 have r1:=read_at t1 (by omega)
 have r2:=read_at t2 (by omega)
 rw [hr] at r2
 obtain ⟨xs,hx,_,_⟩:=sch_cells hS
 obtain ⟨A1,k1,k2⟩:∃ A1,Wk Tryz.prog ev26 2000000000000000 [.code (codeC1 (Tryz.f7.body.getD .skip)),.code (codeC2 (Tryz.f7.body.getD .skip))] (initSt Tryz.f7 0 E0 [.d S,.d (.s (.string t1))]) (fun x s=>x = .normal∧s=A1)∧Wk Tryz.prog ev26 2000000000000000 [.code (codeC1 (Tryz.f7.body.getD .skip)),.code (codeC2 (Tryz.f7.body.getD .skip))] (initSt Tryz.f7 0 E0 [.d S,.d (.s (.string t2))]) (fun x s=>x = .normal∧s=setJs [(1,.d (.s (.string t2))),(14,.d (.s (.string t2)))] A1):=by
  generalize readF t1=p at *
  apply Exists.intro
  constructor
  ·refine wk_two (fn:=Tryz.f7) rfl (by simp only [codeC1]; rfl) (by simp only [codeC2]; rfl) ?_
   simp [hx,r1,Tryz.ntmps7]
   rfl
  ·refine wk_two (fn:=Tryz.f7) rfl (by simp only [codeC1]; rfl) (by simp only [codeC2]; rfl) ?_
   simp [hx,r2,Tryz.ntmps7]
   simp only [setJs,setJ,St.mk.injEq,true_and,and_true]
   funext i
   by_cases e1:i=1
   ·subst e1; rfl
   ·by_cases e14:i=14
    ·subst e14; rfl
    ·simp only [upd,e1,e14,if_false,two_getD (b:=.d (.s (.string t2))) (c:=.d (.s (.string t1))) e1]
 exact evr_irr (N:=2000000000000000) (fn:=Tryz.f7) rfl Tryz.func7 rfl (by simp [Tryz.ntmps7]) (by simp [Tryz.ntmps7]) (by decide) [(1,.d (.s (.string t2))),(14,.d (.s (.string t2)))] k1 k2 (by kernel_rfl) (by kernel_rfl) hw
end
section
attribute [local congr] ite_congr
def AllJ (p:Nat→Prop) (j:Nat):Prop:=∀ i,i < j→p i
theorem AllJ_zero (p:Nat→Prop):AllJ p 0:=fun i hi=>absurd hi (Nat.not_lt_zero _)
theorem AllJ_succ {p:Nat→Prop} {j:Nat} (h:AllJ p j) (hj:p j):AllJ p (j + 1):=fun i hi=>by
 rcases Nat.lt_or_eq_of_le (Nat.lt_succ_iff.1 hi) with h1 | rfl
 ·exact h i h1
 ·exact hj
theorem AllJ_mem {α:Type} {l:List α} {q:α→Prop} (h:AllJ (fun i=>∀ x,l[i]? = some x→q x) l.length):∀ x ∈ l,q x:=fun x hx=>by
 obtain ⟨i,hi,rfl⟩:=List.getElem_of_mem hx
 exact h i hi _ (List.getElem?_eq_getElem hi)
theorem AllJ_next {α:Type} {l:List α} {q:α→Prop} {j:Nat} (hj:j < l.length) (h:AllJ (fun i=>∀ x,l[i]? = some x→q x) j) (hq:q l[j]):AllJ (fun i=>∀ x,l[i]? = some x→q x) (j + 1) :=
 AllJ_succ h fun x hx=>by rw [List.getElem?_eq_getElem hj] at hx; cases hx; exact hq
theorem op_cells {R:Nat→D→Prop} {x:D} (h:ShT R (.st cOp) x):∃ (a b c d:Int) (e:List D) (f g:Int) (w:ByteArray) (i j k:Int),x = .agg [.s (.int .i64 a),.s (.int .i64 b),.s (.int .i64 c),.s (.int .i64 d),.lst e,.s (.int .i64 f),.s (.int .i64 g),.s (.string w),.s (.int .i64 i),.s (.int .i64 j),.s (.int .i64 k)]:=by
 simp only [ShT,ShL] at h
 obtain ⟨_,rfl,_,_,rfl,⟨a,rfl⟩,_,_,rfl,⟨b,rfl⟩,_,_,rfl,⟨c,rfl⟩,_,_,rfl,⟨d,rfl⟩,_,_,rfl,⟨e,rfl,_⟩,_,_,rfl,⟨f,rfl⟩,_,_,rfl,⟨g,rfl⟩,_,_,rfl,⟨w,rfl,_⟩,_,_,rfl,⟨i,rfl⟩,_,_,rfl,⟨j,rfl⟩,_,_,rfl,⟨k,rfl⟩,rfl⟩:=h
 exact ⟨a,b,c,d,e,f,g,w,i,j,k,rfl⟩
abbrev RP (S:D):Nat→D→Prop:=R26 (bdK (bdS S (tabsN S)) 4000) 4000
def OpR (S o:D):Prop:=ev26 10 0 E0 [.d S,.d o]=some (.val (.s (.int .i64 0)),E0)
def OpsG (S:D) (r:R) (h':Id→O):Prop:=h' = E0 ∧ ∃ (l:List D) (e:Int),r = .tup [.d (.lst l),.d (.s (.int .i64 e))]∧l.length ≤ bL∧(∀ o ∈ l,ShT (RP S) (.st cOp) o)∧(e ≠ 0→l=[]) ∧ ∀ o ∈ l,OpR S o
theorem oright_at {S o:D} (hS:IsSch S S) (ho:ShT (RP S) (.st cOp) o):∃ n:Int,ev26 10 0 E0 [.d S,.d o]=some (.val (.s (.int .i64 n)),E0):=by
 have hS':ShT (RP S) tSch S:=by
  obtain ⟨_,ds,h2,h3⟩:=hS
  exact ⟨ds,h2,ShL_mono (fun i y hy=>by obtain ⟨rfl,h⟩:=hy; exact (R26_551 (bd:=bdK (bdS S (tabsN S)) 4000) (k:=4000)).2 h) h3⟩
 obtain ⟨r,a,e1,⟨x,rfl,_,n,rfl⟩,_⟩:=val_of (bd:=bdS S (tabsN S)) (k:=4000) (c:=cORight) (okORight _ 4000) rfl rfl rfl (zs:=[.d S,.d o]) (oks2 (by simp only [TV.ok]; exact ⟨_,rfl,hS'⟩) (by simp only [TV.ok]; exact ⟨_,rfl,ho⟩)) (nil_pre rfl)
 exact ⟨n,e1⟩
theorem ops_last {S:D} (hS:IsSch S S) {t:D}:RunQ wOpsE (cxP S cOpsE) ev26 2000000000000000 (fun i=>([.d S,.d t]:List A).getD i (.d (.s undef))) bOpsE1 hkOpsE0 (bodyE Tryz.prog Tryz.f8 0 E0 (OpsG S)):=by
 intro gs st hgs g ha
 obtain ⟨v2,ds2,w1,w2⟩:=g.wh ((true,2),_) List.mem_cons_self
 have p10:=g.sl (10,.own (true,71) (.st cOp)) List.mem_cons_self
 obtain ⟨u2,cu2,p5,p6⟩:=g.sl (2,.bp (true,2) 0) (List.mem_of_getElem? (i:=3) rfl)
 have hfs:=g.fs (apv ((cxP S cOpsE).g gs) st) (fun _ _=>rfl)
 have f1:intA (st.t 56) + 0 ≤ intA (st.t 55):=hfs _ (List.mem_of_getElem? (i:=2) rfl)
 have f2:lenA (st.t 10) + 0 ≤ intA (st.t 56):=hfs _ (List.mem_of_getElem? (i:=3) rfl)
 have f3:intA (st.t 55) + 0 ≤ lenA (st.t 54):=hfs _ (List.mem_of_getElem? (i:=4) rfl)
 have f4:lenA (st.t 54) + (-4001) ≤ 0:=hfs _ (List.mem_of_getElem? (i:=8) rfl)
 have hd:=g.d
 have hn:=g.n
 obtain ⟨n,d,tt,h,al⟩:=st
 obtain rfl:d=0:=hd
 obtain rfl:n=87:=hn
 have w1:h (0,2) = .box v2 (ds2.map A.d):=w1
 have p5:tt 2 = .bp (0,2) u2 0:=p5
 have p6:h (0,2) = .box u2 cu2:=p6
 rw [w1] at p6
 cases p6
 have w2:IsSch S (.agg ds2):=(R26_580 (bd:=bdK (bdS S (tabsN S)) 4000) (k:=4000)).1 w2
 obtain ⟨ys,e1,e2,_⟩:=sch_cells w2
 cases e1
 have p10:(∃ xs,tt 10 = .clip xs ∧ ∀ x ∈ xs,ShT (RP S) (.st cOp) x) ∨ ∃ ver n xs fz,tt 10 = .sl (0,71) ver 0 xs.length∧h (0,71) = .vec ver n xs fz∧n=11 ∧ ∀ x ∈ xs,ShT (RP S) (.st cOp) x:=p10
 rcases p10 with ⟨xs,h10,hxs⟩ | ⟨ver,n',xs,fz,h10,hv,rfl,hxs⟩
 ·have hl10:xs.length ≤ 4001:=by
   have:lenA (tt 10)=xs.length:=by rw [h10]; rfl
   simp only [this] at f2
   simp only at f1 f3 f4
   omega
  have hor:∀ x ∈ xs,∃ n:Int,ev26 10 0 E0 [.d S,.d x]=some (.val (.s (.int .i64 n)),E0):=fun x hx=>oright_at hS (hxs x hx)
  have hG0:∀ e:Int,OpsG S (.tup [.d (.lst []),.d (.s (.int .i64 e))]) E0:=fun e=>⟨rfl,[],e,rfl,Nat.zero_le _,fun o ho=>(by cases ho),fun _=>rfl,fun o ho=>(by cases ho)⟩
  have hG1:(∀ o ∈ xs,OpR S o)→OpsG S (.tup [.d (.lst xs),.d (.s (.int .i64 0))]) E0:=fun ho=>⟨rfl,xs,0,rfl,Nat.le_trans hl10 (by decide),hxs,fun h=>absurd rfl h,ho⟩
  show Wk Tryz.prog ev26 2000000000000000 [.code bOpsE1] ⟨87,0,tt,h,al⟩ (bodyE Tryz.prog Tryz.f8 0 E0 (OpsG S))
  refine wk_cut (fn:=Tryz.f8) (m:=9) rfl (by simp only [cutC]; rfl) ?_
  simp [w1,p5,h10,Tryz.ntmps8,Tryz.results8,(show keepT Tryz.f8.name=false from rfl)]
  refine Wk_range xs [76,77,78,16,79,80,81,17,82,83,84,4,5,85,75] [] 75 (fun j _ _=>AllJ (fun i=>∀ x,xs[i]? = some x→OpR S x) j) (by omega) (by omega) (by simp) (AllJ_zero _) ?_ ?_
  ·intro j hj t' h' hi hT hT2 hH hH2 hJ hw
   obtain ⟨m,hr⟩:=hor xs[j] (List.getElem_mem hj)
   have hnx:=fun hb=>AllJ_next (q:=fun x=>OpR S x) hj hJ hb
   obtain ⟨a1,a2,a3,a4,a5,a6,a7,a8,a9,a10,a11,hx⟩:=op_cells (hxs xs[j] (List.getElem_mem hj))
   have hr0:=hr
   rw [hx] at hr
   rw [e2] at hr
   by_cases hm:m=0
   ·subst hm
    simp [hT,hH,hj,hi,hw,hT2,hH2,w1,p5,h10,hr,hx,Tryz.ntmps8,Tryz.results8,(show keepT Tryz.f8.name=false from rfl)]
    exact hnx hr0
   ·simp [hT,hH,hj,hi,hw,hT2,hH2,w1,p5,h10,hr,hx,hm,Tryz.ntmps8,Tryz.results8,(show keepT Tryz.f8.name=false from rfl)]
    exact ⟨_,_,⟨rfl,rfl⟩,hG0 m⟩
  ·intro t' h' hi hT hT2 hH hH2 hJ
   have ha:=AllJ_mem hJ
   simp [hT,hH,hi,w1,p5,h10,Tryz.ntmps8,Tryz.results8,(show keepT Tryz.f8.name=false from rfl)]
   exact ⟨_,_,⟨rfl,rfl⟩,hG1 ha⟩
 ·have hl10:xs.length ≤ 4001:=by
   have:lenA (tt 10)=xs.length:=by rw [h10]; rfl
   simp only [this] at f2
   simp only at f1 f3 f4
   omega
  have hor:∀ x ∈ xs,∃ n:Int,ev26 10 0 E0 [.d S,.d x]=some (.val (.s (.int .i64 n)),E0):=fun x hx=>oright_at hS (hxs x hx)
  have hG0:∀ e:Int,OpsG S (.tup [.d (.lst []),.d (.s (.int .i64 e))]) E0:=fun e=>⟨rfl,[],e,rfl,Nat.zero_le _,fun o ho=>(by cases ho),fun _=>rfl,fun o ho=>(by cases ho)⟩
  have hG1:(∀ o ∈ xs,OpR S o)→OpsG S (.tup [.d (.lst xs),.d (.s (.int .i64 0))]) E0:=fun ho=>⟨rfl,xs,0,rfl,Nat.le_trans hl10 (by decide),hxs,fun h=>absurd rfl h,ho⟩
  show Wk Tryz.prog ev26 2000000000000000 [.code bOpsE1] ⟨87,0,tt,h,al⟩ (bodyE Tryz.prog Tryz.f8 0 E0 (OpsG S))
  refine wk_cut (fn:=Tryz.f8) (m:=9) rfl (by simp only [cutC]; rfl) ?_
  simp [w1,p5,h10,hv,Tryz.ntmps8,Tryz.results8,(show keepT Tryz.f8.name=false from rfl)]
  refine Wk_range xs [76,77,78,16,79,80,81,17,82,83,84,4,5,85,75] [] 75 (fun j _ _=>AllJ (fun i=>∀ x,xs[i]? = some x→OpR S x) j) (by omega) (by omega) (by simp) (AllJ_zero _) ?_ ?_
  ·intro j hj t' h' hi hT hT2 hH hH2 hJ hw
   obtain ⟨m,hr⟩:=hor xs[j] (List.getElem_mem hj)
   have hnx:=fun hb=>AllJ_next (q:=fun x=>OpR S x) hj hJ hb
   obtain ⟨a1,a2,a3,a4,a5,a6,a7,a8,a9,a10,a11,hx⟩:=op_cells (hxs xs[j] (List.getElem_mem hj))
   have hr0:=hr
   rw [hx] at hr
   rw [e2] at hr
   by_cases hm:m=0
   ·subst hm
    simp [hT,hH,hj,hi,hw,hT2,hH2,w1,p5,h10,hv,hr,hx,Tryz.ntmps8,Tryz.results8,(show keepT Tryz.f8.name=false from rfl)]
    exact hnx hr0
   ·simp [hT,hH,hj,hi,hw,hT2,hH2,w1,p5,h10,hv,hr,hx,hm,Tryz.ntmps8,Tryz.results8,(show keepT Tryz.f8.name=false from rfl)]
    exact ⟨_,_,⟨rfl,rfl⟩,hG0 m⟩
  ·intro t' h' hi hT hT2 hH hH2 hJ
   have ha:=AllJ_mem hJ
   simp [hT,hH,hi,w1,p5,h10,hv,Tryz.ntmps8,Tryz.results8,(show keepT Tryz.f8.name=false from rfl)]
   exact ⟨_,_,⟨by cases fz <;> simp [okW],rfl,rfl⟩,hG1 ha⟩
theorem ops_end {S:D} {t:D} {r:R} {h':Id→O} (h:EndOk (cxP S cOpsE) cOpsE 0 E0 [.d S,.d t] r h'):OpsG S r h':=by
 obtain ⟨a,⟨ds,rfl,rfl,h1⟩,h2,_,h3⟩:=h
 have e:h' = E0:=by
  funext i
  refine h2 i ?_
  rintro (⟨j,hj,_⟩ | ⟨p,hp,_⟩)
  ·cases hj
  ·cases hp
 subst e
 simp only [ShL] at h1
 obtain ⟨q,_,rfl,hq,_,_,rfl,he,rfl⟩:=h1
 simp only [ShT] at hq he
 obtain ⟨e,rfl⟩:=he
 obtain ⟨l,rfl,hl1,hl2⟩:=hq
 have hl0:l=[]:=by
  let v:AP→A:=fun y=>match y.1 with
   | 5=>.tup ([D.lst l,D.s (.int .i64 e)].map .d)
   | 6=>(A.tup ([D.lst l,D.s (.int .i64 e)].map .d)).parts.getD y.2.1 .any
   | 7=>boxCell (E0 ((cxP S cOpsE).π y.2.2)) y.2.1
   | _=>apv (cxP S cOpsE) (st0 0 E0 [.d S,.d t]) y
  have h4:=h3 v ⟨fun y hy=>by
   obtain ⟨i,j,k⟩:=y
   have hy:i < 5:=hy
   show (match i with | 5=>_ | 6=>_ | 7=>_ | _=>_)=_
   split
   ·omega
   ·omega
   ·omega
   ·rfl,fun _ _=>rfl,fun _ _=>rfl,fun _ _=>rfl⟩
  have h5:tv v (2,6,0,0) + 0 ≤ tv v zT:=h4 _ List.mem_cons_self
  have e1:tv v (2,6,0,0)=l.length:=rfl
  have z0:tv v zT=0:=rfl
  exact List.length_eq_zero_iff.1 (by omega)
 subst hl0
 exact ⟨rfl,[],e,rfl,Nat.zero_le _,fun o ho=>(by cases ho),fun _=>rfl,fun o ho=>(by cases ho)⟩
theorem ops_wk {S:D} (hS:IsSch S S) {t:ByteArray} (ht:t.size ≤ 1000):Wk Tryz.prog ev26 2000000000000000 [.code bOpsE0] (initSt Tryz.f8 0 E0 [.d S,.d (.s (.string t))]) (bodyE Tryz.prog Tryz.f8 0 E0 (OpsG S)):=by
 obtain ⟨xs,hx,_,hl⟩:=sch_cells hS
 have hN:tabsN S=xs.length:=by rw [hx]; rfl
 have hz:TV.oks (cxP S cOpsE) E0 cOpsE.args [.d S,.d (.s (.string t))]:=by
  refine oks2 ?_ ?_
  ·simp only [TV.ok,ShT]
   exact ⟨_,rfl,(R26_580 (bd:=bdK (bdS S (tabsN S)) 4000) (k:=4000)).2 hS⟩
  ·simp only [TV.ok,ShT]; exact ⟨_,rfl,_,rfl,ht⟩
 exact partsG_wk (K:=k26 [cRead,cPDeed,cPTake,cPDone,cDPlace,cORight] []) (las:=lOpsE) (base26 (ctrs_cons (okRead _ _) (ctrs_cons (okPDeed _ _) (ctrs_cons (okPTake _ _) (ctrs_cons (okPDone _ _) (ctrs_cons (okDPlace _ _) (ctrs_cons (okORight _ _) (ctrs_nil _ _)))))))) sgOpsE_0 (cx0_ok _ _ _ rfl rfl rfl) (fun _=>⟨rfl,rfl⟩) hz (fun i ts hi=>by simp [cOpsE] at hi) (nil_pre rfl) (OpsG S) (fun r h'=>ops_end) (fun hK hbr=>rq_seg (c:=bOpsE0) (by decide) hK hbr sgOpsE0 (ops_last hS))
theorem ops_at {S:D} (hS:IsSch S S) {t1 t2:ByteArray} (h1:t1.size ≤ 1000) (h2:t2.size ≤ 1000) (hr:readF t2=readF t1):∃ r h',ev26 8 0 E0 [.d S,.d (.s (.string t1))]=some (r,h')∧ev26 8 0 E0 [.d S,.d (.s (.string t2))]=some (r,h')∧OpsG S r h':=by
 have hw:=ops_wk hS h1
 have r1:=read_at t1 (by omega)
 have r2:=read_at t2 (by omega)
 rw [hr] at r2
 obtain ⟨xs,hx,_,_⟩:=sch_cells hS
 obtain ⟨A1,k1,k2⟩:∃ A1,Wk Tryz.prog ev26 2000000000000000 [.code (codeC1 (Tryz.f8.body.getD .skip)),.code (codeC2 (Tryz.f8.body.getD .skip))] (initSt Tryz.f8 0 E0 [.d S,.d (.s (.string t1))]) (fun x s=>x = .normal∧s=A1)∧Wk Tryz.prog ev26 2000000000000000 [.code (codeC1 (Tryz.f8.body.getD .skip)),.code (codeC2 (Tryz.f8.body.getD .skip))] (initSt Tryz.f8 0 E0 [.d S,.d (.s (.string t2))]) (fun x s=>x = .normal∧s=setJs [(1,.d (.s (.string t2))),(19,.d (.s (.string t2)))] A1):=by
  generalize readF t1=p at *
  apply Exists.intro
  constructor
  ·refine wk_two (fn:=Tryz.f8) rfl (by simp only [codeC1]; rfl) (by simp only [codeC2]; rfl) ?_
   simp [hx,r1,Tryz.ntmps8]
   rfl
  ·refine wk_two (fn:=Tryz.f8) rfl (by simp only [codeC1]; rfl) (by simp only [codeC2]; rfl) ?_
   simp [hx,r2,Tryz.ntmps8]
   simp only [setJs,setJ,St.mk.injEq,true_and,and_true]
   funext i
   by_cases e1:i=1
   ·subst e1; rfl
   ·by_cases e19:i=19
    ·subst e19; rfl
    ·simp only [upd,e1,e19,if_false,two_getD (b:=.d (.s (.string t2))) (c:=.d (.s (.string t1))) e1]
 exact evr_irr (N:=2000000000000000) (fn:=Tryz.f8) rfl Tryz.func8 rfl (by simp [Tryz.ntmps8]) (by simp [Tryz.ntmps8]) (by decide) [(1,.d (.s (.string t2))),(19,.d (.s (.string t2)))] k1 k2 (by kernel_rfl) (by kernel_rfl) hw
end
section
attribute [local congr] ite_congr
theorem Wk_rangeB {P:Program} {X:Orc} {N:Nat} {k:List Itm} {c:Code} {n d:Nat} {t:Nat→A} {h:Id→O} {al:List Id} {Q:Ex→St→Prop} {α:Type} (l:List α) (W:List Nat) (Y:List Id) (ti:Nat) (J:Nat→(Nat→A)→(Id→O)→Prop) (hN:l.length < N) (hl:l.length ≤ 140737488355328)
  (h0:t ti = .d (.s (.int .i64 0))) (hJ:J 0 t h)
  (round:∀ j (hj:j < l.length) t' h',t' ti = .d (.s (.int .i64 (j:Int)))→(∀ i,i ∉ W→t' i=t i)→FrT W t t'→(∀ id,id ∉ Y→(id.1=d→id.2 ∉ W)→h' id=h id)→FrH W Y d h h'→J j t' h'→IntKind.i64.wrap ((j:Int) + 1)=(j:Int) + 1→Wk P X N [.code c] ⟨n,d,t',h',al⟩ (RoundR P X N k Q W Y ti J ⟨n,d,t,h,al⟩ j))
  (last:∀ t' h',t' ti = .d (.s (.int .i64 (l.length:Int)))→(∀ i,i ∉ W→t' i=t i)→FrT W t t'→(∀ id,id ∉ Y→(id.1=d→id.2 ∉ W)→h' id=h id)→FrH W Y d h h'→J l.length t' h'→Wk P X N [.code c] ⟨n,d,t',h',al⟩ (fun x s'=>match x with | .normal=>False | x=>Wu P X N x k s' Q)) :
  Wk P X N (.code (.loop c) :: k) ⟨n,d,t,h,al⟩ Q:=by
 refine Wk_loop (fun j s=>s.n=n∧s.d=d∧s.al=al∧s.t ti = .d (.s (.int .i64 (j:Int)))∧FrT W t s.t∧FrH W Y d h s.h∧J j s.t s.h) l.length hN ⟨rfl,rfl,rfl,h0,FrT_refl _ _,FrH_refl _ _ _ _,hJ⟩ ?_
 rintro j ⟨n',d',t',h',al'⟩ hj ⟨h1,h2,h3,h4,h5,h6,h7⟩
 simp only at h1 h2 h3 h4 h5 h6 h7
 subst h1 h2 h3
 rcases Nat.lt_or_ge j l.length with hlt | hge
 ·refine Wk_mono (round j hlt t' h' h4 h5 h5 h6 h6 h7 (wrap_i64 (by omega) (by omega))) fun x s hq=>?_
  cases x with
  | normal=>exact ⟨hlt,hq⟩
  | exit i=>exact hq
  | goto i=>exact hq
  | ret=>exact hq
 ·obtain rfl:j=l.length:=by omega
  refine Wk_mono (last t' h' h4 h5 h5 h6 h6 h7) fun x s hq=>?_
  cases x with
  | normal=>exact hq.elim
  | exit i=>exact hq
  | goto i=>exact hq
  | ret=>exact hq
abbrev cTabB:List Ty:=[.str bS,.lst (.st cCol) bB,.lst tI bB,.lst (.nm 551) bB,.lst (.st [tI,tI,tI]) bB,.lst (.st [tI,tI,tI]) bB]
abbrev cSchB:List Ty:=[.lst (.st cTabB) bB]
abbrev RB:Nat→D→Prop:=fun j y=>j=551 ∧ ∃ m,ShB m y
def IsBig (S:D):Prop:=∃ ds,S = .agg ds∧ShL RB cSchB ds
def wT:D→Int
 | .agg [_,.lst a,.lst b,.lst c,.lst d,.lst e]=>(a.length:Int) + b.length + c.length + d.length + e.length
 | _=>0
def sumW (ts:List D):Int:=(ts.map wT).sum
theorem tab_cells {x:D} (h:ShT RB (.st cTabB) x):∃ (s:ByteArray) (a b c d e:List D),x = .agg [.s (.string s),.lst a,.lst b,.lst c,.lst d,.lst e]∧a.length ≤ bB∧b.length ≤ bB∧c.length ≤ bB∧d.length ≤ bB∧e.length ≤ bB:=by
 simp only [ShT,ShL] at h
 obtain ⟨_,rfl,_,_,rfl,⟨s,rfl,_⟩,_,_,rfl,⟨a,rfl,h1,_⟩,_,_,rfl,⟨b,rfl,h2,_⟩,_,_,rfl,⟨c,rfl,h3,_⟩,_,_,rfl,⟨d,rfl,h4,_⟩,_,_,rfl,⟨e,rfl,h5,_⟩,rfl⟩:=h
 exact ⟨s,a,b,c,d,e,rfl,h1,h2,h3,h4,h5⟩
theorem sumW_le {ts:List D} (h:∀ t ∈ ts,ShT RB (.st cTabB) t):0 ≤ sumW ts∧sumW ts ≤ ts.length * 703687441776640:=by
 induction ts with
 | nil=>exact ⟨by decide,by decide⟩
 | cons t ts ih =>
  obtain ⟨s,a,b,c,d,e,rfl,h1,h2,h3,h4,h5⟩:=tab_cells (h t List.mem_cons_self)
  have ih:=ih fun t ht=>h t (List.mem_cons_of_mem _ ht)
  unfold sumW at ih ⊢
  simp only [List.map_cons,List.sum_cons,List.length_cons,wT]
  have e0:bB=140737488355328:=rfl
  omega
theorem few_at {ts:List D} (hl:ts.length ≤ bB) (ht:∀ t ∈ ts,ShT RB (.st cTabB) t):∃ r,ev26 19 0 E0 [.d (.agg [.lst ts])]=some (r,E0) ∧ ∃ b:Bool,r = .val (.s (.bool b))∧(b=true→ts.length ≤ 20∧sumW ts ≤ 400):=by
 have e0:bB=140737488355328:=rfl
 refine evr_val (n:=ts.length + 5) rfl (fn:=Tryz.f19) Tryz.func19 rfl (by simp [Tryz.ntmps19]) (by decide) ?_
 simp [Tryz.ntmps19,Tryz.results19]
 refine Wk_rangeB ts [6,7,8,9,10,13,14,15,16,17,5,18,19,20,21,22,23,24,25,26,27,28,29,30,31,32,33,34,35,36,37,38,3,11,12,4] [] 4 (fun j t _=>∃ n:Int,t 3 = .d (.s (.int .i64 n))∧(ts.length ≤ 20→n=sumW (ts.take j))) (by omega) (by omega) (by simp) ⟨0,by simp,fun _=>rfl⟩ ?_ ?_
 ·intro j hj t' h' hi hT hT2 hH hH2 hJ hw
  obtain ⟨n,h3,hn⟩:=hJ
  obtain ⟨s,a,b,c,d,e,hx,h1,h2,h4,h5,h6⟩:=tab_cells (ht ts[j] (List.getElem_mem hj))
  simp [hT,hH,hj,hi,hw,hT2,hH2,h3,hx,Tryz.ntmps19,Tryz.results19]
  intro k1
  have hn:=hn k1
  have hs:=sumW_le (ts:=ts.take j) fun t hm=>ht t (List.mem_of_mem_take hm)
  have hlt:(ts.take j).length=j:=by rw [List.length_take]; omega
  rw [← hn,hlt] at hs
  have hsum:sumW (ts.take (j + 1))=n + wT ts[j]:=by
   rw [hn]
   unfold sumW
   rw [List.take_add_one,List.getElem?_eq_getElem hj,List.map_append,List.sum_append]
   simp only [Option.toList_some,List.map_cons,List.map_nil,List.sum_cons,List.sum_nil,Int.add_zero]
  have hw5:wT ts[j]=(a.length:Int) + b.length + c.length + d.length + e.length:=by rw [hx]; rfl
  rw [hsum,hw5]
  rw [wrap_i64 (x:=n + a.length) (by omega) (by omega),wrap_i64 (x:=n + a.length + b.length) (by omega) (by omega),wrap_i64 (x:=n + a.length + b.length + c.length) (by omega) (by omega),wrap_i64 (x:=n + a.length + b.length + c.length + d.length) (by omega) (by omega),wrap_i64 (by omega) (by omega)]
  omega
 ·intro t' h' hi hT hT2 hH hH2 hJ
  obtain ⟨n,h3,hn⟩:=hJ
  by_cases k1:ts.length ≤ 20
  ·have k1':(ts.length:Int) ≤ 20:=by omega
   have hn:=hn k1
   rw [List.take_length] at hn
   by_cases k2:n ≤ 400
   ·simp [hT,hH,hi,h3,k1,k1',k2,Tryz.ntmps19,Tryz.results19]
    omega
   ·simp [hT,hH,hi,h3,k1,k1',k2,Tryz.ntmps19,Tryz.results19]
    first | done | omega
  ·have k1':¬ (ts.length:Int) ≤ 20:=by omega
   simp [hT,hH,hi,h3,k1,k1',Tryz.ntmps19,Tryz.results19]
   first | done | omega
theorem wT_nn {x:D} (h:ShT RB (.st cTabB) x):0 ≤ wT x:=by
 obtain ⟨s,a,b,c,d,e,rfl,_⟩:=tab_cells h
 show (0:Int) ≤ (a.length:Int) + b.length + c.length + d.length + e.length
 omega
theorem wT_of_sum {ts:List D} (ht:∀ t ∈ ts,ShT RB (.st cTabB) t) {m:Int} (h:sumW ts ≤ m):∀ t ∈ ts,wT t ≤ m:=by
 induction ts generalizing m with
 | nil=>intro t h; cases h
 | cons x ts ih =>
  have hx:=wT_nn (ht x List.mem_cons_self)
  have hr:=sumW_le (ts:=ts) fun t h=>ht t (List.mem_cons_of_mem _ h)
  have e:sumW (x :: ts)=wT x + sumW ts:=by simp [sumW]
  intro t hm
  rcases List.mem_cons.1 hm with rfl | hm
  ·omega
  ·exact ih (fun t h=>ht t (List.mem_cons_of_mem _ h)) (by omega) t hm
theorem tab_small {x:D} (h:ShT RB (.st cTabB) x) (hw:wT x ≤ 400):ShT RB (.st cTab) x:=by
 simp only [ShT,ShL] at h ⊢
 obtain ⟨_,rfl,_,_,rfl,⟨s,rfl,hs⟩,_,_,rfl,⟨a,rfl,h1,g1⟩,_,_,rfl,⟨b,rfl,h2,g2⟩,_,_,rfl,⟨c,rfl,h3,g3⟩,_,_,rfl,⟨d,rfl,h4,g4⟩,_,_,rfl,⟨e,rfl,h5,g5⟩,rfl⟩:=h
 have hw:(a.length:Int) + b.length + c.length + d.length + e.length ≤ 400:=hw
 have hb:bL=100000000:=rfl
 exact ⟨_,rfl,_,_,rfl,⟨s,rfl,hs⟩,_,_,rfl,⟨a,rfl,by omega,g1⟩,_,_,rfl,⟨b,rfl,by omega,g2⟩,_,_,rfl,⟨c,rfl,by omega,g3⟩,_,_,rfl,⟨d,rfl,by omega,g4⟩,_,_,rfl,⟨e,rfl,by omega,g5⟩,rfl⟩
theorem names_big {S:D} (hB:IsBig S):∃ b:Bool,ev26 6 0 E0 [.d S]=some (.val (.s (.bool b)),E0)∧(b=true→IsSch S S):=by
 obtain ⟨ds,rfl,h⟩:=hB
 simp only [ShL] at h
 obtain ⟨_,_,rfl,h1,rfl⟩:=h
 have h1:ShT RB (.lst (.st cTabB) bB) _:=h1
 unfold ShT at h1
 obtain ⟨ts,rfl,hl,ht⟩:=h1
 obtain ⟨r,e1,b,rfl,hb⟩:=few_at hl ht
 have key:∃ r,ev26 6 0 E0 [.d (.agg [.lst ts])]=some (r,E0)∧r = .val (.s (.bool b)):=by
  refine evr_val (n:=5) rfl (fn:=Tryz.f6) Tryz.func6 rfl (by simp [Tryz.ntmps6]) (by decide) ?_
  simp [e1,Tryz.ntmps6,Tryz.results6]
 obtain ⟨_,e2,rfl⟩:=key
 refine ⟨b,e2,fun hbt=>⟨rfl,_,rfl,?_⟩⟩
 obtain ⟨k1,k2⟩:=hb hbt
 have hb:bL=100000000:=rfl
 have hsm:=wT_of_sum ht k2
 simp only [ShL]
 refine ⟨_,_,rfl,?_,rfl⟩
 unfold ShT
 exact ⟨ts,rfl,by omega,fun t hm=>tab_small (ht t hm) (hsm t hm)⟩
end
section
attribute [local congr] ite_congr
end
section
attribute [local congr] ite_congr
abbrev dI (n:Int):A:=.d (.s (.int .i64 n))
def deepP:Nat→D→Bool
 | 0,_=>true
 | n + 1,.agg [_,_,_,_,_,.lst xs]=>xs.any (deepP n)
 | _ + 1,_=>false
def isBe (b:Bool):R→Prop
 | .val (.s (.bool c))=>c=b
 | _=>False
theorem isBe_val (b c:Bool):isBe b (.val (.s (.bool c)))=(c=b):=rfl
attribute [simp] isBe_val
theorem isBe_at {x:Option (R × (Id→O))} {b:Bool} (h:∃ r,x=some (r,E0)∧isBe b r):x=some (.val (.s (.bool b)),E0):=by
 obtain ⟨r,rfl,hb⟩:=h
 unfold isBe at hb; split at hb
 ·rw [hb]
 ·exact hb.elim
def AllK (p:Nat→Prop) (j:Nat):Prop:=∀ i,i < j→p i
theorem AllK_zero (p:Nat→Prop):AllK p 0:=fun i hi=>absurd hi (Nat.not_lt_zero _)
theorem AllK_succ {p:Nat→Prop} {j:Nat} (h:AllK p j) (hj:p j):AllK p (j + 1):=fun i hi=>by
 rcases Nat.lt_or_eq_of_le (Nat.lt_succ_iff.1 hi) with h1 | rfl
 ·exact h i h1
 ·exact hj
theorem AllK_mem {α:Type} {l:List α} {q:α→Prop} (h:AllK (fun i=>∀ x,l[i]? = some x→q x) l.length):∀ x ∈ l,q x:=fun x hx=>by
 obtain ⟨i,hi,rfl⟩:=List.getElem_of_mem hx
 exact h i hi _ (List.getElem?_eq_getElem hi)
theorem AllK_next {α:Type} {l:List α} {q:α→Prop} {j:Nat} (hj:j < l.length) (h:AllK (fun i=>∀ x,l[i]? = some x→q x) j) (hq:q l[j]):AllK (fun i=>∀ x,l[i]? = some x→q x) (j + 1) :=
 AllK_succ h fun x hx=>by rw [List.getElem?_eq_getElem hj] at hx; cases hx; exact hq
theorem wrap_pred {n:Nat} (h:n < 1000):IntKind.i64.wrap (n:Int)=(n:Int):=wrap_i64 (by omega) (by omega)
theorem deep_at:∀ (n:Nat),n < 1000→∀ {m:Nat} {x:D},ShA (m + 1) x→ev26 94 0 E0 [.d x,dI n]=some (.val (.s (.bool (deepP n x))),E0)
 | 0,_,m,x,hx=>by
  obtain ⟨a,b,c,d,w,xs,rfl,hw,hl,hs⟩:=ShA_cells hx
  refine isBe_at ?_
  refine evr_val (n:=5) rfl (fn:=Tryz.f94) Tryz.func94 rfl (by simp [Tryz.ntmps94]) (by decide) ?_
  simp [Tryz.ntmps94,Tryz.results94,deepP]
 | n + 1,hn,m,x,hx=>by
  obtain ⟨a,b,c,d,w,xs,rfl,hw,hl,hs⟩:=ShA_cells hx
  refine isBe_at ?_
  have hne:¬ ((n:Int) + 1=0):=by omega
  have hwp:=wrap_pred (n:=n) (by omega)
  have hbl:xs.length ≤ 1000000000000:=Nat.le_trans hl (by decide)
  have e1:((n + 1:Nat):Int)=(n:Int) + 1:=by omega
  refine evr_val (n:=xs.length + 5) rfl (fn:=Tryz.f94) Tryz.func94 rfl (by simp [Tryz.ntmps94]) (by decide) ?_
  rw [e1]
  simp [Tryz.ntmps94,Tryz.results94,hne]
  refine Wk_range xs [13,14,15,6,16,17,18,19,4,20,12] [] 12 (fun j _ _=>AllK (fun i=>∀ x,xs[i]? = some x→deepP n x=false) j) (by omega) hbl (by simp) (AllK_zero _) ?_ ?_
  ·intro j hj t h hi hT hT2 hH hH2 hJ hw
   have hsj:=hs xs[j] (List.getElem_mem hj)
   obtain ⟨m',rfl⟩:∃ m',m=m' + 1:=by
    cases m with
    | zero=>exact hsj.elim
    | succ m'=>exact ⟨m',rfl⟩
   have hr:=deep_at n (by omega) hsj
   have hJ':=fun h=>AllK_next (q:=fun x=>deepP n x=false) hj hJ h
   have hany:deepP n xs[j]=true→deepP (n + 1) (.agg [.s (.int .i64 a),.s (.int .i64 b),.s (.int .i64 c),.s (.int .i64 d),.s (.string w),.lst xs])=true:=fun h=>List.any_eq_true.2 ⟨_,List.getElem_mem hj,h⟩
   generalize hb:deepP n xs[j]=b at hr hJ' hany
   obtain ⟨a1,a2,a3,a4,a5,a6,hx0,_⟩:=ShA_cells hsj
   rw [hx0] at hr
   cases b with
   | true=>simp [hT,hH,hj,hi,hw,hr,hx0,hT2,hH2,hwp,hany,Tryz.ntmps94,Tryz.results94]
   | false =>
    have hJ':=hJ' rfl
    simp [hT,hH,hj,hi,hw,hr,hx0,hT2,hH2,hwp,Tryz.ntmps94,Tryz.results94]
    exact hJ'
  ·intro t h hi hT hT2 hH hH2 hJ
   have hall:=AllK_mem (q:=fun x=>deepP n x=false) hJ
   have hany:deepP (n + 1) (.agg [.s (.int .i64 a),.s (.int .i64 b),.s (.int .i64 c),.s (.int .i64 d),.s (.string w),.lst xs])=false:=by
    show xs.any (deepP n)=false
    rw [List.any_eq_false]
    intro x hx
    rw [hall x hx]; decide
   simp [hT,hH,hi,hany,Tryz.ntmps94,Tryz.results94]
theorem deep_part {n:Nat} {a b c d w:D} {xs:List D} (h:deepP (n + 1) (.agg [a,b,c,d,w,.lst xs])=false):∀ y ∈ xs,deepP n y=false:=fun y hy=>by
 have h:xs.any (deepP n)=false:=h
 rw [List.any_eq_false] at h
 have:=h y hy
 simpa using this
theorem may_deep {m:Nat} {x:D} (h:ShA (m + 1) x) (hd:deepP 20 x=true):ev26 67 0 E0 [.d x]=some (.val (.s (.int .i64 2)),E0):=by
 have h1:=deep_at 20 (by decide) h
 rw [hd] at h1
 obtain ⟨a1,a2,a3,a4,a5,a6,rfl,_⟩:=ShA_cells h
 have h1:ev26 94 0 E0 [.d (.agg [.s (.int .i64 a1),.s (.int .i64 a2),.s (.int .i64 a3),.s (.int .i64 a4),.s (.string a5),.lst a6]),.d (.s (.int .i64 20))]=_:=h1
 obtain ⟨r,e,rfl⟩:∃ r,ev26 67 0 E0 [.d (.agg [.s (.int .i64 a1),.s (.int .i64 a2),.s (.int .i64 a3),.s (.int .i64 a4),.s (.string a5),.lst a6])]=some (r,E0)∧r = .val (.s (.int .i64 2)):=by
  refine evr_val (n:=5) rfl (fn:=Tryz.f67) Tryz.func67 rfl (by simp [Tryz.ntmps67]) (by decide) ?_
  simp [Tryz.ntmps67,Tryz.results67,h1]
 exact e
theorem type_deep {m:Nat} {x:D} (h:ShA (m + 1) x) (hd:deepP 20 x=true) (l:List D):ev26 28 0 E0 [.d x,.d (.lst l)]=some (.tup [dI 0,dI 2],E0):=by
 have h1:=may_deep h hd
 obtain ⟨a1,a2,a3,a4,a5,a6,rfl,_⟩:=ShA_cells h
 obtain ⟨r,e,rfl⟩:∃ r,ev26 28 0 E0 [.d (.agg [.s (.int .i64 a1),.s (.int .i64 a2),.s (.int .i64 a3),.s (.int .i64 a4),.s (.string a5),.lst a6]),.d (.lst l)]=some (r,E0)∧r = .tup [dI 0,dI 2]:=by
  refine evr_val (n:=5) rfl (fn:=Tryz.f28) Tryz.func28 rfl (by simp [Tryz.ntmps28]) (by decide) ?_
  simp [Tryz.ntmps28,Tryz.results28,h1,(show keepT Tryz.f28.name=false from rfl)]
 exact e
def isNe:R→Prop
 | .val (.s (.int .i64 n))=>n ≠ 0
 | _=>False
theorem isNe_val (n:Int):isNe (.val (.s (.int .i64 n)))=(n ≠ 0):=rfl
attribute [simp] isNe_val
theorem isNe_at {x:Option (R × (Id→O))} (h:∃ r,x=some (r,E0)∧isNe r):∃ n:Int,n ≠ 0∧x=some (.val (.s (.int .i64 n)),E0):=by
 obtain ⟨r,rfl,hb⟩:=h
 unfold isNe at hb; split at hb
 ·exact ⟨_,hb,rfl⟩
 ·exact hb.elim
theorem out_deep {m:Nat} {g a b c d:Int} {w:ByteArray} {xs:List D} (h:ShA (m + 1) (.agg [.s (.int .i64 a),.s (.int .i64 b),.s (.int .i64 c),.s (.int .i64 d),.s (.string w),.lst xs])) (hd:deepP 20 (.agg [.s (.int .i64 a),.s (.int .i64 b),.s (.int .i64 c),.s (.int .i64 d),.s (.string w),.lst xs])=true) (q1:Int) (q2 q3 q4 q5 q6:List D) (q7:Int) (l:List D) :
  ∃ n:Int,n ≠ 0∧ev26 29 0 E0 [.d (.agg [.s (.int .i64 q1),.lst q2,.lst q3,.lst q4,.lst q5,.lst q6,.s (.int .i64 q7)]),.d (.agg [.s (.int .i64 g),.s (.int .i64 a),.s (.int .i64 b),.s (.int .i64 c),.s (.int .i64 d),.s (.string w),.lst xs]),.d (.lst l)]=some (.val (.s (.int .i64 n)),E0):=by
 have h1:=type_deep h hd l
 refine isNe_at ?_
 refine evr_val (n:=5) rfl (fn:=Tryz.f29) Tryz.func29 rfl (by simp [Tryz.ntmps29]) (by decide) ?_
 by_cases k1:g < 0
 ·simp [Tryz.ntmps29,Tryz.results29,h1,k1]
 ·by_cases k2:4 < g
  ·simp [Tryz.ntmps29,Tryz.results29,h1,k1,k2]
  ·simp [Tryz.ntmps29,Tryz.results29,h1,k1,k2]
end
section
attribute [local congr] ite_congr
def intI:A→Option Int
 | .d (.s (.int .i64 n))=>some n
 | _=>none
def exactF (P:Program) (ev:Operand→A) (o:Oper):Option Eff:=exactE P ev o
noncomputable def mx4 (a b c d:Int):Int:=if (if (if a < b then b else a) < c then c else (if a < b then b else a)) < d then d else (if (if a < b then b else a) < c then c else (if a < b then b else a))
noncomputable def mx2 (a b:Int):Int:=if a < b then b else a
noncomputable def exMx4 (P:Program) (ev:Operand→A) (o:Oper):Option Int→Option Int→Option Int→Option Int→Option Eff
 | some a,some b,some c,some d=>some { v:=.d (.s (.int .i64 (mx4 a b c d))) }
 | _,_,_,_=>exactF P ev o
noncomputable def exMx2 (P:Program) (ev:Operand→A) (o:Oper):Option Int→Option Int→Option Eff
 | some a,some b=>some { v:=.d (.s (.int .i64 (mx2 a b))) }
 | _,_=>exactF P ev o
theorem intI_some {a:A} {n:Int} (h:intI a=some n):a = .d (.s (.int .i64 n)):=by
 unfold intI at h
 split at h
 ·cases h; rfl
 ·cases h
theorem exactE_max4 (P:Program) (ev:Operand→A) (dst:Option Tmp) (x y z w:Operand) (ts:Array TypeId) (ty:TypeId) (pos:String) (af:Array Edge) (g:Option (Nat × Bool)) :
  exactE P ev ⟨dst,.call ⟨.builtin .max,#[x,y,z,w],ts⟩,ty,pos,af,g⟩=exMx4 P ev ⟨dst,.call ⟨.builtin .max,#[x,y,z,w],ts⟩,ty,pos,af,g⟩ (intI (ev x)) (intI (ev y)) (intI (ev z)) (intI (ev w)):=by
 unfold exMx4
 split
 ·rename_i a b c d h1 h2 h3 h4
  have hx:=intI_some h1
  have hy:=intI_some h2
  have hz:=intI_some h3
  have hw:=intI_some h4
  unfold exactE exactOp
  simp only [Op.operands,Call.operands]
  simp only [execOp,resolve,invoke,builtin,hx,hy,hz,hw,A.exact,D.exact,Option.getD_some,pureRun_bind,pureRun_pure]
  simp [hx,hy,hz,hw,pureRun_bind,pureRun_pure,pureRun_map]
  exact ⟨_,rfl,rfl⟩
 ·rfl
theorem exactE_max2 (P:Program) (ev:Operand→A) (dst:Option Tmp) (x y:Operand) (ts:Array TypeId) (ty:TypeId) (pos:String) (af:Array Edge) (g:Option (Nat × Bool)) :
  exactE P ev ⟨dst,.call ⟨.builtin .max,#[x,y],ts⟩,ty,pos,af,g⟩=exMx2 P ev ⟨dst,.call ⟨.builtin .max,#[x,y],ts⟩,ty,pos,af,g⟩ (intI (ev x)) (intI (ev y)):=by
 unfold exMx2
 split
 ·rename_i a b h1 h2
  have hx:=intI_some h1
  have hy:=intI_some h2
  rw [exactE_mx P ev dst x y ts ty pos af g .i64 a b hx hy]
  rfl
 ·rfl
def isIt (φ:Prop):R→Prop
 | .val (.s (.int .i64 n))=>n=0→φ
 | _=>False
theorem isIt_val (φ:Prop) (n:Int):isIt φ (.val (.s (.int .i64 n)))=(n=0→φ):=rfl
attribute [simp] isIt_val
def OutX (o:D):Prop:=∃ (g a b c d:Int) (w:ByteArray) (xs:List D) (m:Nat),o = .agg [.s (.int .i64 g),.s (.int .i64 a),.s (.int .i64 b),.s (.int .i64 c),.s (.int .i64 d),.s (.string w),.lst xs]∧ShA (m + 1) (.agg [.s (.int .i64 a),.s (.int .i64 b),.s (.int .i64 c),.s (.int .i64 d),.s (.string w),.lst xs])
def outE:D→D
 | .agg (_ :: l)=>.agg l
 | x=>x
theorem right_runs {S:D} {xs:List D} (hS:S = .agg [.lst xs]) {q1 q7:Int} {q2 q3 q4 q5 q6:List D} {ks:List D} {e0:Int}
  (hK:ev26 27 0 E0 [.d S,.d (.agg [.s (.int .i64 q1),.lst q2,.lst q3,.lst q4,.lst q5,.lst q6,.s (.int .i64 q7)])]=some (.tup [.d (.lst ks),dI e0],E0))
  (hT:∀ m x,ShA (m + 1) x→∃ k e:Int,ev26 28 0 E0 [.d x,.d (.lst ks)]=some (.tup [dI k,dI e],E0))
  (hO:∀ o ∈ q5,∃ n:Int,ev26 29 0 E0 [.d (.agg [.s (.int .i64 q1),.lst q2,.lst q3,.lst q4,.lst q5,.lst q6,.s (.int .i64 q7)]),.d o,.d (.lst ks)]=some (.val (.s (.int .i64 n)),E0))
  (h3:q3.length ≤ bL ∧ ∀ x ∈ q3,∃ m,ShA (m + 1) x) (h4:q4.length ≤ bL ∧ ∀ x ∈ q4,∃ m,ShA (m + 1) x) (h5:q5.length ≤ bL ∧ ∀ o ∈ q5,OutX o) (h6:q6.length ≤ bL ∧ ∀ x ∈ q6,∃ n:Int,x = .s (.int .i64 n)) :
  ∃ r,ev26 9 0 E0 [.d S,.d (.agg [.s (.int .i64 q1),.lst q2,.lst q3,.lst q4,.lst q5,.lst q6,.s (.int .i64 q7)])]=some (r,E0)∧isIt ((∀ x ∈ q3,deepP 20 x=false)∧(∀ x ∈ q4,deepP 20 x=false) ∧ ∀ o ∈ q5,deepP 20 (outE o)=false) r:=by
 subst hS
 refine evr_val (n:=200000000) rfl (fn:=Tryz.f9) Tryz.func9 rfl (by simp [Tryz.ntmps9]) (by decide) ?_
 by_cases k1:e0=0
 ·by_cases k2:(q5.length:Int) < 1
  ·simp [Tryz.ntmps9,Tryz.results9,hK,k1,k2,exactE_max4,exMx4,intI]
  ·by_cases k3:16 < mx4 (q3.length:Int) (q4.length:Int) (q5.length:Int) (q6.length:Int)
   ·simp [Tryz.ntmps9,Tryz.results9,hK,k1,k2,k3,exactE_max4,exMx4,intI]
   ·simp [Tryz.ntmps9,Tryz.results9,hK,k1,k2,k3,exactE_max4,exMx4,intI]
    have b3:q3.length ≤ 1000000000000:=Nat.le_trans h3.1 (by decide)
    have b4:q4.length ≤ 1000000000000:=Nat.le_trans h4.1 (by decide)
    have b5:q5.length ≤ 1000000000000:=Nat.le_trans h5.1 (by decide)
    have b6:q6.length ≤ 1000000000000:=Nat.le_trans h6.1 (by decide)
    have l3:q3.length < 200000000:=Nat.lt_of_le_of_lt h3.1 (by decide)
    have l4:q4.length < 200000000:=Nat.lt_of_le_of_lt h4.1 (by decide)
    have l5:q5.length < 200000000:=Nat.lt_of_le_of_lt h5.1 (by decide)
    have l6:q6.length < 200000000:=Nat.lt_of_le_of_lt h6.1 (by decide)
    refine Wk_range q3 [55,56,57,8,59,60,61,58,62,63,9,10,64,65,66,4,67,68,69,54] [] 54 (fun j _ _=>AllK (fun i=>∀ x,q3[i]? = some x→deepP 20 x=false) j) l3 b3 (by simp) (AllK_zero _) ?_ ?_
    ·intro j hj t h hi hT1 hT2 hH hH2 hJ hw
     obtain ⟨m,hm⟩:=h3.2 q3[j] (List.getElem_mem hj)
     obtain ⟨k,e,hr⟩:=hT m _ hm
     have hJ':e=0→_:=fun he=>AllK_next (q:=fun x=>deepP 20 x=false) hj hJ (by
      cases hd:deepP 20 q3[j] with
      | false=>rfl
      | true =>
       rw [type_deep hm hd ks] at hr
       cases hr; cases he)
     obtain ⟨a1,a2,a3,a4,a5,a6,hx0,_⟩:=ShA_cells hm
     rw [hx0] at hr
     by_cases c1:e=0
     ·have hJ':=hJ' c1
      by_cases c2:k=2
      ·simp [hT1,hH,hj,hi,hw,hr,hx0,hT2,hH2,c1,c2,Tryz.ntmps9,Tryz.results9]
      ·simp [hT1,hH,hj,hi,hw,hr,hx0,hT2,hH2,c1,c2,Tryz.ntmps9,Tryz.results9]
       exact hJ'
     ·simp [hT1,hH,hj,hi,hw,hr,hx0,hT2,hH2,c1,Tryz.ntmps9,Tryz.results9]
    ·intro t h hi hT1 hT2 hH hH2 hJ
     have g3:=AllK_mem (q:=fun x=>deepP 20 x=false) hJ
     simp [hT1,hH,hi,Tryz.ntmps9,Tryz.results9]
     refine Wk_range q4 [74,75,76,12,78,79,80,77,81,82,13,14,83,84,85,4,86,73] [] 73 (fun j _ _=>AllK (fun i=>∀ x,q4[i]? = some x→deepP 20 x=false) j) l4 b4 (by simp) (AllK_zero _) ?_ ?_
     ·intro j hj t' h' hi' uT1 uT2 uH uH2 uJ hw
      obtain ⟨m,hm⟩:=h4.2 q4[j] (List.getElem_mem hj)
      obtain ⟨k,e,hr⟩:=hT m _ hm
      have hJ':e=0→_:=fun he=>AllK_next (q:=fun x=>deepP 20 x=false) hj uJ (by
       cases hd:deepP 20 q4[j] with
       | false=>rfl
       | true =>
        rw [type_deep hm hd ks] at hr
        cases hr; cases he)
      obtain ⟨a1,a2,a3,a4,a5,a6,hx0,_⟩:=ShA_cells hm
      rw [hx0] at hr
      by_cases c1:e=0
      ·have hJ':=hJ' c1
       simp [uT1,uH,hT1,hH,hj,hi',hw,hr,hx0,uT2,uH2,hT2,hH2,c1,Tryz.ntmps9,Tryz.results9]
       exact hJ'
      ·simp [uT1,uH,hT1,hH,hj,hi',hw,hr,hx0,uT2,uH2,hT2,hH2,c1,Tryz.ntmps9,Tryz.results9]
     ·intro t' h' hi' uT1 uT2 uH uH2 uJ
      have g4:=AllK_mem (q:=fun x=>deepP 20 x=false) uJ
      simp [uT1,uH,hT1,hH,hi',Tryz.ntmps9,Tryz.results9]
      refine Wk_range q5 [91,92,93,16,94,95,96,97,17,98,99,100,4,101,90] [] 90 (fun j _ _=>AllK (fun i=>∀ x,q5[i]? = some x→deepP 20 (outE x)=false) j) l5 b5 (by simp) (AllK_zero _) ?_ ?_
      ·intro j hj t2 h2 hi2 vT1 vT2 vH vH2 vJ hw
       obtain ⟨g,a1,a2,a3,a4,a5,a6,m,hx0,hm⟩:=h5.2 q5[j] (List.getElem_mem hj)
       obtain ⟨n,hr⟩:=hO q5[j] (List.getElem_mem hj)
       have hJ':n=0→_:=fun he=>AllK_next (q:=fun x=>deepP 20 (outE x)=false) hj vJ (by
        rw [hx0]
        show deepP 20 (.agg [.s (.int .i64 a1),.s (.int .i64 a2),.s (.int .i64 a3),.s (.int .i64 a4),.s (.string a5),.lst a6])=false
        cases hd:deepP 20 (.agg [.s (.int .i64 a1),.s (.int .i64 a2),.s (.int .i64 a3),.s (.int .i64 a4),.s (.string a5),.lst a6]) with
        | false=>rfl
        | true =>
         obtain ⟨n',hn',e⟩:=out_deep (g:=g) hm hd q1 q2 q3 q4 q5 q6 q7 ks
         rw [hx0,e] at hr
         cases hr; exact (hn' he).elim)
       rw [hx0] at hr
       by_cases c1:n=0
       ·have hJ':=hJ' c1
        simp [vT1,vH,uT1,uH,hT1,hH,hj,hi2,hw,hr,hx0,vT2,vH2,uT2,uH2,hT2,hH2,c1,Tryz.ntmps9,Tryz.results9]
        exact hJ'
       ·simp [vT1,vH,uT1,uH,hT1,hH,hj,hi2,hw,hr,hx0,vT2,vH2,uT2,uH2,hT2,hH2,c1,Tryz.ntmps9,Tryz.results9]
      ·intro t2 h2 hi2 vT1 vT2 vH vH2 vJ
       have g5:=AllK_mem (q:=fun x=>deepP 20 (outE x)=false) vJ
       simp [vT1,vH,uT1,uH,hT1,hH,hi2,Tryz.ntmps9,Tryz.results9]
       refine Wk_range q6 [106,107,108,19,109,110,111,112,113,114,115,116,4,117,105] [] 105 (fun j _ _=>True) l6 b6 (by simp) trivial ?_ ?_
       ·intro j hj t3 h3' hi3 xT1 xT2 xH xH2 _ hw
        obtain ⟨n,hx0⟩:=h6.2 q6[j] (List.getElem_mem hj)
        by_cases c1:(q5.length:Int) ≤ mx2 n (IntKind.i64.wrap (-1 - n))
        ·simp [xT1,xH,vT1,vH,uT1,uH,hT1,hH,hj,hi3,hw,hx0,xT2,xH2,vT2,vH2,uT2,uH2,hT2,hH2,c1,exactE_max2,exMx2,intI,Tryz.ntmps9,Tryz.results9]
        ·simp [xT1,xH,vT1,vH,uT1,uH,hT1,hH,hj,hi3,hw,hx0,xT2,xH2,vT2,vH2,uT2,uH2,hT2,hH2,c1,exactE_max2,exMx2,intI,Tryz.ntmps9,Tryz.results9]
       ·intro t3 h3' hi3 xT1 xT2 xH xH2 _
        simp [xT1,xH,vT1,vH,uT1,uH,hT1,hH,hi3,Tryz.ntmps9,Tryz.results9]
        exact ⟨g3,g4,g5⟩
 ·simp [Tryz.ntmps9,Tryz.results9,hK,k1]
theorem out_x {bd:BD} {k:Nat} {o:D} (h:ShT (R26 bd k) (.st cOut) o):OutX o:=by
 simp only [ShT,ShL] at h
 obtain ⟨_,rfl,_,_,rfl,⟨g,rfl⟩,_,_,rfl,⟨a,rfl⟩,_,_,rfl,⟨b,rfl⟩,_,_,rfl,⟨c,rfl⟩,_,_,rfl,⟨d,rfl⟩,_,_,rfl,⟨w,rfl,hw⟩,_,_,rfl,⟨xs,rfl,hl,hs⟩,rfl⟩:=h
 refine ⟨g,a,b,c,d,w,xs,k,rfl,_,rfl,?_⟩
 simp only [ShT,ShL]
 exact ⟨_,_,rfl,⟨_,rfl⟩,_,_,rfl,⟨_,rfl⟩,_,_,rfl,⟨_,rfl⟩,_,_,rfl,⟨_,rfl⟩,_,_,rfl,⟨_,rfl,hw⟩,_,_,rfl,⟨_,rfl,hl,fun y hy=>⟨trivial,ShD_A ((R26_1000 (bd:=bd) (k:=k)).1 (hs y hy))⟩⟩,rfl⟩
theorem right_shallow {S q:D} (hS:IsSch S S) (hq:ShT (R26 (bdK (bdS S (tabsN S)) 4000) 4000) (.st cQry) q) (h:ev26 9 0 E0 [.d S,.d q]=some (.val (.s (.int .i64 0)),E0)) :
  ∃ (q1 q7:Int) (q2 q3 q4 q5 q6:List D),q = .agg [.s (.int .i64 q1),.lst q2,.lst q3,.lst q4,.lst q5,.lst q6,.s (.int .i64 q7)]∧(q2.length ≤ bL ∧ ∀ x ∈ q2,∃ a b c:Int,x = .agg [.s (.int .i64 a),.s (.int .i64 b),.s (.int .i64 c)])∧(q3.length ≤ bL ∧ ∀ x ∈ q3,(∃ m,ShA (m + 1) x)∧deepP 20 x=false)∧(q4.length ≤ bL ∧ ∀ x ∈ q4,(∃ m,ShA (m + 1) x)∧deepP 20 x=false)∧(q5.length ≤ bL ∧ ∀ o ∈ q5,OutX o∧deepP 20 (outE o)=false)∧(q6.length ≤ bL ∧ ∀ x ∈ q6,∃ n:Int,x = .s (.int .i64 n)):=by
 have hS':ShT (R26 (bdK (bdS S (tabsN S)) 4000) 4000) tSch S:=by
  obtain ⟨_,ds,h2,h3⟩:=hS
  exact ⟨ds,h2,ShL_mono (fun i y hy=>by obtain ⟨rfl,h⟩:=hy; exact (R26_551 (bd:=bdK (bdS S (tabsN S)) 4000) (k:=4000)).2 h) h3⟩
 have hq0:=hq
 simp only [ShT,ShL] at hq
 obtain ⟨_,rfl,_,_,rfl,⟨q1,rfl⟩,_,_,rfl,⟨q2,rfl,l2,s2⟩,_,_,rfl,⟨q3,rfl,l3,s3⟩,_,_,rfl,⟨q4,rfl,l4,s4⟩,_,_,rfl,⟨q5,rfl,l5,s5⟩,_,_,rfl,⟨q6,rfl,l6,s6⟩,_,_,rfl,⟨q7,rfl⟩,rfl⟩:=hq
 obtain ⟨r,a,e1,⟨ds,rfl,_,e2⟩,_⟩:=val_of (bd:=bdS S (tabsN S)) (k:=4000) (c:=cKinds) (okKinds _ 4000) rfl rfl rfl (oks2 (by simp only [TV.ok]; exact ⟨_,rfl,hS'⟩) (by simp only [TV.ok]; exact ⟨_,rfl,hq0⟩)) (nil_pre rfl)
 simp only [ShT,ShL] at e2
 obtain ⟨_,_,rfl,⟨ks,rfl,hkl,hks⟩,_,_,rfl,⟨e0,rfl⟩,rfl⟩:=e2
 have hks':ShT (R26 (bdK (bdS S (tabsN S)) 4000) 4000) (.lst tI bK) (.lst ks):=by simp only [ShT]; exact ⟨ks,rfl,hkl,hks⟩
 have hT:∀ m x,ShA (m + 1) x→∃ k e:Int,ev26 28 0 E0 [.d x,.d (.lst ks)]=some (.tup [dI k,dI e],E0):=fun m x hx=>by
  obtain ⟨r,a,e1,⟨ds,rfl,_,e2⟩,_⟩:=val_of (bd:=.n fun _=>0) (k:=m) (c:=cType) (okType _ m) rfl rfl rfl (oks2 (nm_one ((R26_0 (bd:=.n fun _=>0) (k:=m)).2 (ShA_D hx))) (by simp only [TV.ok,ShT]; exact ⟨_,rfl,ks,rfl,hkl,hks⟩)) (nil_pre rfl)
  simp only [ShT,ShL] at e2
  obtain ⟨_,_,rfl,⟨p,rfl⟩,_,_,rfl,⟨q,rfl⟩,rfl⟩:=e2
  exact ⟨p,q,e1⟩
 have s5':∀ o ∈ q5,ShT (R26 (bdK (bdS S (tabsN S)) 4000) 4000) (.st cOut) o:=fun o ho=>by
  have:=s5 o ho
  simp only [ShT]
  exact this
 have hO:∀ o ∈ q5,∃ n:Int,ev26 29 0 E0 [.d (.agg [.s (.int .i64 q1),.lst q2,.lst q3,.lst q4,.lst q5,.lst q6,.s (.int .i64 q7)]),.d o,.d (.lst ks)]=some (.val (.s (.int .i64 n)),E0):=fun o ho=>by
  obtain ⟨r,a,e1,⟨x,rfl,_,n,rfl⟩,_⟩:=val_of (bd:=bdS S (tabsN S)) (k:=4000) (c:=cQOut) (okQOut _ 4000) rfl rfl rfl (zs:=[.d (.agg [.s (.int .i64 q1),.lst q2,.lst q3,.lst q4,.lst q5,.lst q6,.s (.int .i64 q7)]),.d o,.d (.lst ks)]) (by
   simp only [cQOut,TV.oks,TV.ok]
   exact ⟨_,_,rfl,⟨_,rfl,hq0⟩,_,_,rfl,⟨_,rfl,s5' o ho⟩,_,_,rfl,⟨_,rfl,hks'⟩,rfl⟩) (nil_pre rfl)
  exact ⟨n,e1⟩
 obtain ⟨xs,_,hx,_⟩:=sch_cells hS
 have g3:∀ x ∈ q3,∃ m,ShA (m + 1) x:=fun x hx=>⟨4000,ShD_A ((R26_0 (bd:=bdK (bdS S (tabsN S)) 4000) (k:=4000)).1 (s3 x hx))⟩
 have g4:∀ x ∈ q4,∃ m,ShA (m + 1) x:=fun x hx=>⟨4000,ShD_A ((R26_0 (bd:=bdK (bdS S (tabsN S)) 4000) (k:=4000)).1 (s4 x hx))⟩
 have g5:∀ o ∈ q5,OutX o:=fun o ho=>out_x (s5' o ho)
 obtain ⟨r,e,hr⟩:=right_runs hx e1 hT hO ⟨l3,g3⟩ ⟨l4,g4⟩ ⟨l5,g5⟩ ⟨l6,s6⟩
 rw [e] at h
 cases h
 obtain ⟨r3,r4,r5⟩:=hr rfl
 refine ⟨q1,q7,q2,q3,q4,q5,q6,rfl,⟨l2,fun x hx=>?_⟩,⟨l3,fun x hx=>⟨g3 x hx,r3 x hx⟩⟩,⟨l4,fun x hx=>⟨g4 x hx,r4 x hx⟩⟩,⟨l5,fun x hx=>⟨g5 x hx,r5 x hx⟩⟩,⟨l6,s6⟩⟩
 obtain ⟨_,rfl,_,_,rfl,⟨a,rfl⟩,_,_,rfl,⟨b,rfl⟩,_,_,rfl,⟨c,rfl⟩,rfl⟩:=s2 x hx
 exact ⟨a,b,c,rfl⟩
end
section
attribute [local congr] ite_congr
set_option maxRecDepth 8000
theorem ba_self (w:ByteArray):(w == w)=true:=by
 obtain ⟨a⟩:=w
 exact beq_self_eq_true a
theorem strs_same (l:List D) (hl:l.length ≤ 1000000000000) (hs:∀ x ∈ l,∃ s,x = .s (.string s)):ev26 12 0 E0 [.d (.lst l),.d (.lst l)]=some (.val (.s (.bool true)),E0):=by
 refine isBe_at ?_
 refine evr_val (n:=l.length + 5) rfl (fn:=Tryz.f12) Tryz.func12 rfl (by simp [Tryz.ntmps12]) (by decide) ?_
 simp [Tryz.ntmps12,Tryz.results12]
 refine Wk_range l [11,12,13,14,17,18,19,20,21,22,23,24,25,4,15,16,5] [] 5 (fun _ _ _=>True) (by omega) hl (by simp) trivial ?_ ?_
 ·intro j hj t h hi hT hT2 hH hH2 _ hw
  obtain ⟨s,hx⟩:=hs l[j] (List.getElem_mem hj)
  simp [hT,hH,hj,hi,hw,hx,hT2,hH2,Tryz.ntmps12,Tryz.results12]
  first | done | exact raceFree_of (slotN 0) (by simp only [List.map_cons,List.map_nil,sigE,slotN_own]; kernel_rfl) | kernel_rfl
 ·intro t h hi hT hT2 hH hH2 _
  simp [hT,hH,hi,Tryz.ntmps12,Tryz.results12]
def IsV (x:D):Prop:=∃ (a b:Int) (s:ByteArray),x = .agg [.s (.int .i64 a),.s (.int .i64 b),.s (.string s)]
theorem row_same (l:List D) (hl:l.length ≤ 1000000000000) (hs:∀ x ∈ l,IsV x):ev26 79 0 E0 [.d (.lst l),.d (.lst l)]=some (.val (.s (.bool true)),E0):=by
 refine isBe_at ?_
 refine evr_val (n:=l.length + 5) rfl (fn:=Tryz.f79) Tryz.func79 rfl (by simp [Tryz.ntmps79]) (by decide) ?_
 simp [Tryz.ntmps79,Tryz.results79]
 refine Wk_range l [11,12,13,14,17,18,19,20,21,22,23,24,25,4,15,16,5] [] 5 (fun _ _ _=>True) (by omega) hl (by simp) trivial ?_ ?_
 ·intro j hj t h hi hT hT2 hH hH2 _ hw
  obtain ⟨a,b,s,hx⟩:=hs l[j] (List.getElem_mem hj)
  simp [hT,hH,hj,hi,hw,hx,hT2,hH2,ba_self,Tryz.ntmps79,Tryz.results79]
  first | done | exact raceFree_of (slotN 0) (by simp only [List.map_cons,List.map_nil,sigE,slotN_own]; kernel_rfl) | kernel_rfl
 ·intro t h hi hT hT2 hH hH2 _
  simp [hT,hH,hi,Tryz.ntmps79,Tryz.results79]
def IsOp (x:D):Prop:=∃ (a b c d:Int) (e:List D) (f g:Int) (w:ByteArray) (i j k:Int),x = .agg [.s (.int .i64 a),.s (.int .i64 b),.s (.int .i64 c),.s (.int .i64 d),.lst e,.s (.int .i64 f),.s (.int .i64 g),.s (.string w),.s (.int .i64 i),.s (.int .i64 j),.s (.int .i64 k)]∧e.length ≤ 1000000000000 ∧ ∀ y ∈ e,IsV y
theorem op_same {x:D} (h:IsOp x):ev26 36 0 E0 [.d x,.d x]=some (.val (.s (.bool true)),E0):=by
 obtain ⟨a,b,c,d,e,f,g,w,i,j,k,rfl,he,hv⟩:=h
 have hr:=row_same e he hv
 refine isBe_at ?_
 refine evr_val (n:=5) rfl (fn:=Tryz.f36) Tryz.func36 rfl (by simp [Tryz.ntmps36]) (by decide) ?_
 simp [hr,ba_self,Tryz.ntmps36,Tryz.results36]
theorem ops_same (l:List D) (hl:l.length ≤ 1000000000000) (hs:∀ x ∈ l,IsOp x):ev26 14 0 E0 [.d (.lst l),.d (.lst l)]=some (.val (.s (.bool true)),E0):=by
 refine isBe_at ?_
 refine evr_val (n:=l.length + 5) rfl (fn:=Tryz.f14) Tryz.func14 rfl (by simp [Tryz.ntmps14]) (by decide) ?_
 simp [Tryz.ntmps14,Tryz.results14]
 refine Wk_range l [12,13,14,15,18,19,20,21,22,23,24,25,26,6,27,28,4,16,17,5] [] 5 (fun _ _ _=>True) (by omega) hl (by simp) trivial ?_ ?_
 ·intro j hj t h hi hT hT2 hH hH2 _ hw
  have hx':=hs l[j] (List.getElem_mem hj)
  have hr:=op_same hx'
  obtain ⟨a,b,c,d,e,f,g,w,i,jj,k,hx,he,hv⟩:=hx'
  rw [hx] at hr
  simp [hT,hH,hj,hi,hw,hx,hr,hT2,hH2,Tryz.ntmps14,Tryz.results14]
  first | done | exact raceFree_of (slotN 0) (by simp only [List.map_cons,List.map_nil,sigE,slotN_own]; kernel_rfl) | kernel_rfl
 ·intro t h hi hT hT2 hH hH2 _
  simp [hT,hH,hi,Tryz.ntmps14,Tryz.results14]
theorem exprs_run (k:Nat) (hk2:k < 999) (l:List D) (hl:l.length ≤ 1000000000000) (hs:∀ x ∈ l,∃ (a b c d:Int) (w:ByteArray) (xs:List D),x = .agg [.s (.int .i64 a),.s (.int .i64 b),.s (.int .i64 c),.s (.int .i64 d),.s (.string w),.lst xs]∧ev26 35 0 E0 [.d (.lst xs),.d (.lst xs),dI k]=some (.val (.s (.bool true)),E0)):ev26 35 0 E0 [.d (.lst l),.d (.lst l),dI ((k:Int) + 1)]=some (.val (.s (.bool true)),E0):=by
 have hk':¬ ((k:Int) + 1=0):=by omega
 have hwp:=wrap_pred (n:=k) (by omega)
 refine isBe_at ?_
 refine evr_val (n:=l.length + 5) rfl (fn:=Tryz.f35) Tryz.func35 rfl (by simp [Tryz.ntmps35]) (by decide) ?_
 simp [hk',Tryz.ntmps35,Tryz.results35]
 refine Wk_range l [18,19,20,21,24,25,26,27,28,29,30,31,32,33,34,35,36,8,37,38,39,40,41,42,43,44,45,46,47,48,49,50,51,52,53,54,55,56,57,58,59,60,61,62,63,64,65,66,67,68,69,70,71,72,73,74,75,76,77,6,22,23,7] [] 7 (fun _ _ _=>True) (by omega) hl (by simp) trivial ?_ ?_
 ·intro j hj t h hi hT hT2 hH hH2 _ hw
  obtain ⟨a1,a2,a3,a4,a5,a6,hx,hr⟩:=hs l[j] (List.getElem_mem hj)
  simp [hT,hH,hj,hi,hw,hx,hr,hwp,ba_self,hT2,hH2,Tryz.ntmps35,Tryz.results35]
  refine ⟨?_,?_⟩ <;> exact raceFree_of (slotN 0) (by simp only [List.map_cons,List.map_nil,sigE,slotN_own]; kernel_rfl)
 ·intro t h hi hT hT2 hH hH2 _
  simp [hT,hH,hi,Tryz.ntmps35,Tryz.results35]
theorem exprs_same:∀ (n k:Nat),n < k→k < 1000→∀ (l:List D),l.length ≤ 1000000000000→(∀ x ∈ l,(∃ m,ShA (m + 1) x)∧deepP n x=false)→ev26 35 0 E0 [.d (.lst l),.d (.lst l),dI k]=some (.val (.s (.bool true)),E0):=by
 intro n
 induction n with
 | zero =>
  intro k hk hk2 l hl hs
  obtain ⟨k,rfl⟩:∃ k',k=k' + 1:=⟨k - 1,by omega⟩
  exact exprs_run k (by omega) l hl fun x hx=>by have:=(hs x hx).2; cases this
 | succ n ih =>
  intro k hk hk2 l hl hs
  obtain ⟨k,rfl⟩:∃ k',k=k' + 1:=⟨k - 1,by omega⟩
  refine exprs_run k (by omega) l hl fun x hx=>?_
  obtain ⟨⟨m,hm⟩,hd⟩:=hs x hx
  obtain ⟨a1,a2,a3,a4,a5,a6,rfl,_,hl6,hs6⟩:=ShA_cells hm
  refine ⟨a1,a2,a3,a4,a5,a6,rfl,ih k (by omega) (by omega) a6 (Nat.le_trans hl6 (by decide)) fun y hy=>⟨?_,deep_part hd y hy⟩⟩
  have:=hs6 y hy
  cases m with
  | zero=>exact this.elim
  | succ m=>exact ⟨m,this⟩
end
section
attribute [local congr] ite_congr
set_option maxRecDepth 8000
theorem qry_same {q1 q7:Int} {q2 q3 q4 q5 q6:List D} (h2:q2.length ≤ bL ∧ ∀ x ∈ q2,∃ a b c:Int,x = .agg [.s (.int .i64 a),.s (.int .i64 b),.s (.int .i64 c)])
  (h3:ev26 35 0 E0 [.d (.lst q3),.d (.lst q3),dI 40]=some (.val (.s (.bool true)),E0)) (h4:ev26 35 0 E0 [.d (.lst q4),.d (.lst q4),dI 40]=some (.val (.s (.bool true)),E0))
  (h5:q5.length ≤ bL ∧ ∀ o ∈ q5,OutX o∧ev26 35 0 E0 [.d (.lst [outE o]),.d (.lst [outE o]),dI 40]=some (.val (.s (.bool true)),E0)) (h6:q6.length ≤ bL ∧ ∀ x ∈ q6,∃ n:Int,x = .s (.int .i64 n)) :
  ev26 13 0 E0 [.d (.agg [.s (.int .i64 q1),.lst q2,.lst q3,.lst q4,.lst q5,.lst q6,.s (.int .i64 q7)]),.d (.agg [.s (.int .i64 q1),.lst q2,.lst q3,.lst q4,.lst q5,.lst q6,.s (.int .i64 q7)])]=some (.val (.s (.bool true)),E0):=by
 refine isBe_at ?_
 refine evr_val (n:=200000000) rfl (fn:=Tryz.f13) Tryz.func13 rfl (by simp [Tryz.ntmps13]) (by decide) ?_
 have b2:q2.length ≤ 1000000000000:=Nat.le_trans h2.1 (by decide)
 have b5:q5.length ≤ 1000000000000:=Nat.le_trans h5.1 (by decide)
 have b6:q6.length ≤ 1000000000000:=Nat.le_trans h6.1 (by decide)
 have l2:q2.length < 200000000:=Nat.lt_of_le_of_lt h2.1 (by decide)
 have l5:q5.length < 200000000:=Nat.lt_of_le_of_lt h5.1 (by decide)
 have l6:q6.length < 200000000:=Nat.lt_of_le_of_lt h6.1 (by decide)
 simp [h3,h4,Tryz.ntmps13,Tryz.results13]
 refine Wk_range q2 [68,69,70,71,72,75,76,77,78,79,80,81,82,83,84,85,4,73,74,7] [] 7 (fun _ _ _=>True) l2 b2 (by simp) trivial ?_ ?_
 ·intro j hj t h hi hT hT2 hH hH2 _ hw
  obtain ⟨a,b,c,hx⟩:=h2.2 q2[j] (List.getElem_mem hj)
  simp [hT,hH,hj,hi,hw,hx,hT2,hH2,Tryz.ntmps13,Tryz.results13]
  first | done | exact raceFree_of (slotN 0) (by simp only [List.map_cons,List.map_nil,sigE,slotN_own]; kernel_rfl)
 ·intro t h hi hT hT2 hH hH2 _
  simp [hT,hH,hi,Tryz.ntmps13,Tryz.results13]
  refine Wk_range q5 [86,87,88,89,90,93,94,95,96,97,98,99,100,101,102,103,104,105,106,107,9,108,109,110,111,112,113,114,115,116,117,118,119,120,121,122,123,124,4,91,92,8] [] 8 (fun _ _ _=>True) l5 b5 (by simp) trivial ?_ ?_
  ·intro j hj t' h' hi' uT uT2 uH uH2 _ hw
   obtain ⟨⟨g,a1,a2,a3,a4,a5,a6,m,hx,_⟩,hr⟩:=h5.2 q5[j] (List.getElem_mem hj)
   rw [hx] at hr
   simp only [outE] at hr
   simp [uT,uH,hT,hH,hj,hi',hw,hx,hr,uT2,uH2,hT2,hH2,Tryz.ntmps13,Tryz.results13]
   refine ⟨?_,?_⟩ <;> exact raceFree_of (slotN 0) (by simp only [List.map_cons,List.map_nil,sigE,slotN_own]; kernel_rfl)
  ·intro t' h' hi' uT uT2 uH uH2 _
   simp [uT,uH,hT,hH,hi',Tryz.ntmps13,Tryz.results13]
   refine Wk_range q6 [125,126,127,128,129,132,133,134,135,136,137,138,139,140,141,142,4,130,131,10] [] 10 (fun _ _ _=>True) l6 b6 (by simp) trivial ?_ ?_
   ·intro j hj t2 h2' hi2 vT vT2 vH vH2 _ hw
    obtain ⟨n,hx⟩:=h6.2 q6[j] (List.getElem_mem hj)
    simp [vT,vH,uT,uH,hT,hH,hj,hi2,hw,hx,vT2,vH2,uT2,uH2,hT2,hH2,Tryz.ntmps13,Tryz.results13]
    first | done | exact raceFree_of (slotN 0) (by simp only [List.map_cons,List.map_nil,sigE,slotN_own]; kernel_rfl)
   ·intro t2 h2' hi2 vT vT2 vH vH2 _
    simp [vT,vH,uT,uH,hT,hH,hi2,Tryz.ntmps13,Tryz.results13]
end
end Go.Proofs.YtenoggjjhamdaaaGreatDoor
