/-
  WHAT IS PROVED HERE: parts of the proof: Ty26 Ct26 Ck26.
-/
import Derived.Lib.ItoaLen
import Derived.Lib.CutLaws
import Derived.Test.YtenoggjjhamdaaaGreatDoorB07
import Derived.Test.YtenoggjjhamdaaaGreatDoorB14
set_option linter.all false
namespace Go.Proofs.YtenoggjjhamdaaaGreatDoor
open Go Go.RowKit
section
noncomputable section
abbrev tI:Ty:=.int .i64
abbrev bS:Nat:=140737488355328
abbrev bB:Nat:=140737488355328
abbrev bL:Nat:=100000000
abbrev bK:Nat:=1000000000
abbrev cVal:List Ty:=[tI,tI,.str bS]
abbrev cDot:List Ty:=[tI,tI]
abbrev cExp:List Ty:=[tI,tI,tI,tI,.str bS,.lst (.nm 1000) bL]
abbrev cExpA:List Ty:=[tI,tI,tI,tI,.str bS,.lst (.nm 500) bL]
abbrev cExpB:List Ty:=[tI,tI,tI,tI,.str bS,.lst (.nm 551) bB]
abbrev cExp2:List Ty:=[tI,tI,tI,tI,.str bS,.lst (.nm 1002) bL]
abbrev cCol:List Ty:=[.str bS,tI,tI,.bool]
abbrev cTab:List Ty:=[.str bS,.lst (.st cCol) bL,.lst tI bL,.lst (.nm 551) bL,.lst (.st [tI,tI,tI]) bL,.lst (.st [tI,tI,tI]) bL]
abbrev cSch:List Ty:=[.lst (.st cTab) bL]
abbrev tSch:Ty:=.st [.lst (.st cTab) bL]
abbrev cOp:List Ty:=[tI,tI,tI,tI,.lst (.st cVal) bL,tI,tI,.str bS,tI,tI,tI]
abbrev cDeed:List Ty:=[tI,tI,tI,tI,.lst (.st cVal) bL,tI,tI,.str bS,tI,tI,tI,.str bS,.str bS]
abbrev cOut:List Ty:=[tI,tI,tI,tI,tI,.str bS,.lst (.nm 1000) bL]
abbrev cQry:List Ty:=[tI,.lst (.st [tI,tI,tI]) bL,.lst (.nm 0) bL,.lst (.nm 0) bL,.lst (.st cOut) bL,.lst tI bL,tI]
abbrev bW:Nat:=4000
abbrev cWord:List Ty:=[tI,.str bW]
abbrev cAsk:List Ty:=[.lst tI bL,.lst (.opq 0) bL,.str bS,.lst (.st [.str bS,tI,.str bS,.str bS]) bL,.lst (.opq 0) bL,.lst (.opq 0) bL,.lst tI bL,tI]
abbrev cBadF:List Ty:=[tI,tI,tI,tI,.str bS,.lsj (.nm 500) (.nm 561) bL 3]
abbrev cBadT:List Ty:=[tI,tI,tI,tI,.str bS,.lsj (.nm 500) (.nm 563) bL 3]
def boolOf:Option (R × (Id→O))→Bool
 | some (.val (.s (.bool b)),_)=>b
 | _=>false
noncomputable def formedV (x:D):Bool:=boolOf (ev26 95 0 E0 [.d x])
noncomputable def thereV (x:D) (m:Int):Bool:=boolOf (ev26 68 0 E0 [.d x,.d (.s (.int .i64 m))])
def E26 (i:Nat):Option (List Ty):=if i == 551 then some cExpB else if i == 580 then some cSch else if i == 0 || i == 1000 then some cExp else if i == 2 || i == 1002 then some cExp2 else if i == 500 then some cExpA else if 9000 ≤ i∧i < 9500 then some [tI] else if i == 550 then some cWord else if i == 560 then some cBadF else if i == 562 then some cBadT else if i == 561 || i == 563 then some cExpA else if 8000 ≤ i∧i < 8500 then some [tI] else if i == 9550 then some [.opq 50] else if i == 9650 then some [.opq 150] else if i == 9500 then some [.opq 0] else if i == 9600 then some [.opq 100] else none
def eqs26:List (TypeId × List Ty):=[(44,cVal),(46,cDot)]
def ai26 (i:Nat) (t:TypeId):Option Ty :=
 if i == 0 || i == 100 then
  (if t == 125 then some (.st [tI,.str bS]) else if t == 175 then some (.st cVal) else if t == 177 then some (.st [tI,.lst (.opq 100) bL]) else none)
 else none
mutual
theorem ShT_mono {R R':Nat→D→Prop} (h:∀ i x,R i x→R' i x):∀ {t:Ty} {x:D},ShT R t x→ShT R' t x
 | .int k,x,hx=>by simpa only [ShT] using hx
 | .bool,x,hx=>by simpa only [ShT] using hx
 | .str b,x,hx=>by simpa only [ShT] using hx
 | .any,x,hx=>by simpa only [ShT] using hx
 | .nm i,x,hx=>by simp only [ShT] at hx ⊢; exact h i x hx
 | .ix m,x,hx=>by
  simp only [ShT] at hx ⊢
  obtain ⟨n,h1,h2⟩:=hx
  exact ⟨n,h1,h _ _ h2⟩
 | .lit _,x,hx=>by simpa only [ShT] using hx
 | .lsj e f b m,x,hx=>by
  simp only [ShT] at hx ⊢
  obtain ⟨xs,h1,h2,h3,h0,n,y,h4,h5,h6⟩:=hx
  exact ⟨xs,h1,h2,fun y hy=>ShT_mono h (h3 y hy),h0,n,y,h _ _ h4,h5,ShT_mono h h6⟩
 | .opq i,x,hx=>by
  simp only [ShT] at hx ⊢
  exact hx.imp id fun hx=>⟨hx.1,h _ _ hx.2⟩
 | .lst e b,x,hx=>by
  simp only [ShT] at hx ⊢
  obtain ⟨xs,h1,h2,h3⟩:=hx
  exact ⟨xs,h1,h2,fun y hy=>ShT_mono h (h3 y hy)⟩
 | .st ts,x,hx=>by
  simp only [ShT] at hx ⊢
  obtain ⟨ds,h1,h2⟩:=hx
  exact ⟨ds,h1,ShL_mono h h2⟩
theorem ShL_mono {R R':Nat→D→Prop} (h:∀ i x,R i x→R' i x):∀ {ts:List Ty} {ds:List D},ShL R ts ds→ShL R' ts ds
 | [],ds,hx=>by simpa only [ShL] using hx
 | t :: ts,ds,hx=>by
  simp only [ShL] at hx ⊢
  obtain ⟨x,l,h1,h2,h3⟩:=hx
  exact ⟨x,l,h1,ShT_mono h h2,ShL_mono h h3⟩
end
def ShD:Nat→D→Prop
 | 0,_=>False
 | k + 1,x=>∃ ds,x = .agg ds∧ShL (fun i y=>i=1000∧ShD k y) cExp ds
def ShG (M:Int):Nat→D→Prop
 | 0,_=>False
 | k + 1,x=>∃ ds,x = .agg ds∧ShL (fun i y=>i=1002∧ShG M k y) cExp2 ds ∧ ∃ (c n:Int) (rest:List D),ds = .s (.int .i64 c) :: .s (.int .i64 n) :: rest∧(c=0→0 ≤ n∧n < M)
def ShA:Nat→D→Prop
 | 0,_=>False
 | k + 1,x=>∃ ds,x = .agg ds∧ShL (fun i y=>i=500∧ShA k y) cExpA ds
def ShB:Nat→D→Prop
 | 0,_=>False
 | k + 1,x=>∃ ds,x = .agg ds∧ShL (fun i y=>i=551∧ShB k y) cExpB ds
def ShN:Nat→D→Prop
 | 0,_=>False
 | k + 1,x=>∃ t y,x = .ifc t y ∧ ∀ u,ai26 0 t=some u→ShT (fun i z=>i=9600 ∧ ∃ w,z = .agg [w]∧ShN k w) u y
theorem ShD_succ:∀ {k:Nat} {x:D},ShD k x→ShD (k + 1) x
 | 0,x,h=>h.elim
 | k + 1,x,h=>by
  obtain ⟨ds,h1,h2⟩:=h
  exact ⟨ds,h1,ShL_mono (fun i y hy=>⟨hy.1,ShD_succ hy.2⟩) h2⟩
theorem ShA_succ:∀ {k:Nat} {x:D},ShA k x→ShA (k + 1) x
 | 0,x,h=>h.elim
 | k + 1,x,h=>by
  obtain ⟨ds,h1,h2⟩:=h
  exact ⟨ds,h1,ShL_mono (fun i y hy=>⟨hy.1,ShA_succ hy.2⟩) h2⟩
theorem ShA_mono {a b:Nat} {x:D} (hab:a ≤ b) (h:ShA a x):ShA b x:=by
 induction hab with
 | refl=>exact h
 | step _ ih=>exact ShA_succ ih
theorem ShG_succ {M:Int}:∀ {k:Nat} {x:D},ShG M k x→ShG M (k + 1) x
 | 0,x,h=>h.elim
 | k + 1,x,h=>by
  obtain ⟨ds,h1,h2,h3⟩:=h
  exact ⟨ds,h1,ShL_mono (fun i y hy=>⟨hy.1,ShG_succ hy.2⟩) h2,h3⟩
theorem ShN_succ:∀ {k:Nat} {x:D},ShN k x→ShN (k + 1) x
 | 0,x,h=>h.elim
 | k + 1,x,h=>by
  obtain ⟨t,y,h1,h2⟩:=h
  refine ⟨t,y,h1,fun u hu=>ShT_mono (fun i z hz=>?_) (h2 u hu)⟩
  obtain ⟨e,w,h3,h4⟩:=hz
  exact ⟨e,w,h3,ShN_succ h4⟩
def BadX (j:Int) (φ:D→Prop) (x:D):Prop :=
 ∃ (a b c d:Int) (w:ByteArray) (xs:List D),x = .agg [.s (.int .i64 a),.s (.int .i64 b),.s (.int .i64 c),.s (.int .i64 d),.s (.string w),.lst xs]∧w.size ≤ bS∧xs.length ≤ bL∧(∀ y ∈ xs,∃ m,ShA m y) ∧
  ∃ n:Nat,(n:Int)=j ∧ ∃ y,xs[n]? = some y∧φ y
structure BD where
 b:Nat→Int
 S:Nat→D
instance:CoeFun BD (fun _=>Nat→Int):=⟨BD.b⟩
def BD.n (b:Nat→Int):BD:=⟨b,fun _=>.any⟩
def bdK (bd:BD) (k:Nat):BD:=⟨bdk bd.b k,bd.S⟩
def IsSch (S x:D):Prop:=x=S ∧ ∃ ds,x = .agg ds∧ShL (fun j y=>j=551 ∧ ∃ m,ShB m y) cSch ds
def R26 (bd:BD) (k i:Nat) (x:D):Prop :=
 if i=0 then ShD (k + 1) x else if i=1000 then ShD k x else if i=2 then ShG (bd 1) (k + 1) x else if i=1002 then ShG (bd 1) k x else if i=500 then ∃ m,ShA m x
 else if 9000 ≤ i∧i < 9500 then ∃ n,x = .agg [.s (.int .i64 n)]∧0 ≤ n∧n < bd (i - 9000)
 else if i=9500 then ∃ w,x = .agg [w]∧ShN (k + 1) w else if i=9600 then ∃ w,x = .agg [w]∧ShN k w
 else if i=550 then ∃ (c:Int) (s:ByteArray),x = .agg [.s (.int .i64 c),.s (.string s)]∧s.size ≤ bW∧1 ≤ c∧(c=3→2 ≤ s.size)
 else if i=9550 ∨ i=9650 then ∃ t y,x = .agg [.ifc t y]
 else if 8000 ≤ i∧i < 8500 then x = .agg [.s (.int .i64 (bd (i - 8000)))]
 else if i=560 then BadX (bd 3) (fun y=>formedV y=false) x else if i=561 then (∃ m,ShA m x)∧formedV x=false
 else if i=562 then BadX (bd 3) (fun y=>thereV y (bd 1)=false) x else if i=563 then (∃ m,ShA m x)∧thereV x (bd 1)=false else if i=580 then IsSch (bd.S 0) x else if i=551 then ∃ m,ShB m x else False
section
variable {bd:BD} {k:Nat} {x:D}
theorem R26_0:R26 bd k 0 x ↔ ShD (k + 1) x:=Iff.rfl
theorem R26_1000:R26 bd k 1000 x ↔ ShD k x:=Iff.rfl
theorem R26_2:R26 bd k 2 x ↔ ShG (bd 1) (k + 1) x:=Iff.rfl
theorem R26_1002:R26 bd k 1002 x ↔ ShG (bd 1) k x:=Iff.rfl
theorem R26_500:R26 bd k 500 x ↔ ∃ m,ShA m x:=Iff.rfl
theorem R26_9500:R26 bd k 9500 x ↔ ∃ w,x = .agg [w]∧ShN (k + 1) w:=by
 unfold R26
 rw [if_neg (by decide),if_neg (by decide),if_neg (by decide),if_neg (by decide),if_neg (by decide),if_neg (by omega),if_pos rfl]
theorem R26_9600:R26 bd k 9600 x ↔ ∃ w,x = .agg [w]∧ShN k w:=by
 unfold R26
 rw [if_neg (by decide),if_neg (by decide),if_neg (by decide),if_neg (by decide),if_neg (by decide),if_neg (by omega),if_neg (by decide),if_pos rfl]
theorem R26_9 (m:Nat) (hm:m < 500):R26 bd k (9000 + m) x ↔ ∃ n,x = .agg [.s (.int .i64 n)]∧0 ≤ n∧n < bd m:=by
 unfold R26
 rw [if_neg (by omega),if_neg (by omega),if_neg (by omega),if_neg (by omega),if_neg (by omega),if_pos (by omega),show 9000 + m - 9000=m by omega]
theorem R26_cases {i:Nat} (h:R26 bd k i x):i=0 ∨ i=1000 ∨ i=2 ∨ i=1002 ∨ i=500 ∨ (9000 ≤ i∧i < 9500) ∨ i=9500 ∨ i=9600 ∨ i=550 ∨ i=9550 ∨ i=9650 ∨ (8000 ≤ i∧i < 8500) ∨ i=560 ∨ i=561 ∨ i=562 ∨ i=563 ∨ i=580 ∨ i=551:=by
 refine Classical.byContradiction fun hn=>?_
 unfold R26 at h
 rw [if_neg (by omega),if_neg (by omega),if_neg (by omega),if_neg (by omega),if_neg (by omega),if_neg (by omega),if_neg (by omega),if_neg (by omega),if_neg (by omega),if_neg (by omega),if_neg (by omega),if_neg (by omega),if_neg (by omega),if_neg (by omega),if_neg (by omega),if_neg (by omega),if_neg (by omega)] at h
 exact h
theorem R26_node {w:D} (hw:∃ t y,w = .ifc t y):(R26 bd k 9500 (.agg [w]) ↔ ShN (k + 1) w)∧(R26 bd k 9600 (.agg [w]) ↔ ShN k w):=by
 rw [R26_9500,R26_9600]
 constructor
 ·constructor
  ·rintro ⟨w',h1,h⟩; cases h1; exact h
  ·intro h; exact ⟨_,rfl,h⟩
 ·constructor
  ·rintro ⟨w',h1,h⟩; cases h1; exact h
  ·intro h; exact ⟨_,rfl,h⟩
theorem R26_550:R26 bd k 550 x ↔ ∃ (c:Int) (s:ByteArray),x = .agg [.s (.int .i64 c),.s (.string s)]∧s.size ≤ bW∧1 ≤ c∧(c=3→2 ≤ s.size):=by
 unfold R26
 rw [if_neg (by decide),if_neg (by decide),if_neg (by decide),if_neg (by decide),if_neg (by decide),if_neg (by omega),if_neg (by decide),if_neg (by decide),if_pos rfl]
theorem R26_nil {i:Nat} (hi:i=9550 ∨ i=9650):R26 bd k i x ↔ ∃ t y,x = .agg [.ifc t y]:=by
 unfold R26
 rw [if_neg (by omega),if_neg (by omega),if_neg (by omega),if_neg (by omega),if_neg (by omega),if_neg (by omega),if_neg (by omega),if_neg (by omega),if_neg (by omega),if_pos hi]
theorem R26_8 (m:Nat) (n:Int) (hm:m < 500):R26 bd k (8000 + m) (.agg [.s (.int .i64 n)]) ↔ n=bd m:=by
 unfold R26
 rw [if_neg (by omega),if_neg (by omega),if_neg (by omega),if_neg (by omega),if_neg (by omega),if_neg (by omega),if_neg (by omega),if_neg (by omega),if_neg (by omega),if_neg (by omega),if_pos (by omega),show 8000 + m - 8000=m by omega]
 simp
theorem R26_8a {i:Nat} (h1:8000 ≤ i) (h2:i < 8500):R26 bd k i x ↔ x = .agg [.s (.int .i64 (bd (i - 8000)))]:=by
 unfold R26
 rw [if_neg (by omega),if_neg (by omega),if_neg (by omega),if_neg (by omega),if_neg (by omega),if_neg (by omega),if_neg (by omega),if_neg (by omega),if_neg (by omega),if_neg (by omega),if_pos ⟨h1,h2⟩]
theorem R26_560:R26 bd k 560 x ↔ BadX (bd 3) (fun y=>formedV y=false) x:=by
 unfold R26
 rw [if_neg (by omega),if_neg (by omega),if_neg (by omega),if_neg (by omega),if_neg (by omega),if_neg (by omega),if_neg (by omega),if_neg (by omega),if_neg (by omega),if_neg (by omega),if_neg (by omega),if_pos rfl]
theorem R26_561:R26 bd k 561 x ↔ (∃ m,ShA m x)∧formedV x=false:=by
 unfold R26
 rw [if_neg (by omega),if_neg (by omega),if_neg (by omega),if_neg (by omega),if_neg (by omega),if_neg (by omega),if_neg (by omega),if_neg (by omega),if_neg (by omega),if_neg (by omega),if_neg (by omega),if_neg (by omega),if_pos rfl]
theorem R26_562:R26 bd k 562 x ↔ BadX (bd 3) (fun y=>thereV y (bd 1)=false) x:=by
 unfold R26
 rw [if_neg (by omega),if_neg (by omega),if_neg (by omega),if_neg (by omega),if_neg (by omega),if_neg (by omega),if_neg (by omega),if_neg (by omega),if_neg (by omega),if_neg (by omega),if_neg (by omega),if_neg (by omega),if_neg (by omega),if_pos rfl]
theorem R26_563:R26 bd k 563 x ↔ (∃ m,ShA m x)∧thereV x (bd 1)=false:=by
 unfold R26
 rw [if_neg (by omega),if_neg (by omega),if_neg (by omega),if_neg (by omega),if_neg (by omega),if_neg (by omega),if_neg (by omega),if_neg (by omega),if_neg (by omega),if_neg (by omega),if_neg (by omega),if_neg (by omega),if_neg (by omega),if_neg (by omega),if_pos rfl]
theorem R26_580:R26 bd k 580 x ↔ IsSch (bd.S 0) x:=by
 unfold R26
 rw [if_neg (by omega),if_neg (by omega),if_neg (by omega),if_neg (by omega),if_neg (by omega),if_neg (by omega),if_neg (by omega),if_neg (by omega),if_neg (by omega),if_neg (by omega),if_neg (by omega),if_neg (by omega),if_neg (by omega),if_neg (by omega),if_neg (by omega),if_pos rfl]
theorem R26_551:R26 bd k 551 x ↔ ∃ m,ShB m x:=by
 unfold R26
 rw [if_neg (by omega),if_neg (by omega),if_neg (by omega),if_neg (by omega),if_neg (by omega),if_neg (by omega),if_neg (by omega),if_neg (by omega),if_neg (by omega),if_neg (by omega),if_neg (by omega),if_neg (by omega),if_neg (by omega),if_neg (by omega),if_neg (by omega),if_neg (by omega),if_pos rfl]
theorem R26_ix (m:Nat) (n:Int) (hm:m < 500):R26 bd k (9000 + m) (.agg [.s (.int .i64 n)]) ↔ 0 ≤ n∧n < bd m:=by
 rw [R26_9 m hm]
 constructor
 ·rintro ⟨n',h1,h⟩; cases h1; exact h
 ·intro h; exact ⟨n,rfl,h⟩
end
theorem fold_parts {R:Nat→D→Prop} {Q:D→Prop} {i:Nat} (h:∀ y,R i y→Q y) {ds:List D} (hx:ShL R [tI,tI,tI,tI,.str bS,.lst (.nm i) bL] ds):ShL (fun j y=>j=i∧Q y) [tI,tI,tI,tI,.str bS,.lst (.nm i) bL] ds:=by
 simp only [ShL,ShT] at hx ⊢
 obtain ⟨a0,_,rfl,h0,a1,_,rfl,h1,a2,_,rfl,h2,a3,_,rfl,h3,a4,_,rfl,h4,a5,_,rfl,⟨xs,rfl,h5,h6⟩,rfl⟩:=hx
 exact ⟨a0,_,rfl,h0,a1,_,rfl,h1,a2,_,rfl,h2,a3,_,rfl,h3,a4,_,rfl,h4,_,_,rfl,⟨xs,rfl,h5,fun y hy=>⟨trivial,h y (h6 y hy)⟩⟩,rfl⟩
theorem E26_none {i:Nat} (h0:i ≠ 0) (h2:i ≠ 2) (h5:i ≠ 500) (h3:i ≠ 1000) (h4:i ≠ 1002) (h6:i ≠ 550) (h7:i < 560 ∨ 563 < i) (h9:i ≠ 580∧i ≠ 551) (hi:i < 8000):E26 i=none:=by
 unfold E26
 rw [if_neg (by simp; omega),if_neg (by simp; omega),if_neg (by simp; omega),if_neg (by simp; omega),if_neg (by simp; omega),if_neg (by omega),if_neg (by simp; omega),if_neg (by simp; omega),if_neg (by simp; omega),if_neg (by simp; omega),if_neg (by omega),if_neg (by simp; omega),if_neg (by simp; omega),if_neg (by simp; omega),if_neg (by simp; omega)]
theorem rel26 (bd:BD) (k:Nat):RelOk E26 (R26 bd k):=by
 refine ⟨?_,?_,?_,?_⟩
 ·intro i x h
  rcases R26_cases h with rfl | rfl | rfl | rfl | rfl | hi | rfl | rfl | rfl | rfl | rfl | h8 | rfl | rfl | rfl | rfl | rfl | rfl
  rotate_left 16
  ·obtain ⟨_,ds,h1,h2⟩:=R26_580.1 h
   exact ⟨cSch,ds,rfl,h1,ShL_mono (fun i y hy=>by obtain ⟨rfl,h3⟩:=hy; exact R26_551.2 h3) h2⟩
  ·obtain ⟨m,h⟩:=R26_551.1 h
   cases m with
   | zero=>exact h.elim
   | succ m =>
    obtain ⟨ds,h1,h2⟩:=h
    exact ⟨cExpB,ds,rfl,h1,ShL_mono (fun i y hy=>by obtain ⟨rfl,h3⟩:=hy; exact R26_551.2 ⟨m,h3⟩) h2⟩
  ·obtain ⟨ds,h1,h2⟩:=R26_0.1 h
   exact ⟨cExp,ds,rfl,h1,ShL_mono (fun i y hy=>by obtain ⟨rfl,h3⟩:=hy; exact R26_1000.2 h3) h2⟩
  ·have h:=R26_1000.1 h
   cases k with
   | zero=>exact h.elim
   | succ k =>
    obtain ⟨ds,h1,h2⟩:=h
    exact ⟨cExp,ds,rfl,h1,ShL_mono (fun i y hy=>by obtain ⟨rfl,h3⟩:=hy; exact R26_1000.2 (ShD_succ h3)) h2⟩
  ·obtain ⟨ds,h1,h2,_⟩:=R26_2.1 h
   exact ⟨cExp2,ds,rfl,h1,ShL_mono (fun i y hy=>by obtain ⟨rfl,h3⟩:=hy; exact R26_1002.2 h3) h2⟩
  ·have h:=R26_1002.1 h
   cases k with
   | zero=>exact h.elim
   | succ k =>
    obtain ⟨ds,h1,h2,_⟩:=h
    exact ⟨cExp2,ds,rfl,h1,ShL_mono (fun i y hy=>by obtain ⟨rfl,h3⟩:=hy; exact R26_1002.2 (ShG_succ h3)) h2⟩
  ·obtain ⟨m,h⟩:=R26_500.1 h
   cases m with
   | zero=>exact h.elim
   | succ m =>
    obtain ⟨ds,h1,h2⟩:=h
    exact ⟨cExpA,ds,rfl,h1,ShL_mono (fun i y hy=>by obtain ⟨rfl,h3⟩:=hy; exact R26_500.2 ⟨m,h3⟩) h2⟩
  ·obtain ⟨m,rfl⟩:∃ m,i=9000 + m:=⟨i - 9000,by omega⟩
   obtain ⟨n,rfl,h⟩:=(R26_9 m (by omega)).1 h
   refine ⟨[tI],[.s (.int .i64 n)],?_,rfl,?_⟩
   ·unfold E26
    rw [if_neg (by simp; omega),if_neg (by simp; omega),if_neg (by simp; omega),if_neg (by simp; omega),if_neg (by simp; omega),if_pos (by omega)]
   ·simp only [ShL,ShT]; exact ⟨_,_,rfl,⟨n,rfl⟩,rfl⟩
  ·obtain ⟨w,rfl,hn⟩:=R26_9500.1 h
   clear h
   have h:=hn
   have hw:∃ t y,w = .ifc t y:=by obtain ⟨t,y,h1,_⟩:=h; exact ⟨t,y,h1⟩
   refine ⟨[.opq 0],[w],rfl,rfl,?_⟩
   simp only [ShL,ShT]
   exact ⟨_,_,rfl,Or.inr ⟨hw,(R26_node hw).1.2 h⟩,rfl⟩
  ·obtain ⟨w,rfl,hn⟩:=R26_9600.1 h
   clear h
   have h:=hn
   have hw:∃ t y,w = .ifc t y:=by
    cases k with
    | zero=>exact h.elim
    | succ k=>obtain ⟨t,y,h1,_⟩:=h; exact ⟨t,y,h1⟩
   refine ⟨[.opq 100],[w],rfl,rfl,?_⟩
   simp only [ShL,ShT]
   exact ⟨_,_,rfl,Or.inr ⟨hw,(R26_node hw).2.2 h⟩,rfl⟩
  ·obtain ⟨c,w,rfl,h1,_⟩:=R26_550.1 h
   refine ⟨cWord,_,rfl,rfl,?_⟩
   simp only [ShL,ShT]
   exact ⟨_,_,rfl,⟨_,rfl⟩,_,_,rfl,⟨_,rfl,h1⟩,rfl⟩
  ·obtain ⟨t,y,rfl⟩:=(R26_nil (Or.inl rfl)).1 h
   refine ⟨[.opq 50],_,rfl,rfl,?_⟩
   simp only [ShL,ShT]
   exact ⟨_,_,rfl,Or.inr ⟨⟨_,_,rfl⟩,h⟩,rfl⟩
  ·obtain ⟨t,y,rfl⟩:=(R26_nil (Or.inr rfl)).1 h
   refine ⟨[.opq 150],_,rfl,rfl,?_⟩
   simp only [ShL,ShT]
   exact ⟨_,_,rfl,Or.inr ⟨⟨_,_,rfl⟩,h⟩,rfl⟩
  ·have h9:=(R26_8a h8.1 h8.2).1 h
   refine ⟨[tI],_,?_,h9,?_⟩
   ·unfold E26
    rw [if_neg (by simp; omega),if_neg (by simp; omega),if_neg (by simp; omega),if_neg (by simp; omega),if_neg (by simp; omega),if_neg (by omega),if_neg (by simp; omega),if_neg (by simp; omega),if_neg (by simp; omega),if_neg (by simp; omega),if_pos h8]
   ·simp only [ShL,ShT]; exact ⟨_,_,rfl,⟨_,rfl⟩,rfl⟩
  ·obtain ⟨a,b,c,d,w,xs,rfl,h1,h2,h3,n,hn,y,h4,h5⟩:=R26_560.1 h
   refine ⟨cBadF,_,rfl,rfl,?_⟩
   simp only [ShL,ShT]
   exact ⟨_,_,rfl,⟨_,rfl⟩,_,_,rfl,⟨_,rfl⟩,_,_,rfl,⟨_,rfl⟩,_,_,rfl,⟨_,rfl⟩,_,_,rfl,⟨_,rfl,h1⟩,_,_,rfl,⟨xs,rfl,h2,fun y hy=>R26_500.2 (h3 y hy),by decide,n,y,(R26_8 3 n (by decide)).2 hn,h4,R26_561.2 ⟨h3 y (List.mem_of_getElem? h4),h5⟩⟩,rfl⟩
  ·obtain ⟨⟨m,h⟩,_⟩:=R26_561.1 h
   cases m with
   | zero=>exact h.elim
   | succ m =>
    obtain ⟨ds,h1,h2⟩:=h
    exact ⟨cExpA,ds,rfl,h1,ShL_mono (fun i y hy=>by obtain ⟨rfl,h3⟩:=hy; exact R26_500.2 ⟨m,h3⟩) h2⟩
  ·obtain ⟨a,b,c,d,w,xs,rfl,h1,h2,h3,n,hn,y,h4,h5⟩:=R26_562.1 h
   refine ⟨cBadT,_,rfl,rfl,?_⟩
   simp only [ShL,ShT]
   exact ⟨_,_,rfl,⟨_,rfl⟩,_,_,rfl,⟨_,rfl⟩,_,_,rfl,⟨_,rfl⟩,_,_,rfl,⟨_,rfl⟩,_,_,rfl,⟨_,rfl,h1⟩,_,_,rfl,⟨xs,rfl,h2,fun y hy=>R26_500.2 (h3 y hy),by decide,n,y,(R26_8 3 n (by decide)).2 hn,h4,R26_563.2 ⟨h3 y (List.mem_of_getElem? h4),h5⟩⟩,rfl⟩
  ·obtain ⟨⟨m,h⟩,_⟩:=R26_563.1 h
   cases m with
   | zero=>exact h.elim
   | succ m =>
    obtain ⟨ds,h1,h2⟩:=h
    exact ⟨cExpA,ds,rfl,h1,ShL_mono (fun i y hy=>by obtain ⟨rfl,h3⟩:=hy; exact R26_500.2 ⟨m,h3⟩) h2⟩
 ·intro i x hi h
  have:=R26_cases h
  have hc:i=0 ∨ i=2:=by omega
  rcases hc with rfl | rfl
  ·exact R26_0.2 (ShD_succ (R26_1000.1 h))
  ·exact R26_2.2 (ShG_succ (R26_1002.1 h))
 ·intro i x hi h
  have:=R26_cases h
  have hc:i=0 ∨ i=50:=by omega
  rcases hc with rfl | rfl
  ·obtain ⟨w,rfl,hw⟩:=R26_9600.1 h
   exact R26_9500.2 ⟨w,rfl,ShN_succ hw⟩
  ·exact (R26_nil (Or.inl rfl)).2 ((R26_nil (Or.inr rfl)).1 h)
 ·intro i ts ds hi hi2 hE h
  by_cases h0:i=0
  ·subst h0
   cases hE
   exact R26_0.2 ⟨ds,rfl,fold_parts (fun y hy=>R26_1000.1 hy) h⟩
  ·by_cases h5:i=500
   ·subst h5
    cases hE
    simp only [ShL,ShT] at h
    obtain ⟨a0,_,rfl,h0,a1,_,rfl,h1,a2,_,rfl,h2,a3,_,rfl,h3,a4,_,rfl,h4,a5,_,rfl,⟨xs,rfl,h5,h6⟩,rfl⟩:=h
    have key:∀ l:List D,(∀ y ∈ l,R26 bd k 500 y)→∃ m,∀ y ∈ l,ShA m y:=by
     intro l
     induction l with
     | nil=>intro _; exact ⟨0,fun y hy=>by cases hy⟩
     | cons a l ih =>
      intro hl
      obtain ⟨m,hm⟩:=ih fun y hy=>hl y (List.mem_cons_of_mem _ hy)
      obtain ⟨n,hn⟩:=R26_500.1 (hl a List.mem_cons_self)
      refine ⟨m + n,fun y hy=>?_⟩
      rcases List.mem_cons.1 hy with rfl | hy
      ·exact ShA_mono (by omega) hn
      ·exact ShA_mono (by omega) (hm y hy)
    obtain ⟨m,hm⟩:=key xs h6
    refine R26_500.2 ⟨m + 1,_,rfl,?_⟩
    simp only [ShL,ShT]
    exact ⟨a0,_,rfl,h0,a1,_,rfl,h1,a2,_,rfl,h2,a3,_,rfl,h3,a4,_,rfl,h4,_,_,rfl,⟨xs,rfl,h5,fun y hy=>⟨trivial,hm y hy⟩⟩,rfl⟩
   ·have hf:i < 2 ∨ 500 ≤ i∧i < 550:=by
     unfold foldable at hi2
     simp only [Bool.or_eq_true,Bool.and_eq_true] at hi2
     rcases hi2 with h | ⟨h,h'⟩
     ·exact Or.inl (Nat.le_of_ble_eq_true h)
     ·exact Or.inr ⟨Nat.le_of_ble_eq_true h,Nat.le_of_ble_eq_true h'⟩
    rw [E26_none h0 (by omega) h5 (by omega) (by omega) (by omega) (by omega) (by omega) (by omega)] at hE
    cases hE
theorem eqsok26 {R:Nat→D→Prop}:∀ p ∈ eqs26,∀ xs ys:List D,ShL R p.2 xs→ShL R p.2 ys→∀ x y,∃ q,exBin Tryz.prog .eql p.1 x y (.d (.agg xs)) (.d (.agg ys))=some { v:=.d (.s (.bool q)) } ∧ exBin Tryz.prog .neq p.1 x y (.d (.agg xs)) (.d (.agg ys))=some { v:=.d (.s (.bool !q)) }:=by
 intro p hp xs ys hx hy x y
 simp only [eqs26,List.mem_cons,List.not_mem_nil,or_false] at hp
 rcases hp with rfl | rfl
 ·simp only [ShL,ShT] at hx hy
  obtain ⟨_,_,rfl,⟨a0,rfl⟩,_,_,rfl,⟨a1,rfl⟩,_,_,rfl,⟨a2,rfl,_⟩,rfl⟩:=hx
  obtain ⟨_,_,rfl,⟨b0,rfl⟩,_,_,rfl,⟨b1,rfl⟩,_,_,rfl,⟨b2,rfl,_⟩,rfl⟩:=hy
  exact ⟨_,eq44 x y a0 b0 a1 b1 a2 b2,ne44 x y a0 b0 a1 b1 a2 b2⟩
 ·simp only [ShL,ShT] at hx hy
  obtain ⟨_,_,rfl,⟨a0,rfl⟩,_,_,rfl,⟨a1,rfl⟩,rfl⟩:=hx
  obtain ⟨_,_,rfl,⟨b0,rfl⟩,_,_,rfl,⟨b1,rfl⟩,rfl⟩:=hy
  exact ⟨_,eq46 x y a0 b0 a1 b1,ne46 x y a0 b0 a1 b1⟩
theorem ai26_z {t:TypeId} {u:Ty} {i:Nat} (h:ai26 i t=some u):ai26 0 t=some u:=by
 unfold ai26 at h ⊢
 rw [if_pos (by rfl)]
 split at h
 ·exact h
 ·cases h
noncomputable def fam26 (bd:BD):Fam where
 base:={ P:=Tryz.prog,R:=fun _ _=>False,d:=0,π:=fun k=>(1,k),h0:=E0,gs:=fun _=>0,E:=E26,np:=0,eqs:=eqs26,bd:=bd.b,ai:=ai26 }
 R:=fun k=>R26 (bdK bd k) k
 rel:=fun k=>rel26 (bdK bd k) k
 up1:=fun k i x hi=>by
  constructor
  ·intro h
   have:=R26_cases h
   have hc:i=0 ∨ i=2:=by omega
   rcases hc with rfl | rfl
   ·exact R26_0.2 (R26_1000.1 h)
   ·exact R26_2.2 (R26_1002.1 h)
  ·intro h
   have:=R26_cases h
   have hc:i=0 ∨ i=2:=by omega
   rcases hc with rfl | rfl
   ·exact R26_1000.2 (R26_0.1 h)
   ·exact R26_1002.2 (R26_2.1 h)
 up0:=fun k i x h5 hi=>by
  constructor
  ·intro h
   have:=R26_cases h
   have hc:i=500 ∨ i=550 ∨ i=560 ∨ i=561 ∨ i=562 ∨ i=563 ∨ i=580 ∨ i=551:=by omega
   rcases hc with rfl | rfl | rfl | rfl | rfl | rfl | rfl | rfl
   ·exact R26_500.2 (R26_500.1 h)
   ·exact R26_550.2 (R26_550.1 h)
   ·exact R26_560.2 (R26_560.1 h)
   ·exact R26_561.2 (R26_561.1 h)
   ·exact R26_562.2 (R26_562.1 h)
   ·exact R26_563.2 (R26_563.1 h)
   ·exact R26_580.2 (R26_580.1 h)
   ·exact R26_551.2 (R26_551.1 h)
  ·intro h
   have:=R26_cases h
   have hc:i=500 ∨ i=550 ∨ i=560 ∨ i=561 ∨ i=562 ∨ i=563 ∨ i=580 ∨ i=551:=by omega
   rcases hc with rfl | rfl | rfl | rfl | rfl | rfl | rfl | rfl
   ·exact R26_500.2 (R26_500.1 h)
   ·exact R26_550.2 (R26_550.1 h)
   ·exact R26_560.2 (R26_560.1 h)
   ·exact R26_561.2 (R26_561.1 h)
   ·exact R26_562.2 (R26_562.1 h)
   ·exact R26_563.2 (R26_563.1 h)
   ·exact R26_580.2 (R26_580.1 h)
   ·exact R26_551.2 (R26_551.1 h)
 up2:=fun k i t y hi=>by
  have hw:∃ t' y',D.ifc t y = .ifc t' y':=⟨t,y,rfl⟩
  by_cases h0:i=0
  ·subst h0
   exact (R26_node hw).2.trans (R26_node (bd:=bdK bd k) (k:=k) hw).1.symm
  ·by_cases h5:i=50
   ·subst h5
    exact (R26_nil (Or.inr rfl)).trans (R26_nil (Or.inl rfl)).symm
   ·constructor
    ·intro h; have:=R26_cases h; omega
    ·intro h; have:=R26_cases h; omega
 ixl:=fun k m n hm=>R26_ix m n hm
 gxl:=fun k m n hm=>R26_8 m n hm
 szE:=fun i hi=>by
  show ((E26 (1000 + i)).map List.length).getD 0=((E26 i).map List.length).getD 0
  by_cases h0:i=0
  ·subst h0; rfl
  ·by_cases h2:i=2
   ·subst h2; rfl
   ·rw [E26_none (by omega) (by omega) (by omega) (by omega) (by omega) (by omega) (by omega) (by omega) (by omega),E26_none h0 h2 (by omega) (by omega) (by omega) (by omega) (by omega) (by omega) (by omega)]
 nf:=fun k i ds h v hv hb=>by
  have two:∀ (c n:Int) (rest:List D),ds = .s (.int .i64 c) :: .s (.int .i64 n) :: rest→(c=0→0 ≤ n∧n < bd 1)→FOk v [.impi (8,0,0) 0 (.le zT (1,8,1,0) 0),.impi (8,0,0) 0 (.le (1,8,1,0) (1,4,3001,0) 1)]:=by
   rintro c n rest rfl h3
   have e0:intA (v (8,0,0))=c:=by rw [hv]; rfl
   have e1:tv v (1,8,1,0)=n:=by show intA (v (8,1,0))=n; rw [hv]; rfl
   have z0:tv v zT=0:=rfl
   have hb:tv v (1,4,3001,0)=bd 1:=hb 1
   intro f hf
   simp only [List.mem_cons,List.not_mem_nil,or_false] at hf
   rcases hf with rfl | rfl
   ·intro he
    rw [e0] at he
    have:=h3 he
    show tv v zT + 0 ≤ tv v (1,8,1,0); rw [e1,z0]; omega
   ·intro he
    rw [e0] at he
    have:=h3 he
    show tv v (1,8,1,0) + 1 ≤ tv v (1,4,3001,0); rw [e1,hb]; omega
  by_cases h2:i=2
  ·subst h2
   obtain ⟨ds',e,_,c,n,rest,h3,h4⟩:=R26_2.1 h
   cases e
   exact two c n rest h3 h4
  ·by_cases h12:i=1002
   ·subst h12
    have h:=R26_1002.1 h
    cases k with
    | zero=>exact h.elim
    | succ k =>
     obtain ⟨ds',e,_,c,n,rest,h3,h4⟩:=h
     cases e
     exact two c n rest h3 h4
   ·by_cases h5:i=550
    ·subst h5
     obtain ⟨c,w,e,_,h4,h3⟩:=R26_550.1 h
     cases e
     have e0:intA (v (8,0,0))=c:=by rw [hv]; rfl
     intro f hf
     have hf:f ∈ [Fact.impi (8,0,0) 3 (.le zT (2,8,1,0) 2),.f (.le zT (1,8,0,0) 1)]:=hf
     simp only [List.mem_cons,List.not_mem_nil,or_false] at hf
     rcases hf with rfl | rfl
     ·intro he
      have e1:tv v (2,8,1,0)=w.size:=by show lenA (v (8,1,0))=_; rw [hv]; rfl
      rw [e0] at he
      have:=h3 he
      show tv v zT + 2 ≤ tv v (2,8,1,0)
      rw [e1]
      show 0 + 2 ≤ (w.size:Int)
      omega
     ·show tv v zT + 1 ≤ intA (v (8,0,0))
      rw [e0]
      show 0 + 1 ≤ c
      omega
    ·unfold nfTab
     rw [if_neg (by simp; omega),if_neg (by simp; omega)]
     intro f hf; cases hf
 aif:=fun k i t y u hi hu h=>by
  have hu:ai26 i t=some u:=hu
  have hw:∃ t' y',D.ifc t y = .ifc t' y':=⟨t,y,rfl⟩
  have hi:i=0:=by
   unfold ai26 at hu
   split at hu
   ·rename_i hc
    have:i=0 ∨ i=100:=by simpa using hc
    omega
   ·cases hu
  subst hi
  refine (R26_node hw).1.2 ⟨t,y,rfl,fun u' hu'=>?_⟩
  rw [hu] at hu'
  cases hu'
  have key:∀ z,R26 (bdK bd k) k 9600 z→True ∧ ∃ w,z = .agg [w]∧ShN k w:=fun z hz=>⟨trivial,R26_9600.1 hz⟩
  unfold ai26 at hu
  rw [if_pos (by rfl)] at hu
  split at hu
  ·cases hu
   simp only [ShT,ShL] at h ⊢
   exact h
  ·split at hu
   ·cases hu
    simp only [ShT,ShL] at h ⊢
    exact h
   ·split at hu
    ·cases hu
     simp only [ShT,ShL] at h ⊢
     obtain ⟨ds,rfl,x0,_,rfl,h0,x1,_,rfl,⟨xs,rfl,h1,h2⟩,rfl⟩:=h
     exact ⟨_,rfl,x0,_,rfl,h0,_,_,rfl,⟨xs,rfl,h1,fun y hy=>(h2 y hy).imp id fun h=>⟨h.1,key _ h.2⟩⟩,rfl⟩
    ·cases hu
 aik:=fun k i t y u hu h=>by
  have hu:ai26 i t=some u:=hu
  have hw:∃ t' y',D.ifc t y = .ifc t' y':=⟨t,y,rfl⟩
  have hi:i=0 ∨ i=100:=by
   unfold ai26 at hu
   split at hu
   ·rename_i hc
    simpa using hc
   ·cases hu
  have hz:=ai26_z hu
  have fin:∀ k',k' ≤ k→ShN (k' + 1) (.ifc t y)→ShT (R26 (bdK bd k) k) u y:=by
   intro k' hk h
   obtain ⟨t',y',e,h2⟩:=h
   cases e
   refine ShT_mono (fun j z hz=>?_) (h2 u hz)
   obtain ⟨rfl,w,rfl,h3⟩:=hz
   have mono:∀ {a b:Nat} {w:D},a ≤ b→ShN a w→ShN b w:=by
    intro a b w hab h
    induction hab with
    | refl=>exact h
    | step _ ih=>exact ShN_succ ih
   exact R26_9600.2 ⟨w,rfl,mono hk h3⟩
  rcases hi with rfl | rfl
  ·exact fin k (Nat.le_refl _) ((R26_node hw).1.1 h)
  ·have h:=(R26_node hw).2.1 h
   cases k with
   | zero=>exact h.elim
   | succ k=>exact fin k (Nat.le_succ k) h
 eqs:=fun k=>eqsok26
abbrev Ok26 (bd:BD) (k:Nat) (c:Ctr):Prop:=c.Ok ((fam26 bd).lv k) ev26
noncomputable def k26 (DB:List Ctr) (ixs:List Nat:=[]):SK:={ P:=Tryz.prog,E:=E26,np:=0,eqs:=eqs26,DB:=DB,ai:=ai26,ixs:=ixs }
theorem base26 {bd:BD} {k:Nat} {DB:List Ctr} {ixs:List Nat} (h:Ctrs ((fam26 bd).lv k) ev26 DB):(k26 DB ixs).Base ((fam26 bd).lv k) ev26:=⟨rfl,rfl,rfl,rfl,h⟩
theorem ctrs_nil (C:Cx) (X:Orc):Ctrs C X []:=fun c hc=>by cases hc
theorem ctrs_cons {C:Cx} {X:Orc} {c:Ctr} {l:List Ctr} (h:c.Ok C X) (hl:Ctrs C X l):Ctrs C X (c :: l):=fun d hd=>by
 rcases List.mem_cons.1 hd with rfl | hd
 ·exact h
 ·exact hl d hd
def LA.up (l:LA):LA:={ l with slots:=l.slots.map (fun p=>(p.1,TV.up p.2)),boxes:=l.boxes.map (fun p=>(p.1,TV.ups p.2)),facts:=l.facts.map Fact.dn,alts:=l.alts.map fun a=>(a.1.map (fun p=>(p.1,TV.up p.2)),a.2.1.map (fun p=>(p.1,TV.ups p.2)),a.2.2.map Fact.dn) }
theorem ok_upZ {bd:BD} {c:Ctr} {l:List TV} {i:Nat} (hi:i=0 ∨ i=2) (h:c.args = .c (.nm i) :: l):Ok26 bd 0 c.up:=by
 intro d h0 π zs hC hpl hz hpar hpre
 have hz:TV.oks _ h0 (TV.ups c.args) zs:=hz
 rw [h] at hz
 simp only [TV.ups,TV.up,Ty.up,TV.oks,TV.ok,ShT] at hz
 obtain ⟨_,_,_,⟨x,_,h1⟩,_⟩:=hz
 rcases hi with rfl | rfl
 ·exact ((R26_1000 (bd:=bdK bd 0) (k:=0) (x:=x)).1 h1).elim
 ·exact ((R26_1002 (bd:=bdK bd 0) (k:=0) (x:=x)).1 h1).elim
theorem ok_upN {bd:BD} {c:Ctr} {a:TV} {l:List TV} (h:c.args=a :: .c (.opq 0) :: l):Ok26 bd 0 c.up:=by
 intro d h0 π zs hC hpl hz hpar hpre
 have hz:TV.oks _ h0 (TV.ups c.args) zs:=hz
 rw [h] at hz
 simp only [TV.ups,TV.up,Ty.up,TV.oks,TV.ok,ShT] at hz
 obtain ⟨_,_,_,_,_,_,_,⟨x,_,h0⟩,_⟩:=hz
 obtain ⟨hw,h1⟩:=h0.resolve_left fun h=>absurd h.1 (by decide)
 exact ((R26_node (bd:=bdK bd 0) (k:=0) hw).2.1 h1).elim
theorem ok_upP {bd:BD} {c:Ctr} (hm:Fact.f (.le (2,3,0,0) (1,4,3002,0) 0) ∈ c.pre):Ok26 bd 0 c.up:=by
 intro d h0 π zs hC hpl hz hpar hpre
 have h:=hpre (apv (c.up.cx ((fam26 bd).lv 0) d h0 π) (st0 d h0 zs)) (fun _ _=>rfl) _ (List.mem_map_of_mem (f:=Fact.dn) hm)
 have h:lenA (apv (c.up.cx ((fam26 bd).lv 0) d h0 π) (st0 d h0 zs) (3,0,0)) + 1 ≤ (c.up.cx ((fam26 bd).lv 0) d h0 π).gs 3002:=h
 have e:(c.up.cx ((fam26 bd).lv 0) d h0 π).gs 3002=bdK bd 0 2:=gsb (F:=fam26 bd) (c:=c.up) 0 2
 have z:bdK bd 0 2=0:=rfl
 have:=lenA_nonneg (apv (c.up.cx ((fam26 bd).lv 0) d h0 π) (st0 d h0 zs) (3,0,0))
 omega
end
end
section
def cWithin:Ctr:={ f:=30,args:=[.c tI,.c tI,.c tI],res:=.val .bool,post:=[.imp (5,0,0) true (.le (1,0,1,0) (1,0,0,0) (0)),.imp (5,0,0) true (.le (1,0,0,0) (1,0,2,0) (0))],dd:=[(0,[],[],[[6]]),(1,[],[],[[],[],[7,8],[9],[],[],[11,12],[10,13],[14]])] }
def lWithin:List LA:=[]
def cKey:Ctr:={ f:=32,args:=[.c tI],res:=.val .bool,dd:=[(0,[],[],[[2]]),(1,[],[],[[],[3],[4]])] }
def lKey:List LA:=[]
def cBlank:Ctr:={ f:=34,args:=[.c (.st cOp)],res:=.val .bool,dd:=[(0,[],[],[[],[2]]),(1,[],[],[[],[3],[4],[5],[],[7],[],[8,9],[6,10],[11],[],[13],[],[14,15],[12,16],[17],[1],[19],[20],[18,21],[22]])] }
def lBlank:List LA:=[]
def cVRight:Ctr:={ f:=104,args:=[.c (.st cVal)],res:=.val .bool,dd:=[(0,[],[],[[],[2]]),(1,[],[],[[],[3]]),(2,[],[],[[],[6]]),(3,[4,5],[],[[1],[],[7,8],[9]]),(4,[5],[],[[],[11]]),(5,[4,10],[],[[],[12],[13],[14],[],[16],[17],[15,18],[19],[1],[21],[22],[20,23],[24]]),(6,[10],[],[[4],[26]]),(7,[25],[],[[],[27],[28],[29],[1],[31],[32],[33],[30,34],[35]]),(8,[1,25],[1],[])] }
def lVRight:List LA:=[]
def cRKind:Ctr:={ f:=140,args:=[.c (.st cCol)],res:=.val tI,dd:=[(0,[],[],[[],[2]]),(1,[],[],[[],[3]]),(2,[],[],[[],[6]]),(3,[5],[],[[],[8]]),(4,[1,7],[1],[[],[10]]),(5,[9],[],[[],[12]]),(6,[11],[],[[4],[14]]),(7,[4,5,7],[],[[1],[15],[16]]),(8,[4,9,11],[],[]),(9,[13],[],[]),(10,[13],[],[])] }
def lRKind:List LA:=[]
def cRCheck:Ctr:={ f:=102,args:=[.c (.st cCol),.c (.st cVal)],res:=.val tI,dd:=[(0,[],[],[[],[],[4]]),(1,[],[],[[],[6],[7],[8],[],[10],[11],[9,12],[13]]),(2,[],[],[[],[15],[16],[17]]),(3,[2,3,5,14],[2,3],[]),(4,[14],[],[[],[19],[20],[21],[5],[22,23],[24],[],[26],[27],[25,28],[29]]),(5,[2,3,18],[2,3],[]),(6,[18],[],[[],[31],[32],[33],[3],[35],[2],[37],[36,38],[34,39],[40]]),(7,[30],[],[]),(8,[30],[],[])] }
def lRCheck:List LA:=[]
def cRRight:Ctr:={ f:=74,args:=[.c (.lst (.st cCol) bL),.c (.lst (.st cVal) bL)],res:=.val tI,dd:=[(0,[],[],[[4]]),(1,[],[],[[],[8],[],[10],[9,11]]),(2,[12],[],[]),(3,[12],[],[]),(5,[16],[],[[],[],[18],[],[17],[19]]),(6,[],[],[[],[5],[20,21],[22],[6],[23,24],[25]]),(7,[],[],[[],[26]]),(8,[13,14,15,27],[],[[7],[28]]),(9,[7,27],[],[[15],[29]]),(10,[13,14,15,16],[],[])] }
def lRRight:List LA:=[{ key:=4,drop:=[16,17,18,19,6,5,20,21,22,23,24,25,7,26,27,28,4,29,15],slots:=[],dropH:=[],boxes:=[],facts:=[.f (.le zT (1,0,15,0) (0)),.f (.le (1,0,15,0) (1,0,14,0) (0))],alts:=[],p:=((1,0,14,0),0),q:=((1,0,15,0),0) }]
def cInsert:Ctr:={ f:=31,args:=[.c (.st cTab),.c (.st cOp)],res:=.val tI,dd:=[(0,[],[],[[],[],[4]]),(1,[],[],[[],[6],[7],[8],[],[10],[11],[9,12]]),(2,[2,3,13],[2,3],[]),(3,[13],[],[[2],[14],[],[16],[15,17],[18]]),(4,[],[],[[],[19]]),(5,[3,20],[3],[[5],[21]]),(6,[5,20],[],[[],[22],[23],[24],[25],[3],[27],[28],[29],[30],[31],[32],[26,33]]),(7,[34],[],[]),(8,[34],[],[])] }
def lInsert:List LA:=[]
def cOVal:Ctr:={ f:=77,args:=[.c (.st cCol),.c (.st cOp)],res:=.val tI,dd:=[(0,[],[],[[],[],[4]]),(1,[],[],[[],[6],[],[7]]),(2,[],[],[[],[9],[10],[11],[],[],[13,14],[12,15],[16]]),(3,[8],[],[[],[17],[18],[19]]),(4,[2,3,5,8],[2,3,5],[]),(5,[8],[],[[],[21],[22],[23]]),(6,[20],[],[[],[25],[26],[27],[],[29],[30],[28,31],[32]]),(7,[3,5,24],[3,5],[[2],[33],[34]]),(8,[35],[],[]),(9,[24],[],[[],[37],[38],[39],[],[41],[2],[43],[42,44],[40,45],[46]]),(10,[36],[],[[],[47],[48],[49],[],[51],[52],[50,53],[54]]),(11,[3,5,36],[3,5],[]),(12,[36],[],[[],[56],[57],[58],[3],[60],[61],[59,62],[63],[5],[65],[66],[64,67],[68]]),(13,[55],[],[]),(14,[2,3,5,20,35,55],[2,3,5],[])] }
def lOVal:List LA:=[]
def cOPlace:Ctr:={ f:=78,args:=[.c (.st cOp)],res:=.val .bool,dd:=[(0,[],[],[[],[2]]),(1,[],[],[[],[4],[],[5,6],[7],[],[9],[10],[8,11]]),(2,[12],[],[[1],[13],[14],[15]]),(3,[12],[],[[],[16],[17],[18],[],[20],[21],[19,22],[23]]),(4,[],[],[[3],[24],[],[26],[27],[28],[25,29],[30],[],[32],[33],[34],[31,35],[36],[1],[38],[39],[37,40],[41]])] }
def lOPlace:List LA:=[]
def cIndexI:Ctr:={ f:=103,args:=[.c (.lst tI bL),.c tI],res:=.val tI,dd:=[(0,[],[],[[4]]),(1,[],[],[[],[6]]),(3,[9],[],[[],[10]]),(4,[],[],[[],[],[],[12,13],[14],[11,15]]),(5,[7,8,16],[],[[5],[17]]),(6,[5,16],[],[[8],[18]]),(7,[7,8,9],[],[])] }
def lIndexI:List LA:=[{ key:=2,drop:=[9,10,5,11,12,13,14,15,16,17,4,18,8],slots:=[],dropH:=[],boxes:=[],facts:=[.f (.le zT (1,0,8,0) (0)),.f (.le (1,0,8,0) (1,0,7,0) (0))],alts:=[],p:=((1,0,7,0),0),q:=((1,0,8,0),0) }]
def cContI:Ctr:={ f:=75,args:=[.c (.lst tI bL),.c tI],res:=.val .bool,dd:=[(0,[],[],[[4]]),(1,[],[],[[],[],[5,6],[7],[8]])] }
def lContI:List LA:=[]
def cOKinds:Ctr:={ f:=76,args:=[],res:=.map (.lst tI 2) false }
def cCell:Ctr:={ f:=33,args:=[.c (.st cTab),.c (.st cOp)],res:=.val tI,dd:=[(0,[],[],[[],[],[4]]),(1,[],[],[[],[7],[8],[9],[],[11],[],[13],[14],[12,15],[10,16],[17]]),(2,[2,3,6],[2,3],[]),(3,[6],[],[[],[19],[20],[21]]),(4,[2,3,18],[2,3],[]),(5,[18],[],[[],[],[24],[23,25],[],[27],[],[29],[28,30],[31],[32],[26,33],[34],[35]]),(6,[2,3,22],[2,3],[]),(7,[22],[],[[2],[36],[],[38],[37,39],[40],[],[41,42],[43]]),(8,[],[],[[],[44]]),(9,[3,45],[3],[[5],[46]]),(10,[5,45],[],[[3],[47],[48]]),(11,[49],[],[]),(12,[49],[],[])] }
def lCell:List LA:=[]
def cORight:Ctr:={ f:=10,args:=[.c tSch,.c (.st cOp)],res:=.val tI,dd:=[(0,[],[],[[],[],[4]]),(1,[],[],[[],[6],[7],[8],[9]]),(2,[2,3,5],[2,3],[]),(3,[5],[],[[],[11],[],[13],[14],[15],[12,16],[17],[18]]),(4,[2,3,10],[2,3],[]),(5,[10],[],[[],[20],[21],[22]]),(6,[19],[],[[2],[23],[],[25],[24,26],[27],[3],[28,29],[30]]),(7,[19],[],[[],[32],[33],[34],[35],[],[37],[38],[39],[36,40],[41]]),(8,[2,3,31],[2,3],[]),(9,[31],[],[[],[43],[44],[45]]),(10,[42],[],[[2],[46],[],[48],[47,49],[50],[3],[51,52],[53]]),(11,[2,42],[2],[[3],[55],[56],[57]]),(12,[54],[],[]),(13,[54],[],[])] }
def lORight:List LA:=[]
def cSTab1:Ctr:={ f:=93,args:=[.c (.st cTab),.bp (false,0) 0],pars:=[[.c (.str bS)]],res:=.val .bool,dd:=[(0,[],[],[[],[3]]),(1,[],[],[[2],[4],[],[5,6],[7]])] }
def lSTab1:List LA:=[]
def cIxTab:Ctr:={ f:=92,args:=[.c (.lst (.st cTab) bL),.clo 93 [.bp (false,0) 0]],pars:=[[.c (.str bS)]],res:=.val tI,post:=[.f (.le (1,5,0,0) (2,0,0,0) (1)),.f (.le zT (1,5,0,0) (-1))],dd:=[(0,[],[],[[4]]),(1,[],[],[[],[6]]),(3,[9],[],[[],[10]]),(4,[],[],[[],[],[],[12,13],[14],[11,15]]),(5,[7,8,16],[],[[5],[17]]),(6,[5,16],[],[[8],[18]]),(7,[7,8,9],[],[])] }
def lIxTab:List LA:=[{ key:=2,drop:=[9,10,5,11,12,13,14,15,16,17,4,18,8],slots:=[],dropH:=[],boxes:=[],facts:=[.f (.le zT (1,0,8,0) (0)),.f (.le (1,0,8,0) (1,0,7,0) (0))],alts:=[],p:=((1,0,7,0),0),q:=((1,0,8,0),0) }]
def cSTab:Ctr:={ f:=64,args:=[.c tSch,.c (.str bS)],res:=.tup [tI,.bool],post:=[.f (.le zT (1,6,0,0) (0)),.imp (6,1,0) true (.le (1,6,0,0) (2,1,0,0) (1))],dd:=[(0,[],[],[[],[],[4],[5]]),(1,[],[],[[2],[7],[3],[8,9],[10]]),(2,[],[],[[],[11],[6],[13],[12],[14]])] }
def lSTab:List LA:=[]
def cSCol1:Ctr:={ f:=90,args:=[.c (.st cCol),.bp (false,0) 0],pars:=[[.c (.str bS)]],res:=.val .bool,dd:=[(0,[],[],[[],[3]]),(1,[],[],[[2],[4],[],[5,6],[7]])] }
def lSCol1:List LA:=[]
def cIxCol:Ctr:={ f:=89,args:=[.c (.lst (.st cCol) bL),.clo 90 [.bp (false,0) 0]],pars:=[[.c (.str bS)]],res:=.val tI,post:=[.f (.le (1,5,0,0) (2,0,0,0) (1)),.f (.le zT (1,5,0,0) (-1))],dd:=[(0,[],[],[[4]]),(1,[],[],[[],[6]]),(3,[9],[],[[],[10]]),(4,[],[],[[],[],[],[12,13],[14],[11,15]]),(5,[7,8,16],[],[[5],[17]]),(6,[5,16],[],[[8],[18]]),(7,[7,8,9],[],[])] }
def lIxCol:List LA:=[{ key:=2,drop:=[9,10,5,11,12,13,14,15,16,17,4,18,8],slots:=[],dropH:=[],boxes:=[],facts:=[.f (.le zT (1,0,8,0) (0)),.f (.le (1,0,8,0) (1,0,7,0) (0))],alts:=[],p:=((1,0,7,0),0),q:=((1,0,8,0),0) }]
def cSCol:Ctr:={ f:=55,args:=[.c (.st cTab),.c (.str bS)],res:=.tup [tI,.bool],post:=[.f (.le zT (1,6,0,0) (0)),.imp (6,1,0) true (.le (1,6,0,0) (2,1,0,1) (1))],dd:=[(0,[],[],[[],[],[4],[5]]),(1,[],[],[[2],[7],[3],[8,9],[10]]),(2,[],[],[[],[11],[6],[13],[12],[14]])] }
def lSCol:List LA:=[]
def cWTable:Ctr:={ f:=53,args:=[.bp (false,0) 0,.c (.str bS)],pars:=[[.c (.lst (.st cTab) bL),.own (false,1001) (.ix 0),.c .bool]],res:=.val tI,post:=[.f (.le zT (1,5,0,0) (0)),.imp (7,2,0) false (.le (1,5,0,0) (2,3,0,0) (1)),.f (.le (2,7,0,0) (2,3,0,0) (0)),.f (.le (2,3,0,0) (2,7,0,0) (0)),.f (.le (2,7,1,0) (2,3,0,1) (0)),.f (.le (2,3,0,1) (2,7,1,0) (0))],ws:=[(0,[.c (.lst (.st cTab) bL),.own (false,1001) (.ix 0),.c .bool])],dd:=[(0,[],[],[[4]]),(1,[],[],[[],[8],[9],[10],[],[11,12],[13],[],[7],[14],[15]]),(2,[],[],[[],[],[17],[18],[19],[20],[6],[22],[21,23],[16],[25],[24,26]]),(3,[],[],[[5],[27]])] }
def lWTable:List LA:=[]
def cWAt:Ctr:={ f:=54,args:=[.bp (false,0) 0,.c (.st [tI,.str bS])],pars:=[[.c (.lst (.st cTab) bL),.own (false,1001) (.ix 0),.c .bool]],pre:=[.f (.le (1,4,3000,0) (2,3,0,0) (0)),.f (.le (2,3,0,1) zT (-300000000))],res:=.val tI,post:=[.f (.le (2,7,0,0) (2,3,0,0) (0)),.f (.le (2,3,0,0) (2,7,0,0) (0)),.f (.le (2,7,1,0) (2,3,0,1) (0)),.f (.le (2,3,0,1) (2,7,1,0) (0))],ws:=[(0,[.c (.lst (.st cTab) bL),.own (false,1001) (.ix 0),.c .bool])],dd:=[(0,[],[],[[],[4]]),(2,[],[],[[],[10],[11],[12]]),(4,[16],[],[[],[],[18],[17],[19]]),(5,[],[],[[6],[],[21],[20,22]]),(6,[13,14,15,23],[],[[],[25],[26],[27],[28],[7],[29,30],[31],[3],[33],[32,34],[35],[],[24],[36],[37]]),(7,[],[],[[],[],[39],[40],[41],[42],[9],[44],[43,45],[38],[47],[46,48]]),(8,[],[],[[5],[8],[49,50],[51]]),(9,[23],[],[[5],[],[53],[54],[55],[56],[7],[57,58],[59],[60],[61],[52,62],[63]]),(10,[],[],[[15],[64]]),(11,[3,5,13,14,15,16],[3],[[],[65],[66],[67]])] }
def lWAt:List LA:=[{ key:=3,drop:=[16,17,18,19,6,7,20,21,22,23,25,26,27,28,29,30,31,32,33,34,35,24,36,37,8,9,38,39,40,41,42,43,44,45,46,47,48,49,50,51,4,52,53,54,55,56,57,58,59,60,61,62,63,5,64,15],slots:=[],dropH:=[],boxes:=[],facts:=[.f (.le zT (1,0,15,0) (0)),.f (.le (1,0,15,0) (1,0,14,0) (0))],alts:=[],p:=((1,0,14,0),0),q:=((1,0,15,0),0) }]
def cWExprs:Ctr:={ f:=56,args:=[.bp (false,0) 0,.c (.lst (.opq 0) bL)],pars:=[[.c (.lst (.st cTab) bL),.own (false,1001) (.ix 0),.c .bool]],pre:=[.f (.le (1,4,3000,0) (2,3,0,0) (0)),.f (.le (2,3,0,1) zT (-300000000))],res:=.lst (.nm 0) bL,post:=[.f (.le (2,7,0,0) (2,3,0,0) (0)),.f (.le (2,3,0,0) (2,7,0,0) (0)),.f (.le (2,7,1,0) (2,3,0,1) (0)),.f (.le (2,3,0,1) (2,7,1,0) (0))],ws:=[(0,[.c (.lst (.st cTab) bL),.own (false,1001) (.ix 0),.c .bool])],ads:=[(0,1)],dd:=[(0,[],[],[[4]]),(4,[11],[],[[],[12],[13]]),(5,[],[],[[5],[],[7],[15,16],[17],[14,18],[19]]),(6,[],[],[[10],[20]]),(7,[8,9,10,11],[],[[5],[21]])] }
def lWExprs:List LA:=[{ key:=3,drop:=[11,12,13,7,14,15,16,17,18,19,5,20,10],slots:=[(5,.own (true,19) (.nm 0))],dropH:=[(false,0)],boxes:=[((false,0),[.c (.lst (.st cTab) bL),.own (false,1001) (.ix 0),.c .bool])],facts:=[.f (.le zT (1,0,10,0) (0)),.f (.le (1,0,10,0) (1,0,9,0) (0)),.f (.le (2,0,5,0) (1,0,10,0) (0)),.f (.le (1,4,3000,0) (2,3,0,0) (0)),.f (.le (2,3,0,1) zT (-300000000)),.f (.le (2,3,0,0) (1,4,2001,0) (0)),.f (.le (1,4,2001,0) (2,3,0,0) (0)),.f (.le (2,3,0,1) (1,4,2003,0) (0)),.f (.le (1,4,2003,0) (2,3,0,1) (0))],alts:=[],p:=((1,0,9,0),0),q:=((1,0,10,0),0) }]
def cWExpr:Ctr:={ f:=57,args:=[.bp (false,0) 0,.c (.opq 0)],pars:=[[.c (.lst (.st cTab) bL),.own (false,1001) (.ix 0),.c .bool]],pre:=[.f (.le (1,4,3000,0) (2,3,0,0) (0)),.f (.le (2,3,0,1) zT (-300000000))],res:=.val (.nm 0),post:=[.f (.le (2,7,0,0) (2,3,0,0) (0)),.f (.le (2,3,0,0) (2,7,0,0) (0)),.f (.le (2,7,1,0) (2,3,0,1) (0)),.f (.le (2,3,0,1) (2,7,1,0) (0))],ws:=[(0,[.c (.lst (.st cTab) bL),.own (false,1001) (.ix 0),.c .bool])],ads:=[(0,1)],dd:=[(2,[],[],[[],[],[9]]),(3,[8,10],[],[[],[11]]),(4,[],[],[[],[5],[12,13],[14],[15]]),(5,[10,11],[],[[],[],[16]]),(6,[8,17],[],[[],[18]]),(7,[],[],[[6],[19],[20],[21]]),(8,[17,18],[],[[8],[],[22]]),(9,[23],[],[[],[24]]),(10,[],[],[[],[25],[],[7],[28],[27,29],[26,30],[31]]),(11,[23,24],[],[[],[32]])] }
def lWExpr:List LA:=[]
def cWFind:Ctr:={ f:=23,args:=[.bp (false,0) 0,.c (.st cAsk)],pars:=[[.c (.lst (.st cTab) bL),.own (false,1001) (.ix 0),.c .bool]],pre:=[.f (.le (1,4,3000,0) (2,3,0,0) (0)),.f (.le (2,3,0,0) (1,4,3000,0) (0)),.f (.le (2,1,1,1) (2,1,1,0) (0)),.f (.le (2,3,0,1) zT (0))],res:=.val (.st cQry),ws:=[(0,[.c (.lst (.st cTab) bL),.own (false,1001) (.ix 0),.c .bool])],ads:=[(0,1)],dd:=[(1,[],[],[[],[],[15],[14,16],[],[18],[],[20],[17,19,21],[],[22]]),(2,[],[],[[],[23],[24],[25]]),(3,[3,26],[3],[[5],[27]]),(4,[26],[],[[],[],[29],[30],[28],[32],[31,33]]),(5,[],[],[[],[34]]),(7,[38],[],[[],[39],[],[40]]),(8,[],[],[[],[],[42],[41,43],[],[],[46],[45,47],[44],[48]]),(9,[],[],[[],[49],[50],[51]]),(10,[3,7,8,9,35,36,37,52],[3,7],[[5],[53]]),(11,[52],[],[[],[55],[56],[57],[58],[],[59,60],[61],[7],[63],[62,64],[65],[],[54],[66],[67]]),(12,[],[],[[],[],[69],[70],[71],[72],[11],[74],[73,75],[68],[77],[76,78]]),(13,[],[],[[],[79],[],[8],[10],[81,82,83],[84],[80,85],[],[86,87]]),(14,[],[],[[],[],[89],[90],[91],[9],[93],[92,94],[88],[96],[95,97]]),(15,[],[],[[37],[98]]),(16,[35,36,37,38],[],[[],[],[100],[99,101],[],[],[104],[103,105],[],[102,107],[],[106,108]]),(17,[],[],[[],[109]]),(19,[113],[],[[],[],[115],[114],[116]]),(20,[],[],[[],[117],[],[119],[12],[120,121],[122],[],[13],[124,125],[123,126],[127],[118,128],[],[129,130]]),(21,[],[],[[112],[131]]),(22,[3,110,111,112,113],[3],[[5],[132]])] }
def lWFind:List LA:=[{ key:=6,drop:=[38,39,40,7,41,42,43,44,45,46,47,48,8,9,49,50,51,52,53,55,56,57,58,59,60,61,62,63,64,65,54,66,67,10,11,68,69,70,71,72,73,74,75,76,77,78,79,80,81,82,83,84,85,86,87,88,89,90,91,92,93,94,95,96,97,98,37],slots:=[],dropH:=[(false,0),(true,5)],boxes:=[((false,0),[.c (.lst (.st cTab) bL),.own (false,1001) (.ix 0),.c .bool]),((true,5),[.c tI,.own (true,86) (.st [tI,tI,tI]),.nilv,.nilv,.nilv,.c (.lst tI bL),.c tI])],facts:=[.f (.le zT (1,0,37,0) (0)),.f (.le (1,0,37,0) (1,0,36,0) (0)),.f (.le (1,4,3000,0) (2,3,0,0) (0)),.f (.le (2,3,0,0) (1,4,3000,0) (0)),.f (.le zT (2,3,0,1) (1)),.f (.le (2,3,0,1) (1,0,37,0) (-1)),.f (.le (2,2,5,1) (1,0,37,0) (0)),.f (.le (2,2,5,4) zT (0))],alts:=[],p:=((1,0,36,0),0),q:=((1,0,37,0),0) },{ key:=18,drop:=[113,114,115,116,12,13,117,118,119,120,121,122,123,124,125,126,127,128,129,130,131,112],slots:=[],dropH:=[(false,0),(true,5)],boxes:=[((false,0),[.c (.lst (.st cTab) bL),.own (false,1001) (.ix 0),.c .bool]),((true,5),[.c tI,.own (true,86) (.st [tI,tI,tI]),.rl (true,102) (.nm 0),.rl (true,106) (.nm 0),.own (true,129) (.st cOut),.c (.lst tI bL),.c tI])],facts:=[.f (.le zT (1,0,112,0) (0)),.f (.le (1,0,112,0) (1,0,111,0) (0)),.f (.le (1,4,3000,0) (2,3,0,0) (0)),.f (.le (2,3,0,0) (1,4,3000,0) (0)),.f (.le (2,3,0,1) zT (-200000000)),.f (.le (2,2,5,4) (1,0,112,0) (0)),.f (.le (2,2,5,1) zT (-100000000)),.f (.le (2,2,5,2) zT (-100000000)),.f (.le (2,2,5,3) zT (-100000000))],alts:=[],p:=((1,0,111,0),0),q:=((1,0,112,0),0) }]
def cShown:Ctr:={ f:=66,args:=[.c (.st cCol)],res:=.val tI,dd:=[(0,[],[],[[],[2]]),(1,[],[],[[],[3]]),(2,[],[],[[],[6]]),(3,[5],[],[[],[7]]),(4,[4,5],[],[[1],[8],[9]]),(5,[1,5],[1],[[],[11]]),(6,[10],[],[[],[12]]),(7,[4,10],[],[]),(8,[10],[],[[4],[14]]),(9,[13],[],[]),(10,[13],[],[])] }
def lShown:List LA:=[]
def cGrp1:Ctr:={ f:=99,args:=[.c (.st cOut)],res:=.val .bool,dd:=[(0,[],[],[[],[2]]),(1,[],[],[[1],[3],[4],[5]])] }
def lGrp1:List LA:=[]
def cIxOut:Ctr:={ f:=139,args:=[.c (.lst (.st cOut) bL),.clo 99 []],res:=.val tI,dd:=[(0,[],[],[[4]]),(1,[],[],[[],[6]]),(3,[9],[],[[],[10]]),(4,[],[],[[],[],[],[12,13],[14],[11,15]]),(5,[7,8,16],[],[[5],[17]]),(6,[5,16],[],[[8],[18]]),(7,[7,8,9],[],[])] }
def lIxOut:List LA:=[{ key:=2,drop:=[9,10,5,11,12,13,14,15,16,17,4,18,8],slots:=[],dropH:=[],boxes:=[],facts:=[.f (.le zT (1,0,8,0) (0)),.f (.le (1,0,8,0) (1,0,7,0) (0))],alts:=[],p:=((1,0,7,0),0),q:=((1,0,8,0),0) }]
def cCoOut:Ctr:={ f:=98,args:=[.c (.lst (.st cOut) bL),.clo 99 []],res:=.val .bool,dd:=[(0,[],[],[[4]]),(1,[],[],[[],[],[5,6],[7],[8]])] }
def lCoOut:List LA:=[]
def cGrouped:Ctr:={ f:=70,args:=[.c (.st cQry)],res:=.val .bool,dd:=[(0,[],[],[[],[2]]),(1,[],[],[[],[3],[4],[5],[6],[1],[8],[9],[7,10],[11]])] }
def lGrouped:List LA:=[]
def cERight:Ctr:={ f:=123,args:=[.c (.st cVal)],res:=.val .bool,dd:=[(0,[],[],[[],[2]]),(1,[],[],[[],[3]]),(2,[],[],[[],[6]]),(3,[4,5],[],[[1],[],[7,8],[9]]),(4,[5],[],[[],[11]]),(5,[4,10],[],[[],[12],[13],[14],[],[16],[17],[15,18],[19],[1],[21],[22],[20,23],[24]]),(6,[10],[],[[4],[26]]),(7,[25],[],[[],[27],[28],[29],[1],[31],[32],[33],[30,34],[35]]),(8,[1,25],[1],[])] }
def lERight:List LA:=[]
def cEKinds:Ctr:={ f:=97,args:=[],res:=.map (.st [tI,.bool,.any]) false }
def cDeep:Ctr:={ f:=94,args:=[.c (.nm 0),.c tI],res:=.val .bool,dd:=[(0,[],[],[[],[4]]),(1,[],[],[[],[7]]),(2,[2,8],[2],[]),(3,[8],[],[[2],[9]]),(5,[13],[],[[],[14],[],[15]]),(6,[],[],[[6],[],[17],[16,18]]),(7,[10,11,12,19],[],[]),(8,[19],[],[[12],[20]]),(9,[10,11,12,13],[],[])] }
def lDeep:List LA:=[{ key:=4,drop:=[13,14,15,6,16,17,18,19,4,20,12],slots:=[],dropH:=[],boxes:=[],facts:=[.f (.le zT (1,0,12,0) (0)),.f (.le (1,0,12,0) (1,0,11,0) (0))],alts:=[],p:=((1,0,11,0),0),q:=((1,0,12,0),0) }]
def cFormed:Ctr:={ f:=95,args:=[.c (.nm 0)],res:=.val .bool,dd:=[(0,[],[],[[],[2]]),(1,[],[],[[],[],[9],[8,10],[11],[],[7],[],[12],[13]]),(2,[],[],[[],[15],[16],[17]]),(3,[3,4,14],[3],[[],[18],[19],[20],[],[22],[],[23,24],[21,25],[26],[1],[28],[29],[30],[27,31],[32]]),(4,[14],[],[[],[34],[35],[36]]),(5,[3,4,33],[3],[[],[37],[38],[39],[],[41],[42],[40,43],[44],[1],[46],[47],[48],[45,49],[50]]),(6,[33],[],[[4],[52],[53],[],[55],[56],[54,57],[58],[],[60],[],[61,62],[59,63],[64],[],[66],[67],[3],[69],[68,70],[65,71],[72]]),(7,[1,51],[1],[]),(8,[51],[],[[1],[73]]),(10,[77],[],[[],[78],[],[79]]),(11,[],[],[[6],[80],[81]]),(12,[74,75,76,82],[],[]),(13,[82],[],[[76],[83]]),(14,[74,75,76,77],[],[])] }
def lFormed:List LA:=[{ key:=9,drop:=[77,78,79,6,80,81,82,2,83,76],slots:=[],dropH:=[],boxes:=[],facts:=[.f (.le zT (1,0,76,0) (0)),.f (.le (1,0,76,0) (1,0,75,0) (0))],alts:=[],p:=((1,0,75,0),0),q:=((1,0,76,0),0) }]
def cThere:Ctr:={ f:=68,args:=[.c (.nm 0),.c tI],res:=.val .bool,dd:=[(0,[],[],[[],[4]]),(1,[],[],[[],[7]]),(3,[11],[],[[],[12],[],[13]]),(4,[],[],[[6],[],[14,15],[16]]),(5,[2,8,9,10,17],[2],[]),(6,[17],[],[[10],[18]]),(7,[8,9,10,11],[],[[],[19],[20],[21],[2],[23],[],[24,25],[22,26],[27]])] }
def lThere:List LA:=[{ key:=2,drop:=[11,12,13,6,14,15,16,17,4,18,10],slots:=[],dropH:=[],boxes:=[],facts:=[.f (.le zT (1,0,10,0) (0)),.f (.le (1,0,10,0) (1,0,9,0) (0))],alts:=[],p:=((1,0,9,0),0),q:=((1,0,10,0),0) }]
def cTogether:Ctr:={ f:=96,args:=[.c (.st [tI,.bool,.any]),.c (.lst tI bL)],res:=.val .bool,dd:=[(0,[],[],[[],[4]]),(4,[11],[],[[],[12],[13]]),(5,[],[],[[],[14],[15],[],[17],[16,18],[19],[],[21],[20,22],[23],[],[25],[26],[],[28],[27,29],[30],[],[],[32,33],[31,34],[24,35]]),(6,[2,5,7,8,9,10,36],[2],[]),(7,[36],[],[[],[37]]),(8,[5,38],[],[[7],[39]]),(9,[7,38],[],[[10],[40]]),(10,[2,5,8,9,10,11],[2],[])] }
def lTogether:List LA:=[{ key:=3,drop:=[11,12,13,7,14,15,16,17,18,19,20,21,22,23,24,25,26,27,28,29,30,31,32,33,34,35,36,4,37,38,39,5,40,10],slots:=[],dropH:=[],boxes:=[],facts:=[.f (.le zT (1,0,10,0) (0)),.f (.le (1,0,10,0) (1,0,9,0) (0))],alts:=[],p:=((1,0,9,0),0),q:=((1,0,10,0),0) }]
def cEqX:Ctr:={ f:=101,args:=[.c (.lst (.nm 0) bL),.c (.lst (.nm 0) bL),.clo 73 []],res:=.val .bool,dd:=[(0,[],[],[[6]]),(1,[],[],[[],[10],[],[12],[11,13]]),(2,[14],[],[]),(3,[14],[],[]),(5,[18],[],[[],[],[20],[],[19],[21]]),(6,[],[],[[],[7],[22,23],[24],[],[25]]),(7,[],[],[[],[8],[9],[26,27,28],[29]]),(8,[15,16,17,30],[],[]),(9,[30],[],[[17],[31]]),(10,[15,16,17,18],[],[])] }
def lEqX:List LA:=[{ key:=4,drop:=[18,19,20,21,8,7,22,23,24,25,9,26,27,28,29,30,6,31,17],slots:=[],dropH:=[],boxes:=[],facts:=[.f (.le zT (1,0,17,0) (0)),.f (.le (1,0,17,0) (1,0,16,0) (0))],alts:=[],p:=((1,0,16,0),0),q:=((1,0,17,0),0) }]
def cSame:Ctr:={ f:=73,args:=[.c (.nm 0),.c (.nm 0)],res:=.val .bool,dd:=[(0,[],[],[[],[],[4]]),(1,[],[],[[],[5],[],[7],[6,8],[9],[],[11],[],[13],[12,14],[10,15],[16],[],[18],[],[20],[19,21],[17,22],[23],[2],[25],[3],[27],[26,28],[24,29],[30]])] }
def lSame:List LA:=[]
def cOut1:Ctr:={ f:=72,args:=[.c (.nm 0),.bp (false,0) 0],pars:=[[.c (.int .i64),.c tI,.c tI,.c tI,.c tI,.c (.str bS),.c (.lst (.nm 1000) bL)]],res:=.val .bool,dd:=[(0,[],[],[[],[3]]),(1,[],[],[[2],[],[5],[4,6],[7]])] }
def lOut1:List LA:=[]
def cIxX:Ctr:={ f:=100,args:=[.c (.lst (.nm 0) bL),.clo 72 [.bp (false,0) 0]],pars:=[[.c (.int .i64),.c tI,.c tI,.c tI,.c tI,.c (.str bS),.c (.lst (.nm 1000) bL)]],res:=.val tI,dd:=[(0,[],[],[[4]]),(1,[],[],[[],[6]]),(3,[9],[],[[],[10]]),(4,[],[],[[],[],[],[12,13],[14],[11,15]]),(5,[7,8,16],[],[[5],[17]]),(6,[5,16],[],[[8],[18]]),(7,[7,8,9],[],[])] }
def lIxX:List LA:=[{ key:=2,drop:=[9,10,5,11,12,13,14,15,16,17,4,18,8],slots:=[],dropH:=[],boxes:=[],facts:=[.f (.le zT (1,0,8,0) (0)),.f (.le (1,0,8,0) (1,0,7,0) (0))],alts:=[],p:=((1,0,7,0),0),q:=((1,0,8,0),0) }]
def cCoX:Ctr:={ f:=71,args:=[.c (.lst (.nm 0) bL),.clo 72 [.bp (false,0) 0]],pars:=[[.c (.int .i64),.c tI,.c tI,.c tI,.c tI,.c (.str bS),.c (.lst (.nm 1000) bL)]],res:=.val .bool,dd:=[(0,[],[],[[4]]),(1,[],[],[[],[],[5,6],[7],[8]])] }
def lCoX:List LA:=[]
def cPPeek:Ctr:={ f:=62,args:=[.bp (false,0) 0],pars:=[[.c (.lst (.nm 550) bL),.c .bool]],res:=.val (.st cWord),post:=[.impi (6,0,0) (3) (.le zT (2,6,1,0) (2)),.f (.le zT (1,6,0,0) (0)),.impl (.le zT (1,6,0,0) (1)) (.le zT (2,3,0,0) (1)),.impl (.le zT (2,3,0,0) (1)) (.le zT (1,6,0,0) (1))],dd:=[(1,[],[],[[],[3],[4],[5],[6],[7]]),(2,[8],[],[[],[9]]),(3,[8],[],[[],[10],[11],[12],[13],[14],[15]])] }
def lPPeek:List LA:=[]
def cPNext:Ctr:={ f:=63,args:=[.bp (false,0) 0],pars:=[[.c (.lst (.nm 550) bL),.c .bool]],res:=.val (.st cWord),post:=[.impi (6,0,0) (3) (.le zT (2,6,1,0) (2)),.f (.le zT (1,6,0,0) (0)),.impl (.le zT (2,3,0,0) (1)) (.le (2,7,0,0) (2,3,0,0) (1)),.f (.le (2,7,0,0) (2,3,0,0) (0))],ws:=[(0,[.c (.lst (.nm 550) bL),.c .bool])],dd:=[(1,[],[],[[],[4],[],[5]]),(2,[],[],[[],[6],[7]]),(3,[8],[],[[],[9],[10],[11]]),(4,[],[],[[3],[12]]),(5,[8],[],[[],[],[14],[15],[16],[17],[13],[19],[18,20]]),(6,[],[],[[3],[21]])] }
def lPNext:List LA:=[]
def cPTake:Ctr:={ f:=25,args:=[.bp (false,0) 0,.c (.str bS)],pars:=[[.c (.lst (.nm 550) bL),.c .bool]],res:=.val .bool,post:=[.imp (5,0,0) true (.le (2,7,0,0) (2,3,0,0) (1)),.f (.le (2,7,0,0) (2,3,0,0) (0))],ws:=[(0,[.c (.lst (.nm 550) bL),.c .bool])],dd:=[(0,[],[],[[4]]),(1,[],[],[[],[6],[],[7]]),(2,[],[],[[],[8],[],[9,10],[11],[],[13],[14],[15],[5],[17],[18],[16,19],[12,20]]),(3,[21],[],[]),(4,[21],[],[[],[22,23]])] }
def lPTake:List LA:=[]
def cPNeed:Ctr:={ f:=46,args:=[.bp (false,0) 0,.c (.lst (.str bS) bL)],pars:=[[.c (.lst (.nm 550) bL),.c .bool]],res:=.tup [],post:=[.f (.le (2,7,0,0) (2,3,0,0) (0))],ws:=[(0,[.c (.lst (.nm 550) bL),.c .bool])],dd:=[(2,[9],[],[[],[10],[11]]),(3,[],[],[[],[5],[12,13],[14]]),(4,[15],[],[[],[16],[17],[18]]),(5,[15],[],[[8],[19]])] }
def lPNeed:List LA:=[{ key:=1,drop:=[9,10,11,5,12,13,14,15,16,17,18,19,8],slots:=[],dropH:=[(false,0)],boxes:=[((false,0),[.c (.lst (.nm 550) bL),.c .bool])],facts:=[.f (.le zT (1,0,8,0) (0)),.f (.le (1,0,8,0) (1,0,7,0) (0)),.f (.le (2,3,0,0) (1,4,2001,0) (0))],alts:=[],p:=((1,0,7,0),0),q:=((1,0,8,0),0) }]
def cPName:Ctr:={ f:=48,args:=[.bp (false,0) 0],pars:=[[.c (.lst (.nm 550) bL),.c .bool]],res:=.val (.str bS),post:=[.f (.le (2,7,0,0) (2,3,0,0) (0))],ws:=[(0,[.c (.lst (.nm 550) bL),.c .bool])],dd:=[(0,[],[],[[2]]),(1,[],[],[[],[4],[],[5]]),(2,[],[],[[],[],[7],[8],[9],[10],[],[12],[13],[11,14],[6],[16],[15,17]]),(3,[],[],[[3],[18],[19]])] }
def lPName:List LA:=[]
def cPDone:Ctr:={ f:=22,args:=[.bp (false,0) 0],pars:=[[.c (.lst (.nm 550) bL),.c .bool]],res:=.val .bool,dd:=[(0,[],[],[[2]]),(1,[],[],[[],[3],[4],[5],[6],[7],[],[9],[10],[11],[12],[13],[8,14],[15]])] }
def lPDone:List LA:=[]
def cAtoi:Ctr:={ f:=88,args:=[.c (.str bW)],res:=.tup [tI,.opq 50],post:=[.f (.le zT (1,6,0,0) (-9223372036854775808)),.f (.le (1,6,0,0) zT (-9223372036854775807))] }
def cItoa:Ctr:={ f:=82,args:=[.c tI],pre:=[.f (.le zT (1,0,0,0) (-9223372036854775808)),.f (.le (1,0,0,0) zT (-9223372036854775807))],res:=.val (.str 30) }
def cRepl:Ctr:={ f:=91,args:=[.c (.str bW),.c (.lit [39,39]),.c (.lit [39])],res:=.val (.str bW) }
def cOprs:Ctr:={ f:=105,args:=[],res:=.map tI true }
def cAggs:Ctr:={ f:=81,args:=[],res:=.map tI true }
def cVerbs:Ctr:={ f:=58,args:=[],res:=.map tI true }
def cPNum:Ctr:={ f:=52,args:=[.bp (false,0) 0],pars:=[[.c (.lst (.nm 550) bL),.c .bool]],res:=.val tI,post:=[.f (.le (2,7,0,0) (2,3,0,0) (0))],ws:=[(0,[.c (.lst (.nm 550) bL),.c .bool])],dd:=[(0,[],[],[[2]]),(1,[],[],[[],[6],[],[7]]),(2,[],[],[[],[9],[10],[11],[],[8],[12],[13]]),(3,[],[],[[],[14],[15],[16],[5],[18],[17,19],[20],[],[22],[21,23],[24],[],[26],[3],[28],[27,29],[25,30]]),(4,[4,31],[],[[],[32],[33],[34]]),(6,[31],[],[[4],[35]])] }
def lPNum:List LA:=[]
def cPText:Ctr:={ f:=60,args:=[.bp (false,0) 0],pars:=[[.c (.lst (.nm 550) bL),.c .bool]],res:=.val (.st cVal),post:=[.f (.le (2,7,0,0) (2,3,0,0) (0))],ws:=[(0,[.c (.lst (.nm 550) bL),.c .bool])],dd:=[(1,[],[],[[],[4],[],[5]]),(2,[],[],[[],[6],[7]]),(3,[3,8],[3],[[],[9],[10],[11]]),(4,[],[],[[],[12]]),(5,[8],[],[[],[13],[3],[15],[16],[17],[14,18],[19],[20],[21]])] }
def lPText:List LA:=[]
def cPLit:Ctr:={ f:=59,args:=[.bp (false,0) 0],pars:=[[.c (.lst (.nm 550) bL),.c .bool]],res:=.val (.st cVal),post:=[.f (.le (2,7,0,0) (2,3,0,0) (0))],ws:=[(0,[.c (.lst (.nm 550) bL),.c .bool])],dd:=[(1,[],[],[[],[4],[5]]),(2,[3],[],[[],[6]]),(3,[3],[],[[],[8],[9],[10],[11]]),(4,[7],[],[[],[12],[13]]),(5,[7],[],[[],[15],[16]]),(6,[14],[],[[],[17],[18],[19],[20]]),(7,[14],[],[[],[21],[22],[23]])] }
def lPLit:List LA:=[]
def cPCol:Ctr:={ f:=49,args:=[.bp (false,0) 0],pars:=[[.c (.lst (.nm 550) bL),.c .bool]],res:=.val (.st [tI,.str bS]),post:=[.f (.le (2,7,0,0) (2,3,0,0) (0))],ws:=[(0,[.c (.lst (.nm 550) bL),.c .bool])],dd:=[(1,[],[],[[],[4],[5]]),(2,[],[],[[],[],[6,7,8]]),(3,[],[],[[3],[],[10],[9,11],[12]])] }
def lPCol:List LA:=[]
def cPExpr:Ctr:={ f:=87,args:=[.bp (false,0) 0],pars:=[[.c (.lst (.nm 550) bL),.c .bool]],pre:=[.f (.le (2,3,0,0) (1,4,3002,0) (0))],res:=.val (.opq 0),post:=[.f (.le (2,7,0,0) (2,3,0,0) (0))],ws:=[(0,[.c (.lst (.nm 550) bL),.c .bool])],dd:=[(0,[],[],[[2]]),(1,[],[],[[],[9],[10]]),(2,[11],[],[[],[12],[13],[14],[15],[],[17],[18],[19],[20],[21],[16,22],[23],[],[25],[26],[27],[28],[29],[30],[31],[24,32]]),(3,[33],[],[[],[34],[35],[36]]),(4,[33],[],[[],[37],[38],[39],[40]]),(5,[11],[],[[],[41]]),(6,[42],[],[[],[43],[44]]),(7,[],[],[[],[],[45,46,47]]),(8,[],[],[[3],[48],[49],[50],[51]]),(9,[42],[],[[],[52],[53]]),(10,[],[],[[],[54]]),(11,[55],[],[[],[],[56,57,58]]),(12,[],[],[[4],[59],[60],[61],[62]]),(13,[55],[],[[],[63],[],[64]]),(14,[],[],[[],[],[67],[66,68],[69],[],[65],[70],[71]]),(15,[],[],[[7],[72],[73],[5],[75],[76],[74,77],[78],[],[80],[81],[82],[79,83]]),(16,[6,84],[],[[],[85],[86],[87]]),(17,[],[],[[4],[88]]),(18,[84],[],[[],[89],[90]]),(19,[],[],[[],[],[91,92,93]]),(20,[],[],[[6],[4],[8],[95,96],[94,97],[98],[99]])] }
def lPExpr:List LA:=[]
def cPExprs:Ctr:={ f:=50,args:=[.bp (false,0) 0,.c (.str bS)],pars:=[[.c (.lst (.nm 550) bL),.c .bool]],pre:=[.f (.le (2,3,0,0) (1,4,3002,0) (0)),.f (.le (2,3,0,0) zT (-4000))],res:=.lst (.opq 0) bL,post:=[.f (.le (2,7,0,0) (2,3,0,0) (0))],ws:=[(0,[.c (.lst (.nm 550) bL),.c .bool])],dd:=[(0,[],[],[[4]]),(1,[],[],[[],[6],[7],[8]]),(2,[],[],[[],[9],[10],[11],[12],[13],[],[],[15,16],[14,17]]),(3,[18],[],[[5],[],[20],[21],[19,22],[23]]),(4,[18],[],[[5],[24]])] }
def lPExprs:List LA:=[{ key:=2,drop:=[9,10,11,12,13,14,15,16,17,18,19,20,21,22,23,5],slots:=[(5,.own (true,8) (.opq 0)),(8,.any)],dropH:=[(false,0)],boxes:=[((false,0),[.c (.lst (.nm 550) bL),.c .bool])],facts:=[.f (.le (2,3,0,0) (1,4,3002,0) (0)),.f (.le (2,3,0,0) (1,4,2001,0) (0)),.f (.le (2,3,0,0) zT (-4000)),.f (.le (2,0,5,0) (3,3,0,0) (-4001)),.f (.le (2,0,5,0) zT (-4001)),.f (.le zT (2,0,5,0) (1))],alts:=[([(5,.own (true,8) (.opq 0)),(8,.any)],[((false,0),[.c (.lst (.nm 550) bL),.c .bool])],[]),([(5,.own (true,23) (.opq 0)),(8,.any)],[((false,0),[.c (.lst (.nm 550) bL),.c .bool])],[])],p:=((2,3,0,0),0),q:=(zT,0) }]
def cPOut:Ctr:={ f:=47,args:=[.bp (false,0) 0,.bp (false,1) 0],pars:=[[.c (.lst (.nm 550) bL),.c .bool],[.own (false,1064) tI,.own (false,1065) (.opq 0),.was 1 2,.was 1 3,.was 1 4,.was 1 5,.was 1 6,.was 1 7]],pre:=[.f (.le (2,3,0,0) (1,4,3002,0) (0)),.f (.le (2,3,1,0) zT (-5000)),.f (.le (2,3,1,1) zT (-5000))],res:=.tup [],post:=[.f (.le (2,7,0,0) (2,3,0,0) (0)),.f (.le (2,7,0,1) (2,3,1,0) (-1)),.f (.le (2,3,1,0) (2,7,0,1) (1)),.f (.le (2,7,1,1) (2,3,1,1) (-1)),.f (.le (2,3,1,1) (2,7,1,1) (1))],ws:=[(0,[.c (.lst (.nm 550) bL),.c .bool]),(1,[.own (false,1064) tI,.own (false,1065) (.opq 0),.was 1 2,.was 1 3,.was 1 4,.was 1 5,.was 1 6,.was 1 7])],ads:=[(1,0),(1,1)] }
def lPOut:List LA:=[]
def cPOrd:Ctr:={ f:=51,args:=[.bp (false,0) 0,.bp (false,1) 0],pars:=[[.c (.lst (.nm 550) bL),.c .bool],[.was 1 0,.was 1 1,.was 1 2,.was 1 3,.was 1 4,.was 1 5,.own (false,1070) tI,.was 1 7]],pre:=[.f (.le (2,3,1,6) zT (-5000))],res:=.tup [],post:=[.f (.le (2,7,0,0) (2,3,0,0) (0)),.f (.le (2,7,6,1) (2,3,1,6) (-1)),.f (.le (2,3,1,6) (2,7,6,1) (1))],ws:=[(0,[.c (.lst (.nm 550) bL),.c .bool]),(1,[.was 1 0,.was 1 1,.was 1 2,.was 1 3,.was 1 4,.was 1 5,.own (false,1070) tI,.was 1 7])],ads:=[(1,6)],dd:=[(0,[],[],[[],[5],[6]]),(1,[],[],[[],[],[8],[9],[10],[11],[],[13],[12,14],[7],[16],[15,17]]),(2,[],[],[[],[18]]),(3,[19],[],[[],[],[21],[22],[23],[4],[25],[26],[24,27],[20],[29],[28,30]]),(4,[19],[],[[],[],[32],[33],[34],[4],[36],[37],[35,38],[31],[40],[39,41]])] }
def lPOrd:List LA:=[]
def cPQuery:Ctr:={ f:=21,args:=[.bp (false,0) 0],pars:=[[.c (.lst (.nm 550) bL),.c .bool]],pre:=[.f (.le (2,3,0,0) (1,4,3002,0) (0)),.f (.le (2,3,0,0) zT (-4000))],res:=.val (.st cAsk),post:=[.f (.le (2,7,0,0) (2,3,0,0) (0)),.f (.le (2,6,1,0) (2,6,0,0) (0))],ws:=[(0,[.c (.lst (.nm 550) bL),.c .bool])],dd:=[(1,[],[],[[],[],[5]]),(2,[],[],[[],[],[6,7,8]]),(3,[],[],[[],[9,10]]),(4,[],[],[[],[11],[12],[13],[14],[15],[],[17],[16,18]]),(5,[19],[],[[],[20,21]]),(6,[19],[],[[],[],[22,23,24]]),(7,[],[],[[],[25],[],[26,27]]),(8,[],[],[[],[28],[29],[30],[31],[32],[],[34],[33,35]]),(9,[36],[],[[],[37],[38],[],[39]]),(10,[],[],[[],[],[40,41,42]]),(11,[],[],[[],[43],[],[44,45]]),(12,[],[],[[],[],[46,47,48]]),(13,[],[],[[],[49],[],[50,51]]),(14,[],[],[[],[52],[4],[54],[53,55],[],[56,57]]),(15,[36],[],[[],[58]]),(16,[59],[],[[],[60],[],[61,62]]),(17,[59],[],[[],[63]]),(18,[64],[],[[],[],[65,66,67]]),(19,[],[],[[],[68],[],[69,70]]),(20,[64],[],[[],[71]]),(21,[72],[],[[],[],[73,74,75]]),(22,[],[],[[],[76,77]]),(23,[],[],[[],[78],[79],[80],[81],[82],[],[84],[83,85]]),(24,[86],[],[[],[87,88]]),(25,[72,86],[],[[],[89]]),(26,[90],[],[[],[91],[],[92,93]]),(27,[90],[],[[3],[94]])] }
def lPQuery:List LA:=[{ key:=4,drop:=[11,12,13,14,15,16,17,18,19,20,21],slots:=[],dropH:=[(false,0),(true,3)],boxes:=[((false,0),[.c (.lst (.nm 550) bL),.c .bool]),((true,3),[.own (true,1000192) tI,.own (true,1000193) (.opq 0),.c (.str bS),.nilv,.nilv,.nilv,.nilv,.c tI])],facts:=[.f (.le (2,3,0,0) (1,4,3002,0) (0)),.f (.le (2,3,0,0) zT (-4000)),.f (.le (2,3,0,0) (1,4,2001,0) (0)),.f (.le (2,2,3,0) (3,3,0,0) (-4001)),.f (.le (2,2,3,0) zT (-4001)),.f (.le (2,2,3,0) (2,2,3,1) (0)),.f (.le (2,2,3,1) (2,2,3,0) (0)),.f (.le (2,2,3,3) zT (0)),.f (.le (2,2,3,4) zT (0)),.f (.le (2,2,3,5) zT (0)),.f (.le (2,2,3,6) zT (0))],alts:=[],p:=((2,3,0,0),0),q:=(zT,0) },{ key:=8,drop:=[28,29,30,31,32,33,34,35,36,37,38,39,4,40,41,42,43,44,45,46,47,48,49,50,51,52,53,54,55,56,57],slots:=[],dropH:=[(false,0),(true,3)],boxes:=[((false,0),[.c (.lst (.nm 550) bL),.c .bool]),((true,3),[.own (true,1000192) tI,.own (true,1000193) (.opq 0),.c (.str bS),.own (true,56) (.st [.str bS,tI,.str bS,.str bS]),.nilv,.nilv,.nilv,.c tI])],facts:=[.f (.le (2,3,0,0) (1,4,3002,0) (0)),.f (.le (2,3,0,0) zT (-4000)),.f (.le (2,3,0,0) (1,4,2001,0) (0)),.f (.le (2,2,3,3) (3,3,0,0) (-4001)),.f (.le (2,2,3,3) zT (-4001)),.f (.le (2,2,3,0) zT (-4001)),.f (.le (2,2,3,0) (2,2,3,1) (0)),.f (.le (2,2,3,1) (2,2,3,0) (0)),.f (.le (2,2,3,4) zT (0)),.f (.le (2,2,3,5) zT (0)),.f (.le (2,2,3,6) zT (0))],alts:=[],p:=((2,3,0,0),0),q:=(zT,0) },{ key:=23,drop:=[78,79,80,81,82,83,84,85,86,87,88],slots:=[],dropH:=[(false,0),(true,3)],boxes:=[((false,0),[.c (.lst (.nm 550) bL),.c .bool]),((true,3),[.own (true,1000192) tI,.own (true,1000193) (.opq 0),.c (.str bS),.own (true,56) (.st [.str bS,tI,.str bS,.str bS]),.rl (true,61) (.opq 0),.rl (true,69) (.opq 0),.own (true,1000198) tI,.c tI])],facts:=[.f (.le (2,3,0,0) (1,4,3002,0) (0)),.f (.le (2,3,0,0) zT (-4000)),.f (.le (2,3,0,0) (1,4,2001,0) (0)),.f (.le (2,2,3,6) (3,3,0,0) (-4001)),.f (.le (2,2,3,6) zT (-4001)),.f (.le (2,2,3,3) zT (-4001)),.f (.le (2,2,3,0) zT (-4001)),.f (.le (2,2,3,0) (2,2,3,1) (0)),.f (.le (2,2,3,1) (2,2,3,0) (0)),.f (.le (2,2,3,4) zT (-100000000)),.f (.le (2,2,3,5) zT (-100000000))],alts:=[],p:=((2,3,0,0),0),q:=(zT,0) }]
def cPBehind:Ctr:={ f:=61,args:=[.bp (false,0) 0,.bp (false,1) 0],pars:=[[.c (.lst (.nm 550) bL),.c .bool],[.was 1 0,.was 1 1,.was 1 2,.was 1 3,.was 1 4,.was 1 5,.was 1 6,.was 1 7,.was 1 8,.was 1 9,.was 1 10,.was 1 11,.was 1 12]],res:=.tup [],post:=[.f (.le (2,7,0,0) (2,3,0,0) (0))],ws:=[(0,[.c (.lst (.nm 550) bL),.c .bool]),(1,[.was 1 0,.was 1 1,.was 1 2,.was 1 3,.was 1 4,.was 1 5,.was 1 6,.was 1 7,.c tI,.c tI,.c tI,.was 1 11,.was 1 12])],dd:=[(0,[],[],[[],[],[5],[4],[7],[8],[6,9]]),(1,[],[],[[],[],[11],[10],[13],[14],[12,15]]),(2,[],[],[[],[],[17],[16],[19],[18,20]])] }
def lPBehind:List LA:=[]
def cPDeed:Ctr:={ f:=24,args:=[.bp (false,0) 0],pars:=[[.c (.lst (.nm 550) bL),.c .bool]],pre:=[.f (.le (2,3,0,0) zT (-4000))],res:=.val (.st cDeed),post:=[.f (.le (2,7,0,0) (2,3,0,0) (0))],ws:=[(0,[.c (.lst (.nm 550) bL),.c .bool])],dd:=[(1,[],[],[[],[],[8],[7,9],[10],[],[6],[11],[12]]),(2,[],[],[[],[],[14],[15],[16],[17],[4],[19],[18,20],[13],[22],[21,23]]),(3,[],[],[[],[24],[],[26],[25,27],[],[28]]),(4,[],[],[[],[29]]),(5,[3,30],[],[[],[],[31,32,33]]),(6,[],[],[[],[34],[35],[],[37],[38],[36,39],[],[41],[40,42]]),(7,[],[],[[],[43],[44],[45],[46],[47],[],[49],[48,50]]),(8,[51],[],[[],[52],[53],[],[55],[56],[54,57],[],[59],[58,60]]),(9,[51],[],[[],[],[61,62,63]]),(10,[],[],[[5],[64]]),(11,[30],[],[[],[65],[],[67],[66,68]]),(12,[],[],[[],[69]]),(13,[70],[],[[],[71],[],[72,73]]),(14,[70],[],[[3]]),(15,[],[],[[],[76]]),(16,[75],[],[[],[77]]),(17,[75],[],[[],[78]]),(18,[75],[],[[],[79]]),(19,[74,75],[],[[],[80],[],[82],[81,83]]),(20,[75],[],[[],[85]]),(21,[74,84],[],[[],[86],[],[88],[87,89]]),(22,[],[],[[],[90]]),(23,[91],[],[[],[],[92,93,94]]),(24,[84],[],[[74],[96]]),(25,[95],[],[[],[],[97,98,99]]),(26,[91,95],[],[[5],[100]])] }
def lPDeed:List LA:=[{ key:=7,drop:=[43,44,45,46,47,48,49,50,51,52,53,54,55,56,57,58,59,60],slots:=[(40,.any)],dropH:=[(false,0),(true,5)],boxes:=[((false,0),[.c (.lst (.nm 550) bL),.c .bool]),((true,5),[.c tI,.c tI,.c tI,.c tI,.own (true,40) (.st cVal),.c tI,.c tI,.c (.str bS),.c tI,.c tI,.c tI,.c (.str bS),.c (.str bS)])],facts:=[.f (.le (2,3,0,0) zT (-4000)),.f (.le (2,3,0,0) (1,4,2001,0) (0)),.f (.le (2,2,5,4) (3,3,0,0) (-4001)),.f (.le (2,2,5,4) zT (-4001))],alts:=[([(40,.any)],[((false,0),[.c (.lst (.nm 550) bL),.c .bool]),((true,5),[.c tI,.c tI,.c tI,.c tI,.own (true,40) (.st cVal),.c tI,.c tI,.c (.str bS),.c tI,.c tI,.c tI,.c (.str bS),.c (.str bS)])],[]),([(40,.any)],[((false,0),[.c (.lst (.nm 550) bL),.c .bool]),((true,5),[.c tI,.c tI,.c tI,.c tI,.own (true,58) (.st cVal),.c tI,.c tI,.c (.str bS),.c tI,.c tI,.c tI,.c (.str bS),.c (.str bS)])],[])],p:=((2,3,0,0),0),q:=(zT,0) }]
def cDPlace:Ctr:={ f:=26,args:=[.c (.st cDeed),.c tSch],res:=.tup [.st cOp,.bool],dd:=[(0,[],[],[[],[],[],[5]]),(1,[],[],[[],[],[10],[9,11],[12],[],[8],[13],[14]]),(2,[],[],[[],[15]]),(3,[2,3,6,7,16],[2,3],[[],[17]]),(4,[16],[],[[],[],[19],[18,20]]),(5,[],[],[[],[21],[22]]),(6,[7,23],[],[[3],[25],[6],[26,27],[28],[],[30],[29,31],[32],[],[24],[],[35],[33,36],[34]]),(7,[3,6,23],[3],[[2],[37],[7],[38],[39]])] }
def lDPlace:List LA:=[]
def cFormA:Ctr:={ f:=95,args:=[.c (.nm 500)],res:=.val .bool }
def cFormY:Ctr:={ f:=95,args:=[.c (.nm 561)],res:=.val .bool,post:=[.f (.isb (5,0,0) false)] }
def cFormB:Ctr:={ f:=95,args:=[.c (.nm 560)],res:=.val .bool,post:=[.f (.isb (5,0,0) false)] }
def lFormB:List LA:=[{ key:=9,drop:=[77,78,79,6,80,81,82,2,83,76],slots:=[],dropH:=[],boxes:=[],facts:=[.f (.le zT (1,0,76,0) (0)),.f (.le (1,0,76,0) (1,0,75,0) (0)),.f (.le (1,0,76,0) (1,4,3003,0) (0))],alts:=[],p:=((1,0,75,0),0),q:=((1,0,76,0),0) }]
def cFormN:Ctr:={ f:=95,args:=[.c (.nm 500)],pre:=[.f (.le (1,1,0,0) zT (0)),.f (.le zT (1,1,0,0) (0)),.f (.le (1,1,0,1) zT (1))],res:=.val .bool,post:=[.f (.isb (5,0,0) false)],dd:=[(0,[],[],[[],[2]]),(1,[],[],[[],[],[9],[8,10],[11],[],[7],[],[12],[13]]),(2,[],[],[[],[15],[16],[17]]),(3,[3,4,14],[3],[[],[18],[19],[20],[],[22],[],[23,24],[21,25],[26],[1],[28],[29],[30],[27,31],[32]]),(4,[14],[],[[],[34],[35],[36]]),(5,[3,4,33],[3],[[],[37],[38],[39],[],[41],[42],[40,43],[44],[1],[46],[47],[48],[45,49],[50]]),(6,[33],[],[[4],[52],[53],[],[55],[56],[54,57],[58],[],[60],[],[61,62],[59,63],[64],[],[66],[67],[3],[69],[68,70],[65,71],[72]]),(7,[1,51],[1],[]),(8,[51],[],[[1],[73]]),(10,[77],[],[[],[78],[],[79]]),(11,[],[],[[6],[80],[81]]),(12,[74,75,76,82],[],[]),(13,[82],[],[[76],[83]]),(14,[74,75,76,77],[],[])] }
def lFormN:List LA:=[{ key:=9,drop:=[77,78,79,6,80,81,82,2,83,76],slots:=[],dropH:=[],boxes:=[],facts:=[.f (.le zT (1,0,76,0) (0)),.f (.le (1,0,76,0) (1,0,75,0) (0))],alts:=[],p:=((1,0,75,0),0),q:=((1,0,76,0),0) }]
def cThereA:Ctr:={ f:=68,args:=[.c (.nm 500),.c tI],res:=.val .bool }
def cThereY:Ctr:={ f:=68,args:=[.c (.nm 563),.c tI],pre:=[.f (.le (1,0,1,0) (1,4,3001,0) (0)),.f (.le (1,4,3001,0) (1,0,1,0) (0))],res:=.val .bool,post:=[.f (.isb (5,0,0) false)] }
def cThereB:Ctr:={ f:=68,args:=[.c (.nm 562),.c tI],pre:=[.f (.le (1,0,1,0) (1,4,3001,0) (0)),.f (.le (1,4,3001,0) (1,0,1,0) (0))],res:=.val .bool,post:=[.f (.isb (5,0,0) false)] }
def lThereB:List LA:=[{ key:=2,drop:=[11,12,13,6,14,15,16,17,4,18,10],slots:=[],dropH:=[],boxes:=[],facts:=[.f (.le zT (1,0,10,0) (0)),.f (.le (1,0,10,0) (1,0,9,0) (0)),.f (.le (1,0,10,0) (1,4,3003,0) (0)),.f (.le (1,0,1,0) (1,4,3001,0) (0)),.f (.le (1,4,3001,0) (1,0,1,0) (0))],alts:=[],p:=((1,0,9,0),0),q:=((1,0,10,0),0) }]
def cThereN:Ctr:={ f:=68,args:=[.c (.nm 500),.c tI],pre:=[.f (.le (1,1,0,0) zT (0)),.f (.le zT (1,1,0,0) (0)),.f (.le (1,0,1,0) (1,1,0,1) (0))],res:=.val .bool,post:=[.f (.isb (5,0,0) false)],dd:=[(0,[],[],[[],[4]]),(1,[],[],[[],[7]]),(3,[11],[],[[],[12],[],[13]]),(4,[],[],[[6],[],[14,15],[16]]),(5,[2,8,9,10,17],[2],[]),(6,[17],[],[[10],[18]]),(7,[8,9,10,11],[],[[],[19],[20],[21],[2],[23],[],[24,25],[22,26],[27]])] }
def lThereN:List LA:=[{ key:=2,drop:=[11,12,13,6,14,15,16,17,4,18,10],slots:=[],dropH:=[],boxes:=[],facts:=[.f (.le zT (1,0,10,0) (0)),.f (.le (1,0,10,0) (1,0,9,0) (0))],alts:=[],p:=((1,0,9,0),0),q:=((1,0,10,0),0) }]
def cTyped:Ctr:={ f:=69,args:=[.c (.nm 2),.c (.lst tI bK)],pre:=[.f (.le (1,4,3001,0) (2,0,1,0) (0))],res:=.tup [tI,tI],dd:=[(0,[],[],[[],[4],[5]]),(1,[],[],[[],[11]]),(2,[],[],[[],[14]]),(3,[12,13],[],[[],[2],[16],[15,17],[18],[19]]),(4,[13],[],[[12],[21]]),(5,[20],[],[[2],[22],[23],[24]]),(6,[20],[],[]),(7,[],[],[[],[25]]),(9,[29],[],[[],[30],[],[31]]),(10,[],[],[[8],[],[33,34],[35],[],[32],[36],[37]]),(11,[],[],[[],[38]]),(12,[2,6,9,26,27,28,39],[2],[[10],[],[40]]),(13,[10,39],[],[[6],[9],[42],[41,43],[44]]),(14,[],[],[[28],[45]]),(15,[26,27,28,29],[],[[],[2],[47],[46,48],[6],[49,50],[51]]),(16,[52],[],[]),(17,[52],[],[])] }
def lTyped:List LA:=[{ key:=8,drop:=[29,30,31,8,33,34,35,32,36,37,9,10,38,39,40,4,5,41,42,43,44,6,45,28],slots:=[(6,.own (true,44) tI)],dropH:=[],boxes:=[],facts:=[.f (.le zT (1,0,28,0) (0)),.f (.le (1,0,28,0) (1,0,27,0) (0)),.f (.le (2,0,6,0) (1,0,28,0) (0))],alts:=[],p:=((1,0,27,0),0),q:=((1,0,28,0),0) }]
def cKinds1:Ctr:={ f:=65,args:=[.c tI,.bp (false,0) 0],pars:=[[.c (.lst (.st cTab) bL)]],res:=.tupF tI bL [.bool] }
def cKinds:Ctr:={ f:=27,args:=[.c tSch,.c (.st cQry)],res:=.tup [.lst tI bK,tI],dd:=[(0,[],[],[[],[],[4],[5]]),(1,[],[],[[2],[13]]),(2,[],[],[[],[],[16],[15,17],[18],[],[14],[19],[20]]),(3,[],[],[[8],[21]]),(4,[3,6,7,22],[3],[]),(5,[22],[],[[],[23],[24],[25]]),(6,[3,6,7,26],[3],[]),(7,[26],[],[[3],[27]]),(9,[31],[],[[],[32],[],[33]]),(10,[],[],[[],[],[36],[35,37],[38],[],[34],[39],[40]]),(11,[],[],[[12],[42],[43],[],[45],[46],[44,47],[48],[],[50],[],[52],[51,53],[49,54],[55],[],[57],[58],[56,59],[60],[],[62],[],[64],[63,65],[61,66],[67]]),(12,[6,7,10,11,28,29,30,41],[10],[]),(13,[41],[],[[],[],[70],[69,71],[72],[],[10],[75],[74,76],[77],[73,78],[79]]),(14,[6,7,11,28,29,30,68],[],[]),(15,[68],[],[[7],[11],[80,81],[82]]),(16,[],[],[[30],[83]]),(17,[6,28,29,30,31],[],[[7],[84]])] }
def lKinds:List LA:=[{ key:=8,drop:=[31,32,33,10,35,36,37,38,34,39,40,11,12,42,43,44,45,46,47,48,49,50,51,52,53,54,55,56,57,58,59,60,61,62,63,64,65,66,67,41,4,5,69,70,71,72,73,74,75,76,77,78,79,68,80,81,82,7,83,30],slots:=[(7,.own (true,18) tI),(18,.any),(14,.any),(19,.any),(34,.any),(38,.any),(39,.any),(11,.any)],dropH:=[],boxes:=[],facts:=[.f (.le zT (1,0,30,0) (0)),.f (.le (1,0,30,0) (1,0,29,0) (0)),.f (.le (1,0,29,0) zT (-4))],alts:=[([(7,.own (true,18) tI),(18,.any),(14,.any),(19,.any),(34,.any),(38,.any),(39,.any),(11,.any)],[],[.f (.le (2,0,7,0) zT (-100000000)),.f (.le (1,0,30,0) zT (0)),.f (.le zT (1,0,30,0) (0))]),([(7,.own (true,82) tI),(18,.any),(14,.any),(19,.any),(34,.any),(38,.any),(39,.any),(11,.any)],[],[.f (.le (2,0,7,0) zT (-200000000)),.f (.le (1,0,30,0) zT (-1)),.f (.le zT (1,0,30,0) (1))]),([(7,.own (true,82) tI),(18,.any),(14,.any),(19,.any),(34,.any),(38,.any),(39,.any),(11,.any)],[],[.f (.le (2,0,7,0) zT (-300000000)),.f (.le (1,0,30,0) zT (-2)),.f (.le zT (1,0,30,0) (2))]),([(7,.own (true,82) tI),(18,.any),(14,.any),(19,.any),(34,.any),(38,.any),(39,.any),(11,.any)],[],[.f (.le (2,0,7,0) zT (-400000000)),.f (.le (1,0,30,0) zT (-3)),.f (.le zT (1,0,30,0) (3))]),([(7,.own (true,82) tI),(18,.any),(14,.any),(19,.any),(34,.any),(38,.any),(39,.any),(11,.any)],[],[.f (.le (2,0,7,0) zT (-500000000)),.f (.le (1,0,30,0) zT (-4)),.f (.le zT (1,0,30,0) (4))])],p:=((1,0,29,0),0),q:=((1,0,30,0),0) }]
def cType:Ctr:={ f:=28,args:=[.c (.nm 0),.c (.lst tI bK)],res:=.tup [tI,tI] }
def cQOut:Ctr:={ f:=29,args:=[.c (.st cQry),.c (.st cOut),.c (.lst tI bK)],res:=.val tI,dd:=[(0,[],[],[[],[],[6]]),(1,[],[],[[],[9],[10],[11],[],[13],[14],[12,15]]),(2,[3,4,16],[3,4],[]),(3,[16],[],[[],[18],[],[19,20],[21],[],[17],[22],[23]]),(4,[],[],[[],[25],[26]]),(5,[3,4,7,24],[3,4],[[8],[27]]),(6,[8,24],[],[[7],[29],[30],[],[32],[33],[31,34],[35]]),(7,[3,4,28],[3,4],[]),(8,[28],[],[[],[37],[38],[],[40],[41],[39,42],[43],[3],[45],[4],[46,47],[48],[44,49],[50]]),(9,[36],[],[]),(10,[36],[],[])] }
def lQOut:List LA:=[]
def cQRight:Ctr:={ f:=9,args:=[.c tSch,.c (.st cQry)],res:=.val tI,dd:=[(0,[],[],[[],[],[4]]),(1,[],[],[[2],[],[21,22],[23],[],[20],[24],[25]]),(2,[],[],[[],[27],[28]]),(3,[3,5,26],[3],[[6],[29]]),(4,[6,26],[],[[],[31],[32],[33],[34],[],[36],[37],[],[39],[40],[],[42],[43],[],[45],[46],[38,41,44,47],[48],[35,49],[50]]),(5,[3,5,30],[3],[]),(6,[30],[],[[],[51]]),(8,[55],[],[[],[56],[],[57]]),(9,[],[],[[8],[],[59,60],[61],[],[58],[62],[63]]),(10,[],[],[[],[64]]),(11,[3,5,9,52,53,54,65],[3],[[10],[66]]),(12,[10,65],[],[[9],[67]]),(13,[3,5,52,53,54,68],[3],[]),(14,[68],[],[[54],[69]]),(15,[52,53,54,55],[],[[],[70]]),(17,[74],[],[[],[75],[],[76]]),(18,[],[],[[12],[],[78,79],[80],[],[77],[13,81],[82]]),(19,[],[],[[],[83]]),(20,[3,5,71,72,73,84],[3],[[14],[85]]),(21,[14,84],[],[[73],[86]]),(22,[71,72,73,74],[],[[],[87]]),(24,[91],[],[[],[92],[],[93]]),(25,[],[],[[],[16],[],[94,95,96],[97]]),(26,[],[],[[],[98]]),(27,[3,5,88,89,90,99],[3],[[17],[100]]),(28,[17,99],[],[[90],[101]]),(29,[5,88,89,90,91],[],[[],[102]]),(31,[106],[],[[],[107],[108]]),(32,[],[],[[],[19],[110],[109,111],[],[113],[114],[112,115]]),(33,[3,103,104,105,116],[3],[]),(34,[116],[],[[105],[117]]),(35,[3,103,104,105,106],[3],[])] }
def lQRight:List LA:=[{ key:=7,drop:=[55,56,57,8,59,60,61,58,62,63,9,10,64,65,66,4,67,68,69,54],slots:=[],dropH:=[],boxes:=[],facts:=[.f (.le zT (1,0,54,0) (0)),.f (.le (1,0,54,0) (1,0,53,0) (0))],alts:=[],p:=((1,0,53,0),0),q:=((1,0,54,0),0) },{ key:=16,drop:=[74,75,76,12,78,79,80,77,81,82,13,14,83,84,85,4,86,73],slots:=[],dropH:=[],boxes:=[],facts:=[.f (.le zT (1,0,73,0) (0)),.f (.le (1,0,73,0) (1,0,72,0) (0))],alts:=[],p:=((1,0,72,0),0),q:=((1,0,73,0),0) },{ key:=23,drop:=[91,92,93,16,94,95,96,97,17,98,99,100,4,101,90],slots:=[],dropH:=[],boxes:=[],facts:=[.f (.le zT (1,0,90,0) (0)),.f (.le (1,0,90,0) (1,0,89,0) (0))],alts:=[],p:=((1,0,89,0),0),q:=((1,0,90,0),0) },{ key:=30,drop:=[106,107,108,19,109,110,111,112,113,114,115,116,4,117,105],slots:=[],dropH:=[],boxes:=[],facts:=[.f (.le zT (1,0,105,0) (0)),.f (.le (1,0,105,0) (1,0,104,0) (0))],alts:=[],p:=((1,0,104,0),0),q:=((1,0,105,0),0) }]
def cRead:Ctr:={ f:=20,args:=[.c (.str 1000)],res:=.tup [.lst (.nm 550) bW,tI],post:=[.f (.le zT (1,6,1,0) (0))] }
abbrev cQry0:List Ty:=[tI,.lst (.st [tI,tI,tI]) 0,.lst (.nm 0) 0,.lst (.nm 0) 0,.lst (.st cOut) 0,.lst tI 0,tI]
def cParseE:Ctr:={ f:=7,args:=[.c (.nm 580),.c (.str 1000)],pre:=[.f (.le (1,4,3000,0) (2,1,0,0) (0)),.f (.le (2,1,0,0) (1,4,3000,0) (0)),.f (.le zT (1,4,3002,0) (4000))],res:=.tup [.st cQry0,tI],post:=[.f (.le zT (1,6,1,0) (1))],dd:=[(0,[],[],[[],[],[5]]),(1,[],[],[[],[14],[15],[],[13],[16],[17]]),(2,[],[],[[],[18]]),(3,[2,6,19],[2],[[],[7],[20],[21]]),(4,[7,19],[],[[6],[22],[23],[24]]),(5,[],[],[[],[25],[],[26]]),(6,[],[],[[8],[27],[28]]),(7,[2,9,29],[2,9],[[],[30]]),(8,[29],[],[[],[31],[32],[33]]),(9,[],[],[[],[9],[34,35],[],[36]]),(10,[],[],[[10],[37],[38],[39]]),(11,[2,11,40],[2,11],[[],[41]]),(12,[40],[],[[2],[],[42,43],[44]]),(13,[],[],[[],[45]]),(14,[11,46],[11],[[],[12],[47],[48]]),(15,[12,46],[],[[11],[49]])] }
def lParseE:List LA:=[]
def cOpsE:Ctr:={ f:=8,args:=[.c (.nm 580),.c (.str 1000)],res:=.tup [.lst (.st cOp) bL,tI],post:=[.f (.le (2,6,0,0) zT (0))],dd:=[(0,[],[],[[],[4],[5]]),(1,[],[],[[],[19],[20],[],[18],[21],[22]]),(2,[],[],[[],[23],[24],[],[26],[27],[25,28]]),(3,[2,6,29],[2],[[7],[],[30]]),(4,[7,29],[],[[6],[31],[32],[33]]),(5,[],[],[[],[34],[35],[36]]),(6,[],[],[[],[37],[38],[39],[40],[41],[],[43],[42,44]]),(7,[45],[],[[9],[],[47],[48],[46,49],[50]]),(8,[45],[],[[8],[51],[52]]),(9,[2,9,53],[2],[]),(10,[53],[],[]),(11,[],[],[[9]]),(13,[57],[],[[],[58],[],[59]]),(14,[],[],[[12],[],[61,62],[63],[],[60],[],[64],[65]]),(15,[],[],[[14],[66]]),(16,[2,10,13,54,55,56,67],[2,13],[]),(17,[67],[],[[10],[13],[69],[68,70],[71]]),(18,[],[],[[56],[72]]),(19,[54,55,56,57],[],[]),(21,[76],[],[[],[77],[],[78]]),(22,[],[],[[],[16],[79,80],[81]]),(23,[],[],[[],[82]]),(24,[2,10,73,74,75,83],[2],[[17],[],[84]]),(25,[17,83],[],[[75],[85]]),(26,[2,73,74,75,76],[2],[[10],[86]])] }
def lOpsE:List LA:=[{ key:=6,drop:=[37,38,39,40,41,42,43,44,45,46,47,48,49,50,9],slots:=[(9,.own (true,36) (.st cDeed)),(36,.any),(50,.any)],dropH:=[(true,33)],boxes:=[((true,33),[.c (.lst (.nm 550) bL),.c .bool])],facts:=[.f (.le (2,2,33,0) zT (-4000)),.f (.le (2,0,9,0) (3,2,33,0) (-4001)),.f (.le (2,0,9,0) zT (-4001))],alts:=[([(9,.own (true,36) (.st cDeed)),(36,.any),(50,.any)],[((true,33),[.c (.lst (.nm 550) bL),.c .bool])],[]),([(9,.own (true,50) (.st cDeed)),(36,.any),(50,.any)],[((true,33),[.c (.lst (.nm 550) bL),.c .bool])],[])],p:=((2,2,33,0),0),q:=(zT,0) },{ key:=12,drop:=[57,58,59,12,61,62,63,60,64,65,13,14,66,67,4,5,68,69,70,71,10,72,56],slots:=[(10,.own (true,71) (.st cOp)),(71,.any)],dropH:=[],boxes:=[],facts:=[.f (.le zT (1,0,56,0) (0)),.f (.le (1,0,56,0) (1,0,55,0) (0)),.f (.le (2,0,10,0) (1,0,56,0) (0))],alts:=[],p:=((1,0,55,0),0),q:=((1,0,56,0),0) },{ key:=20,drop:=[76,77,78,16,79,80,81,17,82,83,84,4,5,85,75],slots:=[],dropH:=[],boxes:=[],facts:=[.f (.le zT (1,0,75,0) (0)),.f (.le (1,0,75,0) (1,0,74,0) (0))],alts:=[],p:=((1,0,74,0),0),q:=((1,0,75,0),0) }]
end
section
theorem oks_one {C:Cx} {h:Id→O} {t:TV} {zs:List A} (hz:TV.oks C h [t] zs):∃ a,zs=[a]∧TV.ok C h t a:=by
 simp only [TV.oks] at hz
 obtain ⟨a,_,rfl,h1,rfl⟩:=hz
 exact ⟨a,rfl,h1⟩
def tabOK:TabI:=[(0,2,.d (.lst [.s (.int .i64 0),.s (.int .i64 1)])),(1,3,.d (.lst [.s (.int .i64 2)])),(2,4,.d (.lst [.s (.int .i64 3)])),(3,5,.d (.lst [.s (.int .i64 3)])),(4,6,.d (.lst [.s (.int .i64 4)])),(5,7,.d (.lst [.s (.int .i64 4)]))]
theorem tabOK_at:evr Tryz.prog ext26 76 0 E0 []=some (.mapf (tabW tabOK) 6,E0):=evr_eval (n:=5) (by kernel_rfl)
theorem okOKinds (bd:BD) (k:Nat):Ok26 bd k cOKinds:=by
 intro d h π zs hC hpl hz hp hpre
 obtain ⟨rfl,rfl⟩:=hpl rfl
 have hz:TV.oks _ _ [] zs:=hz
 simp only [TV.oks] at hz
 subst hz
 refine ⟨_,.any,_,tabOK_at,⟨_,6,rfl,rfl,⟨tabOK,rfl⟩,fun e he=>?_⟩,fun _ _=>rfl,fun _ _=>rfl,fun p hp=>(by cases hp),fun v _ f hf=>by cases hf⟩
 simp only [tabW,tabOK,List.map_cons,List.map_nil,List.mem_cons,List.not_mem_nil,or_false] at he
 rcases he with rfl | rfl | rfl | rfl | rfl | rfl <;> refine ⟨_,rfl,?_⟩ <;> simp [ShT]
abbrev kdA (m:Int) (b:Bool):A:=.d (.agg [.s (.int .i64 m),.s (.bool b),.any])
theorem kdA_ty (R:Nat→D→Prop) (m:Int) (b:Bool):ShT R (.st [tI,.bool,.any]) (.agg [.s (.int .i64 m),.s (.bool b),.any]):=by
 simp only [ShT,ShL]
 exact ⟨_,rfl,_,_,rfl,⟨_,rfl⟩,_,_,rfl,⟨_,rfl⟩,_,_,rfl,Or.inl rfl,rfl⟩
def tabEK:TabI:=[(0,2,kdA 2 true),(1,3,kdA 2 true),(2,4,kdA 2 true),(3,5,kdA 2 false),(4,6,kdA 2 false),(5,7,kdA 2 true),(6,8,kdA 2 true),(7,9,kdA 1 true),(8,10,kdA 1 false)]
theorem tabEK_at:evr Tryz.prog ext26 97 0 E0 []=some (.mapf (tabW tabEK) 9,E0):=evr_eval (n:=5) (by kernel_rfl)
theorem okEKinds (bd:BD) (k:Nat):Ok26 bd k cEKinds:=by
 intro d h π zs hC hpl hz hp hpre
 obtain ⟨rfl,rfl⟩:=hpl rfl
 have hz:TV.oks _ _ [] zs:=hz
 simp only [TV.oks] at hz
 subst hz
 refine ⟨_,.any,_,tabEK_at,⟨_,9,rfl,rfl,⟨tabEK,rfl⟩,fun e he=>?_⟩,fun _ _=>rfl,fun _ _=>rfl,fun p hp=>(by cases hp),fun v _ f hf=>by cases hf⟩
 simp only [tabW,tabEK,List.map_cons,List.map_nil,List.mem_cons,List.not_mem_nil,or_false] at he
 rcases he with rfl | rfl | rfl | rfl | rfl | rfl | rfl | rfl | rfl <;> exact ⟨_,rfl,kdA_ty _ _ _⟩
def tabOp:Tab:=[(0,⟨#[43]⟩,.d (.s (.int .i64 2))),(1,⟨#[45]⟩,.d (.s (.int .i64 3))),(2,⟨#[42]⟩,.d (.s (.int .i64 4))),(3,⟨#[61]⟩,.d (.s (.int .i64 5))),(4,⟨#[60]⟩,.d (.s (.int .i64 6))),(5,⟨#[97,110,100]⟩,.d (.s (.int .i64 7))),(6,⟨#[111,114]⟩,.d (.s (.int .i64 8)))]
theorem tabOp_at:evr Tryz.prog ext26 105 0 E0 []=some (.mapf (tabV tabOp) 7,E0):=evr_eval (n:=3) (by kernel_rfl)
theorem okOprs (bd:BD) (k:Nat):Ok26 bd k cOprs:=by
 intro d h π zs hC hpl hz hp hpre
 obtain ⟨rfl,rfl⟩:=hpl rfl
 have hz:TV.oks _ _ [] zs:=hz
 simp only [TV.oks] at hz
 subst hz
 refine ⟨_,.any,_,tabOp_at,⟨_,7,rfl,rfl,⟨tabOp,rfl⟩,fun e he=>?_⟩,fun _ _=>rfl,fun _ _=>rfl,fun p hp=>(by cases hp),fun v _ f hf=>by cases hf⟩
 simp only [tabV,tabOp,List.map_cons,List.map_nil,List.mem_cons,List.not_mem_nil,or_false] at he
 rcases he with rfl | rfl | rfl | rfl | rfl | rfl | rfl <;> refine ⟨_,rfl,?_⟩ <;> simp [ShT]
def tabAg:Tab:=[(0,⟨#[99,111,117,110,116]⟩,.d (.s (.int .i64 1))),(1,⟨#[115,117,109]⟩,.d (.s (.int .i64 2))),(2,⟨#[109,105,110]⟩,.d (.s (.int .i64 3))),(3,⟨#[109,97,120]⟩,.d (.s (.int .i64 4)))]
theorem tabAg_at:evr Tryz.prog ext26 81 0 E0 []=some (.mapf (tabV tabAg) 4,E0):=evr_eval (n:=3) (by kernel_rfl)
theorem okAggs (bd:BD) (k:Nat):Ok26 bd k cAggs:=by
 intro d h π zs hC hpl hz hp hpre
 obtain ⟨rfl,rfl⟩:=hpl rfl
 have hz:TV.oks _ _ [] zs:=hz
 simp only [TV.oks] at hz
 subst hz
 refine ⟨_,.any,_,tabAg_at,⟨_,4,rfl,rfl,⟨tabAg,rfl⟩,fun e he=>?_⟩,fun _ _=>rfl,fun _ _=>rfl,fun p hp=>(by cases hp),fun v _ f hf=>by cases hf⟩
 simp only [tabV,tabAg,List.map_cons,List.map_nil,List.mem_cons,List.not_mem_nil,or_false] at he
 rcases he with rfl | rfl | rfl | rfl <;> refine ⟨_,rfl,?_⟩ <;> simp [ShT]
def tabVb:Tab:=[(0,⟨#[105,110,115,101,114,116]⟩,.d (.s (.int .i64 1))),(1,⟨#[115,101,116]⟩,.d (.s (.int .i64 2))),(2,⟨#[97,100,100]⟩,.d (.s (.int .i64 3))),(3,⟨#[112,117,116]⟩,.d (.s (.int .i64 4))),(4,⟨#[116,97,107,101]⟩,.d (.s (.int .i64 5))),(5,⟨#[116,121,112,101]⟩,.d (.s (.int .i64 6))),(6,⟨#[101,114,97,115,101]⟩,.d (.s (.int .i64 7))),(7,⟨#[100,101,108,101,116,101]⟩,.d (.s (.int .i64 8)))]
theorem tabVb_at:evr Tryz.prog ext26 58 0 E0 []=some (.mapf (tabV tabVb) 8,E0):=evr_eval (n:=3) (by kernel_rfl)
theorem okVerbs (bd:BD) (k:Nat):Ok26 bd k cVerbs:=by
 intro d h π zs hC hpl hz hp hpre
 obtain ⟨rfl,rfl⟩:=hpl rfl
 have hz:TV.oks _ _ [] zs:=hz
 simp only [TV.oks] at hz
 subst hz
 refine ⟨_,.any,_,tabVb_at,⟨_,8,rfl,rfl,⟨tabVb,rfl⟩,fun e he=>?_⟩,fun _ _=>rfl,fun _ _=>rfl,fun p hp=>(by cases hp),fun v _ f hf=>by cases hf⟩
 simp only [tabV,tabVb,List.map_cons,List.map_nil,List.mem_cons,List.not_mem_nil,or_false] at he
 rcases he with rfl | rfl | rfl | rfl | rfl | rfl | rfl | rfl <;> refine ⟨_,rfl,?_⟩ <;> simp [ShT]
theorem okAtoi (bd:BD) (k:Nat):Ok26 bd k cAtoi:=by
 intro d h π zs hC hpl hz hp hpre
 obtain ⟨a,rfl,h1⟩:=oks_one hz
 simp only [TV.ok,ShT] at h1
 obtain ⟨_,rfl,s,rfl,hs⟩:=h1
 have hs:s.size ≤ 4000:=hs
 obtain ⟨b1,b2⟩:=atoiF_bounds s
 obtain ⟨x,ex,hx⟩:∃ x,errA (atoiF s).2 = .d x∧ShT (R26 (bdK bd k) k) (.opq 50) x:=by
  cases (atoiF s).2 with
  | false=>exact ⟨_,rfl,Or.inl ⟨rfl,rfl⟩⟩
  | true=>exact ⟨_,rfl,Or.inr ⟨⟨_,_,rfl⟩,(R26_nil (Or.inl rfl)).2 ⟨_,_,rfl⟩⟩⟩
 refine ⟨_,.tup [.d (.s (.int .i64 (atoiF s).1)),.d x],h,atoi_at d h s (by omega),⟨[.s (.int .i64 (atoiF s).1),x],by rw [ex]; rfl,rfl,?_⟩,fun _ _=>rfl,fun _ _=>rfl,fun p hp=>(by cases hp),fun v hv f hf=>?_⟩
 ·simp only [ShL]
  exact ⟨_,_,rfl,⟨_,rfl⟩,_,_,rfl,hx,rfl⟩
 ·have e0:intA (v (6,0,0))=(atoiF s).1:=by rw [hv.nc]; rfl
  simp only [cAtoi,List.mem_cons,List.not_mem_nil,or_false] at hf
  rcases hf with rfl | rfl
  ·show (0:Int) + _ ≤ intA (v (6,0,0)); rw [e0]; omega
  ·show intA (v (6,0,0)) + _ ≤ (0:Int); rw [e0]; omega
theorem itoa_size (n:Int) (h0:-9223372036854775808 ≤ n) (h1:n ≤ 9223372036854775807):(Lib.itoa n).length ≤ 30:=Nat.le_trans (Lib.itoa_length_le n h0 h1) (by decide)
theorem okItoa (bd:BD) (k:Nat):Ok26 bd k cItoa:=by
 intro d h π zs hC hpl hz hp hpre
 obtain ⟨a,rfl,h1⟩:=oks_one hz
 simp only [TV.ok,ShT] at h1
 obtain ⟨_,rfl,n,rfl⟩:=h1
 have b:=hpre (apv (cItoa.cx ((fam26 bd).lv k) d h π) (st0 d h [.d (.s (.int .i64 n))])) (fun _ _=>rfl)
 have b1:=b _ (List.mem_cons_self)
 have b2:=b _ (List.mem_cons_of_mem _ List.mem_cons_self)
 have b1:(0:Int) + -9223372036854775808 ≤ n:=b1
 have b2:n + -9223372036854775807 ≤ (0:Int):=b2
 refine ⟨_,.d (.s (.string ⟨(Lib.itoa n).toArray⟩)),h,itoa_at d h n (by omega) (by omega),⟨_,rfl,rfl,_,rfl,?_⟩,fun _ _=>rfl,fun _ _=>rfl,fun p hp=>(by cases hp),fun v hv f hf=>by cases hf⟩
 exact itoa_size n (by omega) (by omega)
theorem replK_len:∀ (k:Nat) (s:List UInt8),(Lib.replaceK [39,39] [39] k s).length ≤ s.length
 | 0,s=>Nat.le_refl _
 | k + 1,s=>by
  rw [Lib.replaceK]
  split
  ·exact Nat.le_refl _
  ·rename_i h
   rcases Lib.indexB_cases ⟨s.toArray⟩ ⟨#[39,39]⟩ with e | ⟨i,e,hi⟩
   ·have e:Lib.index s [39,39] = -1:=e
    rw [e] at h
    exact absurd rfl h
   ·have e:Lib.index s [39,39]=i:=e
    have hi:i + 2 ≤ s.length:=hi
    have ih:=replK_len k (s.drop (i + 2))
    rw [List.length_drop] at ih
    rw [e]
    show (List.take i s ++ [39] ++ Lib.replaceK [39,39] [39] k (List.drop (i + 2) s)).length ≤ s.length
    rw [List.length_append,List.length_append,List.length_take,List.length_singleton]
    omega
theorem unq_size (s:ByteArray):(unq s).size ≤ s.size:=by
 show (Lib.replaceAll s.data.toList [39,39] [39]).toArray.size ≤ _
 rw [List.size_toArray]
 unfold Lib.replaceAll Lib.replace
 split
 ·exact Nat.le_refl _
 ·exact replK_len _ _
theorem okRepl (bd:BD) (k:Nat):Ok26 bd k cRepl:=by
 intro d h π zs hC hpl hz hp hpre
 have hz:TV.oks _ h [.c (.str 4000),.c (.lit [39,39]),.c (.lit [39])] zs:=hz
 simp only [TV.oks,TV.ok,ShT] at hz
 obtain ⟨_,_,rfl,⟨_,rfl,s,rfl,hs⟩,_,_,rfl,⟨_,rfl,a,rfl,ha⟩,_,_,rfl,⟨_,rfl,b,rfl,hb⟩,rfl⟩:=hz
 have ea:a=⟨#[39,39]⟩:=by obtain ⟨⟨a⟩⟩:=a; have ha:a=[39,39]:=ha; rw [ha]
 have eb:b=⟨#[39]⟩:=by obtain ⟨⟨b⟩⟩:=b; have hb:b=[39]:=hb; rw [hb]
 subst ea eb
 have hu:=unq_size s
 refine ⟨_,.d (.s (.string (unq s))),h,repl_at d h s (by omega),⟨_,rfl,rfl,_,rfl,?_⟩,fun _ _=>rfl,fun _ _=>rfl,fun p hp=>(by cases hp),fun v hv f hf=>by cases hf⟩
 show (unq s).size ≤ 4000
 omega
end
end Go.Proofs.YtenoggjjhamdaaaGreatDoor
