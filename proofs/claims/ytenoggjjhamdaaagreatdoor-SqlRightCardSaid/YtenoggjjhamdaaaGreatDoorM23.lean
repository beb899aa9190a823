/-
  WHAT IS PROVED HERE: parts of the proof: Ex26 Open Od26 Lift Lift26 Aw26.
-/
import Derived.Test.YtenoggjjhamdaaaGreatDoorRows
import Derived.Shelf.Strconv.Itoa3
import Derived.Shelf.Strconv.ErrVarAll
import Derived.Lib.ReplaceLaws
import Derived.Shelf.Unicode.PredsPay
import Derived.Lib.IndexAny
import Derived.ProofKit
import Derived.Deep.Slices
import Derived.SizedLaws
import Derived.OpenShut
import Derived.Deep.DeepHandedRow
import Derived.Lib.LaidTab
import Derived.Stop.LaidErr
import Derived.Shelf.Vars
import Derived.Test.YtenoggjjhamdaaaGreatDoorM01
import Derived.Test.YtenoggjjhamdaaaGreatDoorM07
import Derived.Test.YtenoggjjhamdaaaGreatDoorM22
set_option linter.all false
namespace Go.Proofs.YtenoggjjhamdaaaGreatDoor
open Go Go.RowKit
section
def tabName:String:=((Rows.sqlRightRow.laid[2]?).map (fun x=>x.1)).getD default
structure W2 (w:World):Prop where
  tab:Lib.TabIs Tryz.prog w tabName .u64 Lib.pow10Tab
  most:∃ m,w.cell? ⟨3,0,none⟩=some (.int .i64 m)
  syn:∃ tp p,w.var? Tryz.prog "strconv.ErrSyntax" = some #[.iface tp p]
  rng:∃ tp p,w.var? Tryz.prog "strconv.ErrRange" = some #[.iface tp p]
  room:0 < w.heap.size∧1 < w.heap.size
theorem var?_below {P:Program} {B g:Nat} {W W':World} {n:String} {cs:Array Value} (h:Below B W W') (hg:P.globalNamed n=some g) (hgB:g < B) (hv:W.var? P n=some cs):W'.var? P n=some cs:=by
  unfold World.var? at hv ⊢
  simp only [hg,Option.bind_some] at hv ⊢
  rw [h.block g hgB]
  exact hv
theorem W2.ext {w w':World} (h:W2 w) (hx:Ext w w'):W2 w':=by
  obtain ⟨m,hm⟩:=h.most
  obtain ⟨t1,p1,h1⟩:=h.syn
  obtain ⟨t2,p2,h2⟩:=h.rng
  have hr:=h.room
  have hz:=hx.size
  exact ⟨TabIs_below (by kernel_rfl:Tryz.prog.globalNamed tabName=some 2) h.tab hx,⟨m,hx.cell hm⟩,⟨t1,p1,var?_below hx (by kernel_rfl:Tryz.prog.globalNamed "strconv.ErrSyntax" = some 0) (by omega) h1⟩,⟨t2,p2,var?_below hx (by kernel_rfl:Tryz.prog.globalNamed "strconv.ErrRange" = some 1) (by omega) h2⟩,by omega,by omega⟩
theorem Ext.grow (w:World) (os:Array Obj):Ext w (Sort.grow w os):=by
  refine ⟨rfl,rfl,rfl,?_,?_⟩
  · show w.heap.size ≤ (w.heap ++ os).size
    simp
  · intro b hb
    show (w.heap ++ os)[b]? = w.heap[b]?
    rw [Array.getElem?_append_left hb]
theorem ret_quiet {P:Program} {I:World→Prop} (hk:∀ w w',I w→Below w.heap.size w w'→I w') {f:FuncId} {d:Nat} {h:Id→O} {l:List A} {r:R} (hent:Enters P f) (vs0:Array Value) (hvs:∀ ι S w (vs:Array Value),VL ι S w l vs.toList→vs=vs0)
    (hc:∀ w,I w→Calls P f vs0 w fun e w'=>∃ v,e = .returned v∧Below w.heap.size w w' ∧ ∀ base prot ι S h,RepR base prot ι S h w' r v):Ret P I f d h l r h:=by
  refine ⟨hent,fun E ι S w vs hE hd hi hS hw hn hr hvl=>?_⟩
  obtain rfl:=hvs ι S w vs hvl
  have hI:I w:=hk _ _ hE.inv (by have:=hr.below; rwa [hE.base] at this)
  refine (hc w hI).mono ?_
  rintro e w' ⟨v,rfl,hb,hv⟩
  obtain ⟨m,hr'⟩:=hr.grow (S':=S) hb (fun _ _ h=>h) (fun b o hs=>⟨Or.inl hs,Nat.lt_of_lt_of_le (hr.inw b o hs) hb.size⟩)
  exact ⟨v,ι,S,rfl,m,hn,hr',hv _ _ _ _ _⟩
theorem va_s {ι:Ix} {S:Sb} {w:World} {v u:Value} (h:VA ι S w (.d (.s v)) u):u=v:=by
  simp only [VA,ValD,CellsD,List.cons.injEq,and_true] at h
  exact h.1
theorem vl1 {ι:Ix} {S:Sb} {w:World} {a:Value} {vs:Array Value} (h:VL ι S w [.d (.s a)] vs.toList):vs = #[a]:=by
  simp only [VL] at h
  obtain ⟨u,us,h1,h2,rfl⟩:=h
  obtain rfl:=va_s h2
  exact Array.ext' h1
theorem vl2 {ι:Ix} {S:Sb} {w:World} {a b:Value} {vs:Array Value} (h:VL ι S w [.d (.s a),.d (.s b)] vs.toList):vs = #[a,b]:=by
  simp only [VL] at h
  obtain ⟨u,us,h1,h2,u2,us2,rfl,h3,rfl⟩:=h
  obtain rfl:=va_s h2
  obtain rfl:=va_s h3
  exact Array.ext' h1
theorem vl3 {ι:Ix} {S:Sb} {w:World} {a b c:Value} {vs:Array Value} (h:VL ι S w [.d (.s a),.d (.s b),.d (.s c)] vs.toList):vs = #[a,b,c]:=by
  simp only [VL] at h
  obtain ⟨u,us,h1,h2,u2,us2,rfl,h3,u3,us3,rfl,h4,rfl⟩:=h
  obtain rfl:=va_s h2
  obtain rfl:=va_s h3
  obtain rfl:=va_s h4
  exact Array.ext' h1
theorem rep_s {base:Nat} {prot:Nat→Prop} {ι:Ix} {S:Sb} {h:Id→O} {w:World} {v:Value} (hv:noAgg v=true):RepR base prot ι S h w (.val (.s v)) v:=by
  show CellsD S w (.s v) [v]
  unfold CellsD
  exact ⟨rfl,hv⟩
theorem bytes_of {a:ByteArray} {l:List UInt8} (h:a.data.toList=l):a=⟨l.toArray⟩:=by subst h; rfl
theorem enters_itoa:Enters Tryz.prog 82:=enters_of Tryz.func82 (by decide) rfl
theorem enters_atoi:Enters Tryz.prog 88:=enters_of Tryz.func88 (by decide) rfl
theorem enters_repl:Enters Tryz.prog 91:=enters_of Tryz.func91 (by decide) rfl
theorem enters_trim:Enters Tryz.prog 85:=enters_of Tryz.func85 (by decide) rfl
theorem enters_cont:Enters Tryz.prog 119:=enters_of Tryz.func119 (by decide) rfl
theorem w2_keep (w w':World) (h:W2 w) (hb:Below w.heap.size w w'):W2 w':=h.ext hb
theorem itoa_ret {d:Nat} {h:Id→O} {n:Int} (h0:-9223372036854775808 ≤ n) (h1:n ≤ 9223372036854775807):Ret Tryz.prog W2 82 d h [.d (.s (.int .i64 n))] (.val (.s (.string ⟨(Lib.itoa n).toArray⟩))) h:=by
  refine ret_quiet w2_keep enters_itoa #[.int .i64 n] (fun _ _ _ _=>vl1) fun w hI=>?_
  refine (Any.strconv_Itoa Tryz.laysM171 n h0 h1 w hI.tab).mono ?_
  rintro e w1 ⟨rfl,j,os,rfl⟩
  exact ⟨_,rfl,(Ext.drewN w j).trans (Ext.grow _ _),fun _ _ _ _ _=>rep_s rfl⟩
theorem trim_ret {d:Nat} {h:Id→O} {s c:ByteArray} (hc:c.data.toList=[32,9,10]):Ret Tryz.prog W2 85 d h [.d (.s (.string s)),.d (.s (.string c))] (.val (.s (.string ⟨(Lib.trimLeftS s.data.toList [32,9,10]).toArray⟩))) h:=by
  refine ret_quiet w2_keep enters_trim #[.string s,.string c] (fun _ _ _ _=>vl2) fun w hI=>?_
  refine (Tryz.strings_TrimLeft_set s c w (by rw [bytes_of hc]; decide) (fun j b hb=>?_)).mono ?_
  · rw [hc] at hb
    exact ascii_of_all (l:=[32,9,10]) (by decide) j b hb
  · rintro e w1 ⟨rfl,hb⟩
    rw [hc]
    exact ⟨_,rfl,hb,fun _ _ _ _ _=>rep_s rfl⟩
theorem cont_one (c:UInt8):decide (0 ≤ Lib.indexByte signs c)=signs.contains c:=(Lib.contains_iff_indexByte signs c).symm
theorem cont_ret {d:Nat} {h:Id→O} {a b:ByteArray} (ha:a.data.toList=signs) (hb:b.size=1):Ret Tryz.prog W2 119 d h [.d (.s (.string a)),.d (.s (.string b))] (.val (.s (.bool (signs.contains (b.data.toList.getD 0 0))))) h:=by
  refine ret_quiet w2_keep enters_cont #[.string a,.string b] (fun _ _ _ _=>vl2) fun w hI=>?_
  obtain ⟨c,rfl⟩:∃ c,b=⟨#[c]⟩:=by
    obtain ⟨⟨l⟩⟩:=b
    match l,hb with
    | [c],_=>exact ⟨c,rfl⟩
  refine (Tryz.strings_Contains_one a c w).mono ?_
  rintro e w1 ⟨rfl,rfl⟩
  rw [ha,cont_one]
  exact ⟨_,rfl,Below.refl _ _,fun _ _ _ _ _=>rep_s rfl⟩
theorem repl_room (s:ByteArray) (hs:s.size ≤ 1000000):s.size + Lib.countB s ⟨#[39,39]⟩ * (⟨#[39]⟩:ByteArray).size ≤ 140737488355328:=by
  have:=Lib.countB_le ⟨#[39,39]⟩ (by decide) s.size s (Nat.le_refl _)
  have e:(⟨#[39]⟩:ByteArray).size=1:=rfl
  rw [e]; omega
theorem repl_ret {d:Nat} {h:Id→O} {s a b:ByteArray} (hs:s.size ≤ 1000000) (ha:a.data.toList=[39,39]) (hb:b.data.toList=[39]):Ret Tryz.prog W2 91 d h [.d (.s (.string s)),.d (.s (.string a)),.d (.s (.string b))] (.val (.s (.string (unq s)))) h:=by
  refine ret_quiet w2_keep enters_repl #[.string s,.string a,.string b] (fun _ _ _ _=>vl3) fun w hI=>?_
  obtain ⟨m,hm⟩:=hI.most
  obtain rfl:=bytes_of ha
  obtain rfl:=bytes_of hb
  refine (Tryz.strings_ReplaceAll s ⟨#[39,39]⟩ ⟨#[39]⟩ m w (by omega) hm (by decide) (repl_room s hs)).mono ?_
  rintro e w1 ⟨rfl,hx⟩
  exact ⟨_,rfl,hx,fun _ _ _ _ _=>rep_s rfl⟩
theorem va_int {ι:Ix} {S:Sb} {w:World} (n:Int):VA ι S w (.d (.s (.int .i64 n))) (.int .i64 n):=by
  show CellsD S w (.s (.int .i64 n)) [.int .i64 n]
  unfold CellsD
  exact ⟨rfl,rfl⟩
theorem va_nil {ι:Ix} {S:Sb} {w:World}:VA ι S w (errA false) .nilIface:=by
  show CellsD S w (.s .nilIface) [.nilIface]
  unfold CellsD
  exact ⟨rfl,rfl⟩
theorem va_err {ι:Ix} {S:Sb} {w:World} (N:Nat):VA ι S w (errA true) (.iface 230 (.pointer (some ⟨N,0,none⟩))):=by
  show CellsD S w (.ifc 230 .any) [.iface 230 (.pointer (some ⟨N,0,none⟩))]
  unfold CellsD
  refine ⟨[.pointer (some ⟨N,0,none⟩)],?_,rfl⟩
  unfold CellsD
  exact ⟨_,rfl,rfl⟩
theorem rep_two {base:Nat} {prot:Nat→Prop} {ι:Ix} {S:Sb} {h:Id→O} {w:World} {a b:A} {u v:Value} (h1:VA ι S w a u) (h2:VA ι S w b v):RepR base prot ι S h w (.tup [a,b]) (.tuple #[u,v]):=by
  refine ⟨#[u,v],rfl,?_⟩
  simp only [VL]
  exact ⟨u,[v],rfl,h1,v,[],rfl,h2,rfl⟩
theorem atoi_ret {d:Nat} {h:Id→O} {s:ByteArray} (hs:s.size ≤ 1000000):Ret Tryz.prog W2 88 d h [.d (.s (.string s))] (.tup [.d (.s (.int .i64 (atoiF s).1)),errA (atoiF s).2]) h:=by
  refine ret_quiet w2_keep enters_atoi #[.string s] (fun _ _ _ _=>vl1) fun w hI=>?_
  obtain ⟨t1,p1,h1⟩:=hI.syn
  obtain ⟨t2,p2,h2⟩:=hI.rng
  unfold atoiF
  cases ha:Lib.atoiAll s.data.toList with
  | ok v =>
    refine (Tryz.strconv_Atoi_ok s (by omega) v ha w).mono ?_
    rintro e w1 ⟨rfl,hx⟩
    refine ⟨_,rfl,?_,fun _ _ _ _ _=>rep_two (va_int v) va_nil⟩
    rcases hx with rfl | ⟨t,rfl⟩
    · exact Below.refl _ _
    · exact Lib.bytesWorld_below _ _ _
  | range =>
    refine (Any.strconv_Atoi_range_var Tryz.laysC172 s (by omega) ha t2 p2 w h2).mono ?_
    rintro e w1 ⟨N,rfl,_,_,x1⟩
    exact ⟨_,rfl,x1,fun _ _ _ _ _=>rep_two (va_int _) (va_err N)⟩
  | _ =>
    refine (Any.strconv_Atoi_syntax_var Tryz.laysC172 s (by omega) ha t1 p1 w h1).mono ?_
    rintro e w1 ⟨N,rfl,_,_,x1⟩
    exact ⟨_,rfl,x1,fun _ _ _ _ _=>rep_two (va_int _) (va_err N)⟩
theorem enters_join:Enters Tryz.prog 83:=enters_of Tryz.func83 (by decide) rfl
theorem strs_row {S:Sb} {w:World} {b:Nat}:∀ {xs:List D} {ss:List ByteArray} {o n:Nat},strsD xs=some ss→RowD S w b n o xs→ss.length=xs.length ∧ ∀ (j:Nat) x,ss[j]? = some x→S b (o + j)∧w.cell? ⟨b,o + j,none⟩=some (.string x)
  | [],ss,o,n,h,_=>by
    cases h
    exact ⟨rfl,fun j x hj=>by simp at hj⟩
  | .s (.string s) :: l,ss,o,n,h,hr=>by
    unfold strsD at h
    obtain ⟨ss',h1,rfl⟩:=Option.map_eq_some_iff.1 h
    unfold RowD at hr
    obtain ⟨⟨us,h2,h3,h4,h5⟩,h6⟩:=hr
    have hn:n=1:=h3.symm
    subst hn
    unfold CellsD at h4
    obtain ⟨rfl,-⟩:=h4
    obtain ⟨k1,k2⟩:=strs_row h1 h6
    refine ⟨by rw [List.length_cons,List.length_cons,k1],fun j x hj=>?_⟩
    cases j with
    | zero =>
      simp only [List.getElem?_cons_zero,Option.some.injEq] at hj
      subst hj
      exact (h5 0 _ rfl).2
    | succ j =>
      rw [List.getElem?_cons_succ] at hj
      have:=k2 j x hj
      rw [show o + 1 + j=o + (j + 1) by omega] at this
      exact this
theorem join_ret {d:Nat} {h:Id→O} {xs:List D} {ss:List ByteArray} {sep:ByteArray} (hs:strsD xs=some ss) (hne:ss.isEmpty=false) (hl:ss.length ≤ 1000000) (hj:(joinB ss sep).length ≤ 1000000):Ret Tryz.prog W2 83 d h [.d (.lst xs),.d (.s (.string sep))] (.val (.s (.string ⟨(joinB ss sep).toArray⟩))) h:=by
  refine ⟨enters_join,fun E ι S w vs hE hd hi hS hw hn hr hvl=>?_⟩
  simp only [VL] at hvl
  obtain ⟨u,us,h1,h2,u2,us2,rfl,h3,rfl⟩:=hvl
  obtain rfl:=va_s h3
  have h2:CellsD S w (.lst xs) [u]:=h2
  unfold CellsD at h2
  obtain ⟨a,cap,e,hcap,hx⟩:=h2
  simp only [List.cons.injEq,and_true] at e
  subst e
  have hvs:vs = #[.slice a xs.length cap,.string sep]:=Array.ext' h1
  subst hvs
  rcases hx with rfl | ⟨b,o,n,rfl,hrow⟩
  · cases hs; cases hne
  · obtain ⟨k1,k2⟩:=strs_row hs hrow
    rw [← k1]
    have hb:b < w.heap.size:=by
      cases ss with
      | nil=>cases hne
      | cons x ss=>exact hr.inw b _ (k2 0 x rfl).1
    refine (Tryz.strings_Join b o cap ss sep w (fun j x hx=>(k2 j x hx).2) hb (by omega) (by omega) (by have:(Lib.join (ss.map (·.data.toList)) sep.data.toList).length ≤ 1000000:=hj; omega)).mono ?_
    rintro e w' ⟨rfl,hb'⟩
    obtain ⟨m,hr'⟩:=hr.grow (S':=S) hb' (fun _ _ h=>h) (fun b o hs=>⟨Or.inl hs,Nat.lt_of_lt_of_le (hr.inw b o hs) hb'.size⟩)
    exact ⟨_,ι,S,rfl,m,hn,hr',rep_s rfl⟩
theorem ext26_ok:ExtOk Tryz.prog W2 ext26:=by
  have same:∀ f g d h l r h',ext26 f=some g→g d h l=some (r,h')→h' = h:=by
    intro f g d h l r h' hf hg
    unfold ext26 at hf
    split at hf
    · cases hf
      unfold itoaE at hg
      split at hg
      · split at hg
        · cases hg; rfl
        · cases hg
      · cases hg
    · split at hf
      · cases hf
        unfold atoiE at hg
        split at hg
        · split at hg
          · cases hg; rfl
          · cases hg
        · cases hg
      · split at hf
        · cases hf
          unfold replE at hg
          split at hg
          · split at hg
            · cases hg; rfl
            · cases hg
          · cases hg
        · split at hf
          · cases hf
            unfold trimLE at hg
            split at hg
            · split at hg
              · cases hg; rfl
              · cases hg
            · cases hg
          · split at hf
            · cases hf
              unfold containsE at hg
              split at hg
              · split at hg
                · cases hg; rfl
                · cases hg
              · cases hg
            · split at hf
              · cases hf
                unfold joinE at hg
                split at hg
                · split at hg
                  · split at hg
                    · cases hg; rfl
                    · cases hg
                  · cases hg
                · cases hg
              · cases hf
  refine ⟨by kernel_rfl,w2_keep,fun f g d h l r h' hf hg i _=>by rw [same f g d h l r h' hf hg],fun f g d h l r h' hf hg=>?_⟩
  obtain rfl:=same f g d h l r h' hf hg
  unfold ext26 at hf
  split at hf
  · rename_i e; subst e
    cases hf
    unfold itoaE at hg
    split at hg
    · split at hg
      · rename_i n hc
        cases hg
        exact itoa_ret hc.1 hc.2
      · cases hg
    · cases hg
  · split at hf
    · rename_i e; subst e
      cases hf
      unfold atoiE at hg
      split at hg
      · split at hg
        · rename_i s hc
          cases hg
          exact atoi_ret hc
        · cases hg
      · cases hg
    · split at hf
      · rename_i e; subst e
        cases hf
        unfold replE at hg
        split at hg
        · split at hg
          · rename_i s a b hc
            cases hg
            exact repl_ret hc.1 hc.2.1 hc.2.2
          · cases hg
        · cases hg
      · split at hf
        · rename_i e; subst e
          cases hf
          unfold trimLE at hg
          split at hg
          · split at hg
            · rename_i s a hc
              cases hg
              exact trim_ret hc.2
            · cases hg
          · cases hg
        · split at hf
          · rename_i e; subst e
            cases hf
            unfold containsE at hg
            split at hg
            · split at hg
              · rename_i a b hc
                cases hg
                exact cont_ret hc.1 hc.2
              · cases hg
            · cases hg
          · split at hf
            · rename_i e; subst e
              cases hf
              unfold joinE at hg
              split at hg
              · split at hg
                · rename_i ss hss
                  split at hg
                  · rename_i hc
                    cases hg
                    exact join_ret hss hc.1 hc.2.1 hc.2.2
                  · cases hg
                · cases hg
              · cases hg
            · cases hf
end
end Go.Proofs.YtenoggjjhamdaaaGreatDoor
section
namespace Go.Proofs.YtenoggjjhamdaaaGreatDoor
open Go.RowKit Go.ChangeShapes Go.WideShapes Go.Deep
def Opens {α:Type} (P:Program) (t:TypeId) (n:Nat) (R:World→α→List Value→Prop):Prop :=
  P.cellsOf t=n ∧ ∀ {H:Type} (enc:TypeId × Value→H) (w:World) (spare:Nat→Bool) (held:Bool) (fuel:Nat) (cs:List Value) (x:DataW H × List MemPlace),
    DataW.trod enc P w 0 spare held fuel t cs=some x→(∀ m ∈ x.1.weights P t,m ≤ reachBytes)→∃ y,R w y cs
def stringOk (_:World) (s:ByteArray) (l:List Value):Prop:=l=[.string s]∧s.size ≤ reachBytes
def boolOk (_:World) (b:Bool) (l:List Value):Prop:=l=[.bool b]
def intIs (k:IntKind) (_:World) (n:Int) (l:List Value):Prop:=l=[.int k n]∧(Lit.int k n).wf=true
def sliceOk {α:Type} (n bytes:Nat) (R:World→α→List Value→Prop) (w:World) (xs:List α) (l:List Value):Prop:=∃ v,l=[v]∧SliceOf n R w v xs∧xs.length * bytes ≤ reachBytes
theorem opens_string {P:Program} {t:TypeId} (ht:P.underlying t=some .string) (hc:P.cellsOf t=1):Opens P t 1 stringOk :=
  ⟨hc,fun enc w spare held fuel cs x h hw=>by
    obtain ⟨s,rfl,rfl,_⟩:=DataW.trod_string ht h
    refine ⟨s,rfl,?_⟩
    have:=hw s.data.toList.length (by simp [DataW.weights])
    simpa using this⟩
theorem opens_bool {P:Program} {t:TypeId} (ht:P.underlying t=some .bool) (hc:P.cellsOf t=1):Opens P t 1 boolOk :=
  ⟨hc,fun enc w spare held fuel cs x h _=>by
    obtain ⟨s,rfl,rfl⟩:=DataW.trod_bool ht h
    exact ⟨s,rfl⟩⟩
theorem opens_int {P:Program} {t:TypeId} {k:IntKind} (ht:P.underlying t=some (.int k)) (hc:P.cellsOf t=1):Opens P t 1 (intIs k) :=
  ⟨hc,fun enc w spare held fuel cs x h _=>by
    obtain ⟨n,rfl,rfl,hw⟩:=DataW.trod_int ht h
    exact ⟨n,rfl,hw⟩⟩
theorem addr_plain {w:World} {a:Addr} {v:Value} (h:w.cell? a=some v):a=⟨a.block,a.off,none⟩:=by
  obtain ⟨b,o,s⟩:=a
  cases s with
  | none=>rfl
  | some k =>
    unfold World.cell? at h
    split at h
    · simp at h
    · simp at h
theorem add_eq (b o j:Nat):(⟨b,o,none⟩:Addr).add j=⟨b,o + j,none⟩:=by
  unfold Addr.add
  by_cases hj:j=0
  · simp [hj]
  · simp [hj]
theorem weights_elem {H:Type} {P:Program} {e:TypeId} {l:List (DataW H)} {d:DataW H} (h:d ∈ l):∀ m ∈ d.weights P e,m ∈ DataW.weightsAll P e l:=by
  intro m hm
  induction l with
  | nil=>simp at h
  | cons x l ih =>
    simp only [DataW.weightsAll,List.mem_append]
    rcases List.mem_cons.1 h with rfl | h
    · exact Or.inl hm
    · exact Or.inr (ih h)
theorem Opens.arg {P:Program} {α:Type} {t:TypeId} {n:Nat} {R:World→α→List Value→Prop} (hR:Opens P t n R) {H:Type} {enc:TypeId × Value→H} {w:World} {spare:Nat→Bool} {held:Bool} {v:Value} {d:DataW H} {ps:List MemPlace}
    (h:DataW.Trod enc P w 0 spare held t v d ps) (hw:∀ m ∈ d.weights P t,m ≤ reachBytes):∃ y,R w y v.cells.toList:=by
  obtain ⟨fuel,hf⟩:=h
  exact hR.2 enc w spare held fuel _ _ hf hw
theorem reach_arg {H:Type} {P:Program} {ts:List TypeId} {ds:List (DataW H)} (h:(DataW.weightsEach P ts ds).all (· ≤ reachBytes)=true) {j:Nat} {t:TypeId} {d:DataW H} (ht:ts[j]? = some t) (hd:ds[j]? = some d):∀ m ∈ d.weights P t,m ≤ reachBytes:=fun m hm=>by
  have:=List.all_eq_true.1 h _ (DataW.weights_mem_each ht hd m hm)
  simpa using this
end Go.Proofs.YtenoggjjhamdaaaGreatDoor
end
section
namespace Go.Proofs.YtenoggjjhamdaaaGreatDoor
open Go Go.RowKit Go.ChangeShapes Go.WideShapes Go.Deep
def OpensN {α:Type} (N:Nat) (P:Program) (t:TypeId) (n:Nat) (R:World→α→List Value→Prop):Prop :=
  P.cellsOf t=n ∧ ∀ {H:Type} (enc:TypeId × Value→H) (w:World) (spare:Nat→Bool) (held:Bool) (fuel:Nat) (cs:List Value) (x:DataW H × List MemPlace),SizeOf.sizeOf x.1 < N →
    DataW.trod enc P w 0 spare held fuel t cs=some x→(∀ m ∈ x.1.weights P t,m ≤ reachBytes)→∃ y,R w y cs
theorem Opens.n {α:Type} {N:Nat} {P:Program} {t:TypeId} {n:Nat} {R:World→α→List Value→Prop} (h:Opens P t n R):OpensN N P t n R:=⟨h.1,fun enc w spare held fuel cs x _=>h.2 enc w spare held fuel cs x⟩
theorem OpensN.all {α:Type} {P:Program} {t:TypeId} {n:Nat} {R:World→α→List Value→Prop} (h:∀ N,OpensN N P t n R):Opens P t n R:=⟨(h 0).1,fun enc w spare held fuel cs x=>(h (SizeOf.sizeOf x.1 + 1)).2 enc w spare held fuel cs x (Nat.lt_succ_self _)⟩
theorem OpensN.down {α:Type} {N:Nat} {P:Program} {t:TypeId} {n:Nat} {R:World→α→List Value→Prop} (h:OpensN (N + 1) P t n R):OpensN N P t n R:=⟨h.1,fun enc w spare held fuel cs x hx=>h.2 enc w spare held fuel cs x (Nat.lt_succ_of_lt hx)⟩
theorem opens_sliceN {N:Nat} {P:Program} {α:Type} {t e:TypeId} {n bytes:Nat} {R:World→α→List Value→Prop} (ht:P.underlying t=some (.slice e)) (hc:P.cellsOf t=1) (hn:0 < n) (hb:P.bytesOf e=bytes) (he:OpensN N P e n R):OpensN (N + 1) P t 1 (sliceOk n bytes R):=by
  refine ⟨hc,fun enc w spare held fuel cs x hN h hw=>?_⟩
  rcases open_slice ht h with ⟨rfl,rfl⟩ | ⟨a,len,cap,m,k,D,Pl,rfl,_,hl,hm,hmm,rfl,hx⟩
  · exact ⟨[],_,rfl,SliceOf.nil,by simp⟩
  have hlm:len ≤ m:=by rw [hmm]; split <;> omega
  have hwl:=hw ((((List.range len).map D).length + ((List.range (m - len)).map fun j=>D (len + j)).length) * P.bytesOf e) (by simp [DataW.weights,ht])
  simp only [List.length_map,List.length_range,hb] at hwl
  have hel:∀ i,i < len→∃ y cs',w.cells? 0 (a.add (i * n)) n=some cs' ∧ R w y cs':=by
    intro i hi
    obtain ⟨cs',h1,h2⟩:=hx i (by omega)
    rw [he.1] at h1
    have hmem:D i ∈ (List.range len).map D:=List.mem_map.2 ⟨i,List.mem_range.2 hi,rfl⟩
    have hsz:SizeOf.sizeOf (D i) < N:=by
      have h3:=List.sizeOf_lt_of_mem hmem
      simp only [DataW.slice.sizeOf_spec] at hN
      omega
    obtain ⟨y,hy⟩:=he.2 enc w spare held k cs' _ hsz h2 (fun q hq=>hw q (by
      simp only [DataW.weights,ht,List.mem_cons,List.mem_append]
      exact Or.inr (Or.inl (weights_elem hmem q hq))))
    exact ⟨y,cs',h1,hy⟩
  by_cases h0:len=0
  · subst h0
    exact ⟨[],_,rfl,⟨some a,cap,rfl,by simp,hm,by simp,fun i hi=>by simp at hi⟩,by simp⟩
  · obtain ⟨b,off,rfl⟩:∃ b off,a=⟨b,off,none⟩:=by
      obtain ⟨y,cs',h1,_⟩:=hel 0 (by omega)
      obtain ⟨_,h2,h3⟩:=World.cells?_some h1
      have h4:=h3 0 hn
      rw [Nat.zero_mul,add_add] at h4
      have:cs'[0]? = some (cs'[0]'(by omega)):=List.getElem?_eq_getElem (by omega)
      rw [this] at h4
      have h5:a.add (0 + 0)=a:=by simp [Addr.add]
      rw [h5] at h4
      exact ⟨_,_,addr_plain h4⟩
    have hch:∀ i:Fin len,∃ y,∃ cs',w.cells? 0 ((⟨b,off,none⟩:Addr).add (i.val * n)) n=some cs' ∧ R w y cs':=fun i=>hel i.val i.isLt
    let f:Fin len→α:=fun i=>Classical.choose (hch i)
    have hf:∀ i:Fin len,∃ cs',w.cells? 0 ((⟨b,off,none⟩:Addr).add (i.val * n)) n=some cs' ∧ R w (f i) cs':=fun i=>Classical.choose_spec (hch i)
    have hlen:(List.ofFn f).length=len:=by simp
    refine ⟨List.ofFn f,_,rfl,⟨some ⟨b,off,none⟩,cap,by rw [hlen],by omega,hm,by simp,fun i hi=>⟨b,off,rfl,?_⟩⟩,?_⟩
    · obtain ⟨cs',h1,h2⟩:=hf ⟨i,by omega⟩
      obtain ⟨_,h3,h4⟩:=World.cells?_some h1
      refine ⟨cs',h3,by simpa using h2,fun j hj=>?_⟩
      have h5:=h4 j (by omega)
      rw [add_add,add_eq,List.getElem?_eq_getElem hj] at h5
      simpa [Nat.add_assoc] using h5
    · rw [hlen]
      refine Nat.le_trans (Nat.mul_le_mul_right _ ?_) hwl
      omega
theorem opens_fieldsN {N:Nat} {P:Program} {t:TypeId} {fs:Array Field} (ht:P.underlying t=some (.struct fs)) {H:Type} {enc:TypeId × Value→H} {w:World} {spare:Nat→Bool} {held:Bool} {fuel:Nat} {cs:List Value} {x:DataW H × List MemPlace} (hN:SizeOf.sizeOf x.1 < N + 1)
    (h:DataW.trod enc P w 0 spare held fuel t cs=some x) (hw:∀ m ∈ x.1.weights P t,m ≤ reachBytes) :
    cs.length=P.cellsOf t ∧ ∀ (i:Nat) (f:Field),fs[i]? = some f→∀ {α:Type} (n:Nat) (R:World→α→List Value→Prop),OpensN N P f.type n R→∃ y,R w y ((cs.drop f.offset).take n):=by
  obtain ⟨xs,k,_,rfl,hl,hlen,hf⟩:=DataW.trod_struct ht h
  refine ⟨hl,fun i f hi α n R hR=>?_⟩
  have h1:=hf i f hi
  have hlt:i < xs.length:=by rw [hlen]; exact (Array.getElem?_eq_some_iff.1 hi).1
  rw [List.getElem?_eq_getElem hlt,hR.1] at h1
  have hsz:SizeOf.sizeOf xs[i].1 < N:=by
    have h3:xs[i].1 ∈ xs.map (·.1):=List.mem_map.2 ⟨_,List.getElem_mem hlt,rfl⟩
    have h4:=List.sizeOf_lt_of_mem h3
    simp only [DataW.agg.sizeOf_spec] at hN
    omega
  refine hR.2 enc w spare held k _ _ hsz h1 (fun m hm=>hw m ?_)
  simp only [DataW.weights,ht]
  refine DataW.weights_mem_each (j:=i) (t:=f.type) (d:=xs[i].1) ?_ ?_ m hm
  · simp [hi]
  · simp [hlt]
abbrev AllS (w:World):Sb:=fun b _=>b < w.heap.size
def OD (ty:Ty) (w:World) (x:D) (l:List Value):Prop:=CellsL (AllS w) w x.cells l∧ShT RB ty x ∧ ∀ u ∈ l,u.oneCell' = true
theorem od_flat {ty:Ty} {w:World} {x:D} {u:Value} (hf:x.flat=true) (h:CellsD (AllS w) w x [u]) (ht:ShT RB ty x) (ho:u.oneCell' = true):OD ty w x [u]:=by
  refine ⟨?_,ht,fun v hv=>by simp only [List.mem_singleton] at hv; subst hv; exact ho⟩
  have e:x.cells=[x]:=by cases x <;> first | rfl | cases hf
  rw [e]
  unfold CellsL CellsL
  exact ⟨u,[],rfl,⟨hf,h⟩,rfl⟩
theorem opStrD {N:Nat}:OpensN N Tryz.prog 9 1 (OD (.str bS)):=by
  refine Opens.n ⟨by kernel_rfl,fun enc w spare held fuel cs x h hw=>?_⟩
  obtain ⟨s,rfl,hs⟩:=(opens_string Tryz.underlying9 (by kernel_rfl)).2 enc w spare held fuel cs x h hw
  refine ⟨.s (.string s),od_flat rfl (by unfold CellsD; exact ⟨rfl,rfl⟩) ?_ rfl⟩
  unfold ShT
  exact ⟨s,rfl,Nat.le_trans hs (by decide)⟩
theorem opIntD {N:Nat}:OpensN N Tryz.prog 3 1 (OD tI):=by
  refine Opens.n ⟨by kernel_rfl,fun enc w spare held fuel cs x h hw=>?_⟩
  obtain ⟨n,rfl,hs⟩:=(opens_int (k:=.i64) Tryz.underlying3 (by kernel_rfl)).2 enc w spare held fuel cs x h hw
  refine ⟨.s (.int .i64 n),od_flat rfl (by unfold CellsD; exact ⟨rfl,rfl⟩) ?_ rfl⟩
  unfold ShT
  exact ⟨n,rfl⟩
theorem opBoolD {N:Nat}:OpensN N Tryz.prog 4 1 (OD .bool):=by
  refine Opens.n ⟨by kernel_rfl,fun enc w spare held fuel cs x h hw=>?_⟩
  obtain ⟨n,rfl⟩:=(opens_bool Tryz.underlying4 (by kernel_rfl)).2 enc w spare held fuel cs x h hw
  refine ⟨.s (.bool n),od_flat rfl (by unfold CellsD; exact ⟨rfl,rfl⟩) ?_ rfl⟩
  unfold ShT
  exact ⟨n,rfl⟩
theorem cellsD_of {S:Sb} {w:World} {x:D} {l:List Value} (h:CellsL S w x.cells l):CellsD S w x l:=by
  have flat:∀ y:D,CellsL S w [y] l→CellsD S w y l:=fun y h=>by
    unfold CellsL CellsL at h
    obtain ⟨u,us,rfl,⟨_,h2⟩,rfl⟩:=h
    exact h2
  cases x with
  | agg ys=>unfold CellsD; exact h
  | s v=>exact flat _ h
  | lst xs=>exact flat _ h
  | ifc t y=>exact flat _ h
  | any=>exact flat _ h
theorem opSliceD {N n bytes:Nat} {t e:TypeId} {ty:Ty} (ht:Tryz.prog.underlying t=some (.slice e)) (hc:Tryz.prog.cellsOf t=1) (hn:0 < n) (hb:Tryz.prog.bytesOf e=bytes) (hpos:0 < bytes) (he:OpensN N Tryz.prog e n (OD ty)):OpensN (N + 1) Tryz.prog t 1 (OD (.lst ty bB)):=by
  refine ⟨hc,fun enc w spare held fuel cs x hN h hw=>?_⟩
  obtain ⟨xs,v,rfl,hs,hlim⟩:=(opens_sliceN ht hc hn hb he).2 enc w spare held fuel cs x hN h hw
  obtain ⟨a,cap,rfl,h2,h3,h4,h5⟩:=hs.out
  have hlen:xs.length ≤ bB:=by
    have h6:xs.length * 1 ≤ xs.length * bytes:=Nat.mul_le_mul_left _ hpos
    have h7:reachBytes ≤ bB:=by decide
    omega
  have hel:∀ i (hi:i < xs.length),∃ l,OD ty w xs[i] l:=fun i hi=>by
    obtain ⟨b,off,ha,l,hl,hR,_⟩:=h5 i hi
    exact ⟨l,hR⟩
  refine ⟨.lst xs,od_flat rfl ?_ ?_ rfl⟩
  · unfold CellsD
    refine ⟨a,cap,by simp,by simpa using h2,?_⟩
    by_cases h0:xs=[]
    · exact Or.inl h0
    · right
      have hp:0 < xs.length:=List.length_pos_iff.2 h0
      obtain ⟨b,off,ha,_⟩:=h5 0 hp
      refine ⟨b,off,n,ha,RowD_get.2 fun i x hx=>?_⟩
      obtain ⟨hi,rfl⟩:=List.getElem?_eq_some_iff.1 hx
      obtain ⟨b',off',ha',l,hl,hR,hcl⟩:=h5 i hi
      rw [ha] at ha'
      simp only [Option.some.injEq,Addr.mk.injEq] at ha'
      obtain ⟨rfl,rfl,_⟩:=ha'
      refine ⟨l,hl,?_,cellsD_of hR.1,fun j u hj=>?_⟩
      · have:=(CellsL_get.1 hR.1).1
        omega
      · obtain ⟨hj',rfl⟩:=List.getElem?_eq_some_iff.1 hj
        have h6:=hcl j hj'
        exact ⟨hR.2.2 _ (List.getElem_mem hj'),lt_of_cell h6,h6⟩
  · unfold ShT
    exact ⟨xs,rfl,hlen,fun y hy=>by
      obtain ⟨i,hi,rfl⟩:=List.getElem_of_mem hy
      obtain ⟨l,hl⟩:=hel i hi
      exact hl.2.1⟩
theorem od_one {ty:Ty} {w:World} {y:D} {c:Value} (h:OD ty w y [c]) (hf:y.flat=true):CellsD (AllS w) w y [c]:=cellsD_of h.1
theorem cells_cons {S:Sb} {w:World} {x:D} {xs:List D} {u:Value} {us:List Value} (hf:x.flat=true) (h:CellsD S w x [u]) (k:CellsL S w xs us):CellsL S w (x :: xs) (u :: us):=by
  unfold CellsL
  exact ⟨u,us,rfl,⟨hf,h⟩,k⟩
theorem cells_nil {S:Sb} {w:World}:CellsL S w [] []:=by unfold CellsL; rfl
theorem od_int {w:World} {y:D} {c:Value} (h:OD tI w y [c]):∃ n,y = .s (.int .i64 n)∧CellsD (AllS w) w y [c]∧c.oneCell' = true:=by
  have:=h.2.1
  unfold ShT at this
  obtain ⟨n,rfl⟩:=this
  exact ⟨n,rfl,od_one h rfl,h.2.2 c List.mem_cons_self⟩
theorem od_str {w:World} {y:D} {c:Value} (h:OD (.str bS) w y [c]):(∃ s,y = .s (.string s)∧s.size ≤ bS)∧CellsD (AllS w) w y [c]∧c.oneCell' = true:=by
  have:=h.2.1
  unfold ShT at this
  obtain ⟨s,rfl,hs⟩:=this
  exact ⟨⟨s,rfl,hs⟩,od_one h rfl,h.2.2 c List.mem_cons_self⟩
theorem od_bool {w:World} {y:D} {c:Value} (h:OD .bool w y [c]):(∃ b,y = .s (.bool b))∧CellsD (AllS w) w y [c]∧c.oneCell' = true:=by
  have:=h.2.1
  unfold ShT at this
  obtain ⟨s,rfl⟩:=this
  exact ⟨⟨s,rfl⟩,od_one h rfl,h.2.2 c List.mem_cons_self⟩
theorem od_lst {ty:Ty} {b:Nat} {w:World} {y:D} {c:Value} (h:OD (.lst ty b) w y [c]):(∃ xs,y = .lst xs∧xs.length ≤ b ∧ ∀ x ∈ xs,ShT RB ty x)∧CellsD (AllS w) w y [c]∧c.oneCell' = true:=by
  have:=h.2.1
  unfold ShT at this
  obtain ⟨s,rfl,hs⟩:=this
  exact ⟨⟨s,rfl,hs⟩,od_one h rfl,h.2.2 c List.mem_cons_self⟩
theorem ShL_cons {R:Nat→D→Prop} {t:Ty} {ts:List Ty} {x:D} {l:List D} (h:ShT R t x) (k:ShL R ts l):ShL R (t :: ts) (x :: l):=by
  unfold ShL
  exact ⟨x,l,rfl,h,k⟩
theorem ShL_nil {R:Nat→D→Prop}:ShL R [] []:=by unfold ShL; rfl
theorem shT_int {R:Nat→D→Prop} {n:Int}:ShT R tI (.s (.int .i64 n)):=by unfold ShT; exact ⟨n,rfl⟩
theorem shT_bool {R:Nat→D→Prop} {b:Bool}:ShT R .bool (.s (.bool b)):=by unfold ShT; exact ⟨b,rfl⟩
theorem shT_str {R:Nat→D→Prop} {b:Nat} {s:ByteArray} (h:s.size ≤ b):ShT R (.str b) (.s (.string s)):=by unfold ShT; exact ⟨s,rfl,h⟩
theorem shT_lst {R:Nat→D→Prop} {e:Ty} {b:Nat} {xs:List D} (h:xs.length ≤ b) (k:∀ x ∈ xs,ShT R e x):ShT R (.lst e b) (.lst xs):=by unfold ShT; exact ⟨xs,rfl,h,k⟩
theorem pos_of {n:Nat} (h:Nat.blt 0 n=true):0 < n:=by simpa using h
theorem opFrnD {N:Nat}:OpensN N Tryz.prog 285 3 (OD (.st [tI,tI,tI])):=by
  refine OpensN.down ⟨by kernel_rfl,fun enc w spare held fuel cs x hN h hw=>?_⟩
  obtain ⟨hl,hf⟩:=opens_fieldsN (N:=N) Tryz.underlying285 hN h hw
  rw [show Tryz.prog.cellsOf 285=3 by kernel_rfl] at hl
  match cs,hl with
  | [c0,c1,c2],_ =>
  obtain ⟨y0,h0⟩:=hf 0 _ rfl 1 _ opIntD
  obtain ⟨y1,h1⟩:=hf 1 _ rfl 1 _ opIntD
  obtain ⟨y2,h2⟩:=hf 2 _ rfl 1 _ opIntD
  obtain ⟨n0,rfl,k0,q0⟩:=od_int (c:=c0) h0
  obtain ⟨n1,rfl,k1,q1⟩:=od_int (c:=c1) h1
  obtain ⟨n2,rfl,k2,q2⟩:=od_int (c:=c2) h2
  refine ⟨.agg [_,_,_],(cells_cons rfl k0 (cells_cons rfl k1 (cells_cons rfl k2 cells_nil))),?_,fun u hu=>?_⟩
  · unfold ShT
    refine ⟨_,rfl,?_⟩
    refine ShL_cons shT_int ?_
    refine ShL_cons shT_int ?_
    refine ShL_cons shT_int ?_
    exact ShL_nil
  · simp only [List.mem_cons,List.not_mem_nil,or_false] at hu
    rcases hu with rfl | rfl | rfl <;> assumption
theorem opSmD {N:Nat}:OpensN N Tryz.prog 287 3 (OD (.st [tI,tI,tI])):=by
  refine OpensN.down ⟨by kernel_rfl,fun enc w spare held fuel cs x hN h hw=>?_⟩
  obtain ⟨hl,hf⟩:=opens_fieldsN (N:=N) Tryz.underlying287 hN h hw
  rw [show Tryz.prog.cellsOf 287=3 by kernel_rfl] at hl
  match cs,hl with
  | [c0,c1,c2],_ =>
  obtain ⟨y0,h0⟩:=hf 0 _ rfl 1 _ opIntD
  obtain ⟨y1,h1⟩:=hf 1 _ rfl 1 _ opIntD
  obtain ⟨y2,h2⟩:=hf 2 _ rfl 1 _ opIntD
  obtain ⟨n0,rfl,k0,q0⟩:=od_int (c:=c0) h0
  obtain ⟨n1,rfl,k1,q1⟩:=od_int (c:=c1) h1
  obtain ⟨n2,rfl,k2,q2⟩:=od_int (c:=c2) h2
  refine ⟨.agg [_,_,_],(cells_cons rfl k0 (cells_cons rfl k1 (cells_cons rfl k2 cells_nil))),?_,fun u hu=>?_⟩
  · unfold ShT
    refine ⟨_,rfl,?_⟩
    refine ShL_cons shT_int ?_
    refine ShL_cons shT_int ?_
    refine ShL_cons shT_int ?_
    exact ShL_nil
  · simp only [List.mem_cons,List.not_mem_nil,or_false] at hu
    rcases hu with rfl | rfl | rfl <;> assumption
theorem opColD {N:Nat}:OpensN N Tryz.prog 108 4 (OD (.st cCol)):=by
  refine OpensN.down ⟨by kernel_rfl,fun enc w spare held fuel cs x hN h hw=>?_⟩
  obtain ⟨hl,hf⟩:=opens_fieldsN (N:=N) Tryz.underlying108 hN h hw
  rw [show Tryz.prog.cellsOf 108=4 by kernel_rfl] at hl
  match cs,hl with
  | [c0,c1,c2,c3],_ =>
  obtain ⟨y0,h0⟩:=hf 0 _ rfl 1 _ opStrD
  obtain ⟨y1,h1⟩:=hf 1 _ rfl 1 _ opIntD
  obtain ⟨y2,h2⟩:=hf 2 _ rfl 1 _ opIntD
  obtain ⟨y3,h3⟩:=hf 3 _ rfl 1 _ opBoolD
  obtain ⟨⟨n0,rfl,z0⟩,k0,q0⟩:=od_str (c:=c0) h0
  obtain ⟨n1,rfl,k1,q1⟩:=od_int (c:=c1) h1
  obtain ⟨n2,rfl,k2,q2⟩:=od_int (c:=c2) h2
  obtain ⟨⟨n3,rfl⟩,k3,q3⟩:=od_bool (c:=c3) h3
  refine ⟨.agg [_,_,_,_],(cells_cons rfl k0 (cells_cons rfl k1 (cells_cons rfl k2 (cells_cons rfl k3 cells_nil)))),?_,fun u hu=>?_⟩
  · unfold ShT
    refine ⟨_,rfl,?_⟩
    refine ShL_cons (shT_str z0) ?_
    refine ShL_cons shT_int ?_
    refine ShL_cons shT_int ?_
    refine ShL_cons shT_bool ?_
    exact ShL_nil
  · simp only [List.mem_cons,List.not_mem_nil,or_false] at hu
    rcases hu with rfl | rfl | rfl | rfl <;> assumption
theorem opValD {N:Nat}:OpensN N Tryz.prog 44 3 (OD (.st [tI,tI,.str bS])):=by
  refine OpensN.down ⟨by kernel_rfl,fun enc w spare held fuel cs x hN h hw=>?_⟩
  obtain ⟨hl,hf⟩:=opens_fieldsN (N:=N) Tryz.underlying44 hN h hw
  rw [show Tryz.prog.cellsOf 44=3 by kernel_rfl] at hl
  match cs,hl with
  | [c0,c1,c2],_ =>
  obtain ⟨y0,h0⟩:=hf 0 _ rfl 1 _ opIntD
  obtain ⟨y1,h1⟩:=hf 1 _ rfl 1 _ opIntD
  obtain ⟨y2,h2⟩:=hf 2 _ rfl 1 _ opStrD
  obtain ⟨n0,rfl,k0,q0⟩:=od_int (c:=c0) h0
  obtain ⟨n1,rfl,k1,q1⟩:=od_int (c:=c1) h1
  obtain ⟨⟨n2,rfl,z2⟩,k2,q2⟩:=od_str (c:=c2) h2
  refine ⟨.agg [_,_,_],(cells_cons rfl k0 (cells_cons rfl k1 (cells_cons rfl k2 cells_nil))),?_,fun u hu=>?_⟩
  · unfold ShT
    refine ⟨_,rfl,?_⟩
    refine ShL_cons shT_int ?_
    refine ShL_cons shT_int ?_
    refine ShL_cons (shT_str z2) ?_
    exact ShL_nil
  · simp only [List.mem_cons,List.not_mem_nil,or_false] at hu
    rcases hu with rfl | rfl | rfl <;> assumption
theorem cells_inv {S:Sb} {w:World} {x:D} {xs:List D} {u:Value} {us:List Value} (h:CellsL S w (x :: xs) (u :: us)):x.flat=true∧CellsD S w x [u]∧CellsL S w xs us:=by
  unfold CellsL at h
  obtain ⟨u',us',h1,⟨hf,h2⟩,h3⟩:=h
  simp only [List.cons.injEq] at h1
  obtain ⟨rfl,rfl⟩:=h1
  exact ⟨hf,h2,h3⟩
theorem od_val {w:World} {y:D} {a b c:Value} (h:OD (.st [tI,tI,.str bS]) w y [a,b,c]):∃ (m n:Int) (s:ByteArray),y = .agg [.s (.int .i64 m),.s (.int .i64 n),.s (.string s)]∧s.size ≤ bS∧CellsD (AllS w) w (.s (.int .i64 m)) [a]∧CellsD (AllS w) w (.s (.int .i64 n)) [b]∧CellsD (AllS w) w (.s (.string s)) [c]∧a.oneCell' = true∧b.oneCell' = true∧c.oneCell' = true:=by
  obtain ⟨h1,h2,h3⟩:=h
  simp only [ShT,ShL] at h2
  obtain ⟨_,rfl,_,_,rfl,⟨m,rfl⟩,_,_,rfl,⟨n,rfl⟩,_,_,rfl,⟨s,rfl,hs⟩,rfl⟩:=h2
  have h1:CellsL (AllS w) w [.s (.int .i64 m),.s (.int .i64 n),.s (.string s)] [a,b,c]:=h1
  obtain ⟨_,k1,h1⟩:=cells_inv h1
  obtain ⟨_,k2,h1⟩:=cells_inv h1
  obtain ⟨_,k3,_⟩:=cells_inv h1
  exact ⟨m,n,s,rfl,hs,k1,k2,k3,h3 _ (by simp),h3 _ (by simp),h3 _ (by simp)⟩
theorem ShB_succ:∀ {k:Nat} {x:D},ShB k x→ShB (k + 1) x
  | 0,x,h=>h.elim
  | k + 1,x,h=>by
    obtain ⟨ds,h1,h2⟩:=h
    exact ⟨ds,h1,ShL_mono (fun i y hy=>⟨hy.1,ShB_succ hy.2⟩) h2⟩
theorem ShB_mono {a b:Nat} {x:D} (hab:a ≤ b) (h:ShB a x):ShB b x:=by
  obtain ⟨k,rfl⟩:=Nat.exists_eq_add_of_le hab
  induction k with
  | zero=>exact h
  | succ k ih=>exact ShB_succ (ih (by omega))
theorem ShB_all:∀ {xs:List D},(∀ x ∈ xs,∃ m,ShB m x)→∃ m,∀ x ∈ xs,ShB m x
  | [],_=>⟨0,fun x hx=>nomatch hx⟩
  | x :: xs,h=>by
    obtain ⟨a,ha⟩:=h x List.mem_cons_self
    obtain ⟨b,hb⟩:=ShB_all (xs:=xs) fun y hy=>h y (List.mem_cons_of_mem _ hy)
    refine ⟨max a b,fun y hy=>?_⟩
    rcases List.mem_cons.1 hy with rfl | hy
    · exact ShB_mono (Nat.le_max_left _ _) ha
    · exact ShB_mono (Nat.le_max_right _ _) (hb y hy)
theorem opExpD:∀ {N:Nat},OpensN N Tryz.prog 59 6 (OD (.nm 551))
  | 0=>⟨by kernel_rfl,fun enc w spare held fuel cs x hN h hw=>absurd hN (Nat.not_lt_zero _)⟩
  | N + 1=>by
    refine ⟨by kernel_rfl,fun enc w spare held fuel cs x hN h hw=>?_⟩
    obtain ⟨hl,hf⟩:=opens_fieldsN (N:=N) Tryz.underlying59 hN h hw
    rw [show Tryz.prog.cellsOf 59=6 by kernel_rfl] at hl
    match cs,hl with
    | [c0,c1,c2,c3,c4,c5],_ =>
    obtain ⟨y0,h0⟩:=hf 0 _ rfl 1 _ opIntD
    obtain ⟨y1,h1⟩:=hf 1 _ rfl 1 _ opIntD
    obtain ⟨y2,h2⟩:=hf 2 _ rfl 3 _ opValD
    obtain ⟨y3,h3⟩:=hf 3 _ rfl 1 _ (opSliceD Tryz.underlying28 (by kernel_rfl) (by decide) rfl (pos_of (by kernel_rfl)) opExpD).down
    obtain ⟨n0,rfl,k0,q0⟩:=od_int (c:=c0) h0
    obtain ⟨n1,rfl,k1,q1⟩:=od_int (c:=c1) h1
    obtain ⟨m,n,s,rfl,hs,k2,k3,k4,q2,q3,q4⟩:=od_val (a:=c2) (b:=c3) (c:=c4) h2
    obtain ⟨⟨xs,rfl,hl5,hx5⟩,k5,q5⟩:=od_lst (c:=c5) h3
    obtain ⟨M,hM⟩:=ShB_all (xs:=xs) fun x hx=>by
      have:=hx5 x hx
      unfold ShT at this
      exact this.2
    refine ⟨.agg [_,_,_,_,_,_],cells_cons rfl k0 (cells_cons rfl k1 (cells_cons rfl k2 (cells_cons rfl k3 (cells_cons rfl k4 (cells_cons rfl k5 cells_nil))))),?_,fun u hu=>?_⟩
    · unfold ShT
      refine ⟨rfl,M + 1,_,rfl,?_⟩
      refine ShL_cons shT_int (ShL_cons shT_int (ShL_cons shT_int (ShL_cons shT_int (ShL_cons (shT_str hs) (ShL_cons (shT_lst hl5 fun x hx=>?_) ShL_nil)))))
      unfold ShT
      exact ⟨rfl,hM x hx⟩
    · simp only [List.mem_cons,List.not_mem_nil,or_false] at hu
      rcases hu with rfl | rfl | rfl | rfl | rfl | rfl <;> assumption
theorem opTblD {N:Nat}:OpensN N Tryz.prog 98 6 (OD (.st cTabB)):=by
  refine OpensN.down ⟨by kernel_rfl,fun enc w spare held fuel cs x hN h hw=>?_⟩
  obtain ⟨hl,hf⟩:=opens_fieldsN (N:=N) Tryz.underlying98 hN h hw
  rw [show Tryz.prog.cellsOf 98=6 by kernel_rfl] at hl
  match cs,hl with
  | [c0,c1,c2,c3,c4,c5],_ =>
  obtain ⟨y0,h0⟩:=hf 0 _ rfl 1 _ opStrD
  obtain ⟨y1,h1⟩:=hf 1 _ rfl 1 _ (opSliceD Tryz.underlying94 (by kernel_rfl) (by decide) rfl (pos_of (by kernel_rfl)) opColD).down
  obtain ⟨y2,h2⟩:=hf 2 _ rfl 1 _ (opSliceD Tryz.underlying30 (by kernel_rfl) (by decide) rfl (pos_of (by kernel_rfl)) opIntD).down
  obtain ⟨y3,h3⟩:=hf 3 _ rfl 1 _ (opSliceD Tryz.underlying28 (by kernel_rfl) (by decide) rfl (pos_of (by kernel_rfl)) opExpD).down
  obtain ⟨y4,h4⟩:=hf 4 _ rfl 1 _ (opSliceD Tryz.underlying95 (by kernel_rfl) (by decide) rfl (pos_of (by kernel_rfl)) opFrnD).down
  obtain ⟨y5,h5⟩:=hf 5 _ rfl 1 _ (opSliceD Tryz.underlying96 (by kernel_rfl) (by decide) rfl (pos_of (by kernel_rfl)) opSmD).down
  obtain ⟨⟨n0,rfl,z0⟩,k0,q0⟩:=od_str (c:=c0) h0
  obtain ⟨⟨n1,rfl,z1⟩,k1,q1⟩:=od_lst (c:=c1) h1
  obtain ⟨⟨n2,rfl,z2⟩,k2,q2⟩:=od_lst (c:=c2) h2
  obtain ⟨⟨n3,rfl,z3⟩,k3,q3⟩:=od_lst (c:=c3) h3
  obtain ⟨⟨n4,rfl,z4⟩,k4,q4⟩:=od_lst (c:=c4) h4
  obtain ⟨⟨n5,rfl,z5⟩,k5,q5⟩:=od_lst (c:=c5) h5
  refine ⟨.agg [_,_,_,_,_,_],(cells_cons rfl k0 (cells_cons rfl k1 (cells_cons rfl k2 (cells_cons rfl k3 (cells_cons rfl k4 (cells_cons rfl k5 cells_nil)))))),?_,fun u hu=>?_⟩
  · unfold ShT
    refine ⟨_,rfl,?_⟩
    refine ShL_cons (shT_str z0) ?_
    refine ShL_cons (shT_lst z1.1 z1.2) ?_
    refine ShL_cons (shT_lst z2.1 z2.2) ?_
    refine ShL_cons (shT_lst z3.1 z3.2) ?_
    refine ShL_cons (shT_lst z4.1 z4.2) ?_
    refine ShL_cons (shT_lst z5.1 z5.2) ?_
    exact ShL_nil
  · simp only [List.mem_cons,List.not_mem_nil,or_false] at hu
    rcases hu with rfl | rfl | rfl | rfl | rfl | rfl <;> assumption
theorem opSchD {N:Nat}:OpensN N Tryz.prog 24 1 (OD (.st cSchB)):=by
  refine OpensN.down ⟨by kernel_rfl,fun enc w spare held fuel cs x hN h hw=>?_⟩
  obtain ⟨hl,hf⟩:=opens_fieldsN (N:=N) Tryz.underlying24 hN h hw
  rw [show Tryz.prog.cellsOf 24=1 by kernel_rfl] at hl
  match cs,hl with
  | [c0],_ =>
  obtain ⟨y0,h0⟩:=hf 0 _ rfl 1 _ (opSliceD Tryz.underlying22 (by kernel_rfl) (by decide) rfl (pos_of (by kernel_rfl)) opTblD).down
  obtain ⟨⟨n0,rfl,z0⟩,k0,q0⟩:=od_lst (c:=c0) h0
  refine ⟨.agg [_],(cells_cons rfl k0 cells_nil),?_,fun u hu=>?_⟩
  · unfold ShT
    refine ⟨_,rfl,?_⟩
    refine ShL_cons (shT_lst z0.1 z0.2) ?_
    exact ShL_nil
  · simp only [List.mem_cons,List.not_mem_nil,or_false] at hu
    rcases hu with rfl <;> assumption
theorem opens_schema:Opens Tryz.prog 24 1 fun w x l=>IsBig x∧ValD (AllS w) w x (.agg l.toArray):=by
  refine OpensN.all fun N=>⟨by kernel_rfl,fun enc w spare held fuel cs x hN h hw=>?_⟩
  obtain ⟨y,h1,h2,h3⟩:=opSchD.2 enc w spare held fuel cs x hN h hw
  unfold ShT at h2
  obtain ⟨ds,rfl,h2⟩:=h2
  exact ⟨.agg ds,⟨ds,rfl,h2⟩,cs.toArray,rfl,h1⟩
end Go.Proofs.YtenoggjjhamdaaaGreatDoor
end
section
namespace Go.Proofs.YtenoggjjhamdaaaGreatDoor
open Go.ChangeShapes Go.WideShapes Go.ChangeAt Go.RowKit
theorem own:ownKnob Tryz.prog.godebug=none:=by kernel_rfl
theorem laidOut:laidOutB Tryz.prog=true:=by kernel_rfl
theorem stays {H:Type} {enc:TypeId × Value→H} {P:Program} (hl:laidOutB P=true) {W W':World} (hb:Ext W W') :
    ∀ (ts:List TypeId) (vs:List Value) (ds:List (DataW H)) (ps:List MemPlace),(∀ t ∈ ts,P.readableRec t=true∧t < P.types.size)→DataW.TrodAll enc P W 0 (fun _=>true) true ts vs ds ps→(∀ x ∈ ps,x.block < W.heap.size) →
      DataW.TrodAll enc P W' 0 (fun b=>decide (b < W.heap.size)) true ts vs ds ps:=by
  intro ts
  induction ts with
  | nil =>
    intro vs ds ps _ h _
    obtain ⟨rfl,rfl,rfl⟩:=trodAll_nil h
    exact trodAll_mk0
  | cons t ts ih =>
    intro vs ds ps hr h hp
    obtain ⟨v0,vs0,d0,ds0,p0,q0,rfl,rfl,rfl,h0,r0⟩:=trodAll_cons h
    have h1:=hr t (by simp)
    exact trodAll_cons_mk (Below.trod hl h1.1 h1.2 h0 hb (fun x hx=>hp x (List.mem_append.2 (Or.inl hx)))) (ih _ _ _ (fun t ht=>hr t (by simp [ht])) r0 (fun x hx=>hp x (List.mem_append.2 (Or.inr hx))))
theorem post_law {H:Type} {enc:TypeId × Value→H} {P:Program} (hl:laidOutB P=true) {f:Func} {s:ChangeSpec} {tb:TypeId} (hb:P.underlying tb=some .bool) (hvars:s.vars=[]) (hres:f.resultTypes = #[tb]) {W W':World} {args:Array Value} {ds gs:List (DataW H)} {before:List MemPlace}
    (hW:DataW.Whole enc P f.params.toList s.vars false W args.toList ds gs before) (hr:∀ t ∈ f.params.toList,P.readableRec t=true∧t < P.types.size)
    (hfn:(s.fn H (ds ++ gs)).results=[.lit (.bool true)]∧(s.fn H (ds ++ gs)).args=ds∧(s.fn H (ds ++ gs)).vars=[]) (hx:Ext W W') :
    ∃ v,Ending.returned (.bool true) = .returned v∧s.post enc P f false true false false W args v W':=by
  have hlt:=hW.lt
  have hW':=hW
  obtain ⟨p,q,hA,hV,rfl,hfz,hnd⟩:=hW
  rw [hvars] at hV
  obtain ⟨rfl,rfl⟩:=trodVars_none hV
  refine ⟨_,rfl,ds,[],p ++ [],[],p,[],hW',?_,?_,?_,hx.frame _,fun h=>by cases h⟩
  · rw [hfn.1,hres]
    exact trodAll_cons_mk (shut_bool hb _) trodAll_mk0
  · rw [hfn.2.1]
    exact stays hl hx _ _ _ _ hr hA (fun x hx=>hlt x (List.mem_append.2 (Or.inl hx)))
  · rw [hfn.2.2,hvars]
    rfl
def cellOf:DataW Unit→Value
  | .lit (.int k n)=>Value.int k n
  | _=>undef
def firstCells:Array Value:=(match Go.Pinned.utf8First with | .agg ps=>ps.map cellOf | _=>[]).toArray
def acceptCells:Array Value:=#[.int .u8 128,.int .u8 191,.int .u8 160,.int .u8 191,.int .u8 128,.int .u8 159,.int .u8 144,.int .u8 191,.int .u8 128,.int .u8 143] ++ Array.replicate 22 (.int .u8 0)
def layFirst:Obj→Obj
  | .cells _ t frozen=>.cells firstCells t frozen
  | o=>o
def layAccept:Obj→Obj
  | .cells _ t frozen=>.cells acceptCells t frozen
  | o=>o
end Go.Proofs.YtenoggjjhamdaaaGreatDoor
end
namespace Go.Proofs.YtenoggjjhamdaaaGreatDoor
open Go Go.RowKit
section
theorem gES:Tryz.prog.globalNamed "strconv.ErrSyntax" = some 0:=by kernel_rfl
theorem gER:Tryz.prog.globalNamed "strconv.ErrRange" = some 1:=by kernel_rfl
theorem gEST:(Tryz.prog.globals[0]?).map (·.type)=some 169:=by kernel_rfl
theorem gERT:(Tryz.prog.globals[1]?).map (·.type)=some 169:=by kernel_rfl
theorem cellsES:Tryz.prog.cellsOf 266=1:=by kernel_rfl
theorem cellsOfS:Tryz.prog.cellsOf 9=1:=by kernel_rfl
def esName:String:=(match (Rows.laid_strconv_ErrSyntax:DataW Unit) with | .iface n _=>n | _=>default)
theorem starES (s:String) (h:s.toList=[Char.ofNat 42]):s ++ "errors.errorString" = esName:=by
  apply String.toList_inj.1
  rw [String.toList_append,h]
  decide
theorem rowES (u:TypeId) (h:Tryz.prog.typeName? 3 u=some esName):u=264 :=
  typeName_ptr_named (nm := "errors.errorString") (by rw [starES _ (by decide)]; kernel_rfl) (by kernel_rfl) (by decide) u (by rw [starES _ (by decide)]; exact h)
theorem u64_prog:Tryz.prog.underlying 236=some (.int .u64):=Tryz.underlying236
theorem w2_of {w:World} (h:laidMet Tryz.prog Rows.sqlRightRow.laid w) (hsh:w.ShapedOpen Tryz.prog):W2 w:=by
  have h3:=h.tail.tail
  have h5:=h3.tail.tail
  have h6:=h5.tail
  obtain ⟨a0,s0,hv0,hc0,-,-⟩:=laid_sentinel h6 gES gEST Tryz.underlying169 rowES Tryz.underlying264 Tryz.underlying266 rfl rfl Tryz.underlying9 cellsES cellsOfS
  obtain ⟨a1,s1,hv1,hc1,-,-⟩:=laid_sentinel h5 gER gERT Tryz.underlying169 rowES Tryz.underlying264 Tryz.underlying266 rfl rfl Tryz.underlying9 cellsES cellsOfS
  have hm:=cell_of_shapedOpen_int (g:=3) (t:=3) (zero:=#[.int .i64 0]) hsh (of_decide_eq_true (by kernel_rfl)) (by kernel_rfl) rfl (by kernel_rfl) (by kernel_rfl) Tryz.underlying3
  refine ⟨?_,hm,⟨_,_,hv0⟩,⟨_,_,hv1⟩,?_⟩
  · exact Lib.tabIs_of_head (g:=2) (by kernel_rfl) (by kernel_rfl) Tryz.underlying255 u64_prog (by kernel_rfl) (by kernel_rfl) (by exact h3)
  · exact ⟨lt_of_cell (World.var?_cell gES hv0 0),lt_of_cell (World.var?_cell gER hv1 0)⟩
noncomputable def dataCells (d:DataW Unit):Array Value:=(match d with | .agg ps=>ps.map cellOf | _=>[]).toArray
def layCells (cs:Array Value):Obj→Obj
  | .cells _ t frozen=>.cells cs t frozen
  | o=>o
def textOf (l:List UInt8):Value:=.string ⟨l.toArray⟩
noncomputable def holdHeap (os:Os):Array Obj:=(World.holding Tryz.prog os ⟨#[],#[],[]⟩).heap
noncomputable def laidWorld2 (os:Os):World :=
  { World.holding Tryz.prog os ⟨#[],#[],[]⟩ with heap :=
    ((((((((holdHeap os).modify 4 layFirst).modify 5 layAccept).modify 6 (layCells (dataCells Rows.laid_math_bits_deBruijn32tab))).modify 7 (layCells (dataCells Rows.laid_math_bits_deBruijn64tab))).modify 2 (layCells (dataCells Rows.laid_internal_strconv_uint64pow10))).modify
      0 (layCells #[.iface 264 (.pointer (some ⟨(holdHeap os).size,0,none⟩))])).modify 1 (layCells #[.iface 264 (.pointer (some ⟨(holdHeap os).size + 1,0,none⟩))])) ++
      #[.cells #[textOf [105,110,118,97,108,105,100,32,115,121,110,116,97,120]] 266,.cells #[textOf [118,97,108,117,101,32,111,117,116,32,111,102,32,114,97,110,103,101]] 266] }
theorem ret_true {P:Program} {I:World→Prop} {f:FuncId} {ds:List D} {h':Id→O} (h:Ret P I f 0 (fun _=>.no 0) (ds.map .d) (.val (.s (.bool true))) h') {w:World} (hI:I w) {vs:Array Value} (hv:ValDs (AllS w) w ds vs.toList):Calls P f vs w fun e w'=>e = .returned (.bool true)∧Ext w w':=by
  have hE:EnvOk I ⟨w.heap.size,w,AllS w,0,noIx,w,fun _=>False,fun _=>0⟩:=⟨rfl,hI⟩
  have hr:RelH ⟨w.heap.size,w,AllS w,0,noIx,w,fun _=>False,fun _=>0⟩ noIx (AllS w) (fun _=>.no 0) w :=
    ⟨Below.refl _ _,Nat.le_refl _,fun id=>trivial,fun id id' L L' _ hl=>(by cases hl),fun _ _ _=>rfl,fun _ _ h=>h,fun _ _ h=>Or.inl h,fun _ _ h=>h,fun _ _ _ _ h=>h,fun _ _ _=>rfl,fun _ _ _=>rfl,fun _ h=>h.elim,fun _=>rfl,fun i hi=>absurd hi (Nat.not_lt_zero _)⟩
  refine (h.calls _ noIx (AllS w) w vs hE rfl rfl rfl rfl (fun _ _ _=>rfl) hr (ValDs_VL hv)).mono ?_
  rintro e w' ⟨v,ι',S',rfl,_,_,rr,hrep⟩
  have hr':ValD S' w' (.s (.bool true)) v:=hrep
  unfold ValD CellsD at hr'
  simp only [List.cons.injEq,and_true] at hr'
  rw [hr'.1]
  exact ⟨rfl,rr.below⟩
theorem valD_str (S:Sb) (w:World) (s:ByteArray):ValD S w (.s (.string s)) (.string s):=by
  unfold ValD CellsD
  exact ⟨rfl,rfl⟩
theorem valDs_nil (S:Sb) (w:World):ValDs S w [] []:=by simp only [ValDs]
theorem valDs_cons {S:Sb} {w:World} {x:D} {v:Value} {xs:List D} {vs:List Value} (h:ValD S w x v) (k:ValDs S w xs vs):ValDs S w (x :: xs) (v :: vs):=Exists.intro v (Exists.intro vs (And.intro rfl (And.intro h k)))
end
section
set_option maxRecDepth 100000
abbrev nD (n:Int):D:=.s (.int .i64 n)
abbrev sD (l:List UInt8):D:=.s (.string ⟨⟨l⟩⟩)
abbrev eD (k n vk vn:Int) (of:List D):D:=.agg [nD k,nD n,nD vk,nD vn,sD [],.lst of]
abbrev colD (n:Int):D:=eD 0 n 0 0 []
def plainD:D:=.agg [.lst [.agg [.s (.string ⟨#[97]⟩),.lst [.agg [.s (.string ⟨#[105,100]⟩),nD 0,nD 1,.s (.bool false)],.agg [.s (.string ⟨#[110]⟩),nD 0,nD 1,.s (.bool false)]],.lst [],.lst [],.lst [],.lst []]]]
def wantD:D:=.agg [nD 0,.lst [],.lst [eD 6 0 0 0 [colD 1,eD 1 0 1 5 []]],.lst [colD 1],.lst [.agg [nD 0,nD 0,nD 1,nD 0,nD 0,sD [],.lst []],.agg [nD 1,nD 0,nD 0,nD 0,nD 0,sD [],.lst []]],.lst [nD (-2)],nD 3]
def opsD:D:=.lst [.agg [nD 1,nD 0,nD 0,nD 0,.lst [.agg [nD 1,nD 1,sD []],.agg [nD 1,nD (-5),sD []]],nD 0,nD 0,sD [],nD 0,nD 0,nD 0],.agg [nD 2,nD 0,nD 1,nD 1,.lst [],nD 1,nD 7,sD [],nD 0,nD 0,nD 0]]
def askD:D:=.s (.string ⟨#[115,101,108,101,99,116,32,48,46,110,44,32,99,111,117,110,116,40,48,46,105,100,41,32,102,114,111,109,32,97,32,119,104,101,114,101,32,40,48,46,110,32,60,32,53,41,32,103,114,111,117,112,32,98,121,32,48,46,110,32,111,114,100,101,114,32,98,121,32,50,32,100,101,115,99,32,108,105,109,105,116,32,51]⟩)
def doD:D:=.s (.string ⟨#[105,110,115,101,114,116,32,97,32,40,49,44,32,45,53,41,59,32,115,101,116,32,97,32,49,32,110,32,55]⟩)
def askedD:D:=.s (.string ⟨#[115,101,108,101,99,116,32,48,32,46,32,110,32,44,32,99,111,117,110,116,32,40,32,48,32,46,32,105,100,32,41,32,102,114,111,109,32,97,32,119,104,101,114,101,32,40,32,48,32,46,32,110,32,60,32,53,32,41,32,103,114,111,117,112,32,98,121,32,48,32,46,32,110,32,111,114,100,101,114,32,98,121,32,50,32,100,101,115,99,32,108,105,109,105,116,32,51]⟩)
def doneD:D:=.s (.string ⟨#[105,110,115,101,114,116,32,97,32,40,32,49,32,44,32,45,32,53,32,41,32,59,32,115,101,116,32,97,32,49,32,110,32,55]⟩)
def twoQ (x:Option (R × (Id→O))):Option (D × D):=match x with | some (.tup [.d q,.d e],_)=>some (q,e) | _=>none
def oneD (x:Option (R × (Id→O))):Option D:=match x with | some (.val q,_)=>some q | _=>none
def oneQ (x:Option (R × (Id→O))):Bool:=match x with | some (.val (.s (.bool b)),_)=>b | _=>false
theorem aw_plain:oneD (eval Tryz.prog ext26 5 15 0 E0 [])=some plainD:=by kernel_rfl
theorem aw_same:oneQ (eval Tryz.prog ext26 60 13 0 E0 [.d wantD,.d wantD])=true:=by kernel_rfl
theorem aw_sameOps:oneQ (eval Tryz.prog ext26 60 14 0 E0 [.d opsD,.d opsD])=true:=by kernel_rfl
end
end Go.Proofs.YtenoggjjhamdaaaGreatDoor
