/-
  WHAT IS PROVED HERE: parts of the proof: AwZ26.
-/
import Derived.Test.YtenoggjjhamdaaaGreatDoorB25
import Derived.Test.YtenoggjjhamdaaaGreatDoorB26
import Derived.Test.YtenoggjjhamdaaaGreatDoorB28
set_option linter.all false
namespace Go.Proofs.YtenoggjjhamdaaaGreatDoor
open Go Go.RowKit
set_option maxRecDepth 100000
def tD:D:=.s (.bool true)
def awTab:Dm.Tab:=[(15,[],.val plainD),(7,[.d plainD,.d askD],.tup [.d wantD,.d (nD 0)]),(8,[.d plainD,.d doD],.tup [.d opsD,.d (nD 0)]),(13,[.d wantD,.d wantD],.val tD),(14,[.d opsD,.d opsD],.val tD),(17,[.d plainD,.d wantD],.val askedD),(18,[.d plainD,.d opsD],.val doneD)]
theorem one_ev {X:Orc} {f:FuncId} {ps:List A} {q:D} (hX:∀ r,X f 0 E0 ps=some r→ev26 f 0 E0 ps=some r) (h:oneD (X f 0 E0 ps)=some q):∃ h',ev26 f 0 E0 ps=some (.val q,h'):=by
 unfold oneD at h
 split at h
 ·rename_i q' h' e
  cases h
  exact ⟨h',hX _ e⟩
 ·cases h
theorem two_ev {X:Orc} {f:FuncId} {ps:List A} {q e:D} (hX:∀ r,X f 0 E0 ps=some r→ev26 f 0 E0 ps=some r) (h:twoQ (X f 0 E0 ps)=some (q,e)):∃ h',ev26 f 0 E0 ps=some (.tup [.d q,.d e],h'):=by
 unfold twoQ at h
 split at h
 ·rename_i q' e' h' k
  cases h
  exact ⟨h',hX _ k⟩
 ·cases h
theorem tr_ev {X:Orc} {f:FuncId} {ps:List A} (hX:∀ r,X f 0 E0 ps=some r→ev26 f 0 E0 ps=some r) (h:oneQ (X f 0 E0 ps)=true):∃ h',ev26 f 0 E0 ps=some (.val tD,h'):=by
 unfold oneQ at h
 split at h
 ·rename_i b h' k
  subst h
  exact ⟨h',hX _ k⟩
 ·cases h
theorem awTab_ok:∀ e ∈ awTab,∃ h',evr Tryz.prog ext26 e.1 0 (fun _=>.no 0) e.2.1=some (e.2.2,h'):=by
 intro e he
 unfold awTab at he
 simp only [List.mem_cons,List.not_mem_nil,or_false] at he
 rcases he with rfl | rfl | rfl | rfl | rfl | rfl | rfl
 ·exact one_ev (fun r=>evr_eval) aw_plain
 ·exact two_ev (fun r=>evr_eval) aw_ask
 ·exact two_ev (fun r=>evr_eval) aw_do
 ·exact tr_ev (fun r=>evr_eval) aw_same
 ·exact tr_ev (fun r=>evr_eval) aw_sameOps
 ·exact one_ev (fun r=>Dm.evr_evalA) aw_text
 ·exact one_ev (fun r=>Dm.evr_evalA) aw_opst
theorem aw_body:Dm.bodyL Tryz.prog (Dm.tabX awTab (Dm.evalA Tryz.prog ext26 dl26 9)) dl26 60 5 0 E0 []=some (.val tD,[]):=by kernel_rfl
theorem awake26:ev26 5 0 E0 []=some (.val (.s (.bool true)),E0):=Dm.evr_tab awTab_ok rfl aw_body
end Go.Proofs.YtenoggjjhamdaaaGreatDoor
