/- The statement CanonChecks, walked by the engine. -/
import Derived.Test.YtdlcfegnaphclaaGreatZmGg
import Derived.Test.YtdlcfegnaphclaaGreatZmTab
import Derived.Maps.RangeRun
import Derived.RangeFuncBox
import Derived.Lib.SliceRun
set_option linter.unusedVariables false
set_option linter.unusedSimpArgs false
set_option maxRecDepth 100000
namespace Go.Proofs.YtdlcfegnaphclaaGreat.Eng
open Go Go.RowKit
open Go Go.Value
set_option linter.unusedSectionVars false
def dO {κ:Type} (kv:κ→Value) (w:World) (r:Nat) (m:List (κ×Value)):Prop:=∃es clock,w.heap[r]? =some (.map es clock)∧es.toList.map (fun x=>(x.key,x.val))=m.map (fun p=>(kv p.1,p.2))∧(∀x∈es.toList,x.born<clock)∧(es.toList.map (·.born)).Nodup
section
variable {P:Program} {kt et t:TypeId} {κ:Type} [DecidableEq κ] {kv:κ→Value}
theorem dO.is {w:World} {r:Nat} {m:List (κ×Value)} (h:dO kv w r m):bc kv w r m:=by
 obtain⟨es,c,h1,h2,h3,_⟩:=h;exact⟨es,c,h1,h2,h3⟩
theorem dO.same {w w':World} {r:Nat} {m:List (κ×Value)} (h:dO kv w r m) (hs:w'.heap[r]? =w.heap[r]?):dO kv w' r m:=by
 obtain⟨es,c,h1,h2⟩:=h;exact⟨es,c,by rw [hs];exact h1,h2⟩
theorem dO.lt {w:World} {r:Nat} {m:List (κ×Value)} (h:dO kv w r m):r<w.heap.size:=h.is.lt
theorem AF (w:World):dO kv (w.alloc (.map #[] 0)) w.heap.size []:=⟨#[],0,ao w _,rfl,by simp,by simp⟩
theorem AS (K:gf P kt κ kv) (ht:P.underlying t=some (.map kt et)) {w:World} {r:Nat} {m:List (κ×Value)} (h:dO kv w r m) (k:κ) (v:Value) (hk:dC k m=none):
  ∃w',(Instr.mapUpdate t (.map (some r)) (kv k) v).run P w= .ok () w'∧dO kv w' r (m++ [(k,v)])∧(∀j,j≠r→w'.heap[j]? =w.heap[j]?)∧w'.heap.size=w.heap.size∧(∀B w0,B≤r→Below B w0 w→Below B w0 w'):=by
 obtain⟨es,clock,hb,hm,hst,hnd⟩:=h;have hlt:=(Array.getElem?_eq_some_iff.1 hb).1;have hl:=eb k m 0;rw [hk]at hl;have hx:da k m 0=none:=by
  cases hx:da k m 0 with
  |none=>rfl
  |some q=>rw [hx]at hl;cases hl
 refine⟨{w with heap:=w.heap.setIfInBounds r (.map (es.push {key:=kv k,val:=v,born:=clock}) (clock+1))},?_,?_,?_,by simp,?_⟩
 ·unfold Instr.mapUpdate;simp only [Sem.run_bind,run_underlying ht,Result.andThen,eu hb,K.check,K.find k es.toList m w hm,hx];exact ip _ hb
 ·refine⟨es.push {key:=kv k,val:=v,born:=clock},clock+1,by simp [hlt],by simp [hm],fun x hx=>?_,?_⟩
  ·rw [Array.toList_push,List.mem_append,List.mem_singleton]at hx;rcases hx with hx |rfl
   ·have:=hst x hx;omega
   ·exact Nat.lt_succ_self _
  ·rw [Array.toList_push,List.map_append,List.nodup_append];refine⟨hnd,by simp,fun a ha b hb' e=>?_⟩;obtain⟨x,hx,rfl⟩:=List.mem_map.1 ha;have:=hst x hx;simp at hb';omega
 ·intro j hj;simp [Array.getElem?_setIfInBounds_ne (fun e=>hj e.symm)]
 ·intro B w0 hB h0;exact h0.trans ⟨rfl,rfl,rfl,by simp,fun j hj=>by simp [Array.getElem?_setIfInBounds_ne (show r≠j by omega)]⟩
end
section
variable (w0:World) (S:List Bs) (nd:Bs→Nat) (idf:Bs→Int) (N:Nat)
end
end Go.Proofs.YtdlcfegnaphclaaGreat.Eng
