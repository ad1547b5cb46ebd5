import Derived.OrdersHeld
set_option linter.unusedVariables false
set_option linter.unusedSimpArgs false
namespace Go.AM
open Go
theorem mem_ready {md:Region.Mode} {ops:Array Oper} {listed:Array Bool} {i:Nat}:i∈Region.ready md ops listed↔i<ops.size∧listed.getD i true=false∧ ∃oi,ops[i]? =some oi∧ ∀e∈oi.after,Region.binds md e=true→listed.getD e.on false=true:=by
 unfold Region.ready
 simp only[List.mem_filter,List.mem_range,Bool.and_eq_true,Bool.not_eq_true']
 refine⟨fun⟨h1,h2,h3⟩=>⟨h1,h2, ?_⟩,fun⟨h1,h2,oi,h3,h4⟩=>⟨h1,h2, ?_⟩⟩
 ·refine⟨ops[i],Array.getElem?_eq_getElem h1,fun e he hb=> ?_⟩
  rw[Array.getElem?_eq_getElem h1]at h3
  simp only[Option.map_some,Option.getD_some,Array.all_eq_true']at h3
  have:=h3 e he
  simpa [hb]using this
 ·rw[h3]
  simp only[Option.map_some,Option.getD_some,Array.all_eq_true']
  intro e he
  cases hb:Region.binds md e with
  |true=>simp [h4 e he hb]
  |false=>rfl
end Go.AM
