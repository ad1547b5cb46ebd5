/- The law TermStays: its run, and that it answers true. -/
import Derived.Test.YtnkdeglckmogcaaDoorSeLv6
import Derived.Test.YtnkdeglckmogcaaDoorPlFind
set_option linter.unusedVariables false
set_option maxRecDepth 100000
namespace Go.AM.Seat
open Go Go.AM Go.Proofs

def Γ503 : Orc := orc [(N508, sLive), (N49, s49), (N103, s103), (N84, s84)]
theorem Γ503ok : OrcOk Tryd.prog Γ503 := .cons g508 (.cons g49 (.cons g103 (.cons g84 (.nil _))))
def tB (b : Bool) : Option AV := some (.one (.bool b))
def cutI (n : Nat) (cut : Int) : Int := (IntKind.i64.wrap (IntKind.i64.wrap (cut.tmod (IntKind.i64.wrap (n + 1)) + n) + 1)).tmod (IntKind.i64.wrap (n + 1))
theorem r503 (l : List Term.D) (t o : Term.D) (cut : Int) : run Γ503 noL [] F503 (encA [.v (.sl Term), .v Term, .v Term, .v I] (l, t, o, cut)) [] =
    bif bif decide ((l.length : Int) > 60) then true else checkL l != 0 then tB true else
    bif !decide (IntKind.i64.wrap ((l.length : Int) + 1) = 0) then bif !decide (IntKind.i64.wrap ((l.length : Int) + 1) = 0) then
      bif decide (0 ≤ cutI l.length cut) && decide (cutI l.length cut ≤ (l.length : Int)) then
        bif checkL (l.take (cutI l.length cut).toNat) != 0 then tB false else
        bif (makeL l t).2.2 != 0 then tB true else
        tB (bif (findL l o).2 != 0 then true else bif (findL (makeL l t).2.1 o).2 == 0 then (findL l o).1 == (findL (makeL l t).2.1 o).1 else false)
      else none
    else none else none := by kernel_rfl
theorem cutI_eq {n : Nat} {cut : Int} (hn : n ≤ 1000000) : 0 ≤ cutI n cut ∧ cutI n cut ≤ n := by
  obtain ⟨h1, h2, h3, h4, h5⟩ := cut_ok (cut := cut) hn
  unfold cutI
  rw [h1, h3]; exact ⟨h4, h5⟩
theorem good503 (x : ADen [.v (.sl Term), .v Term, .v Term, .v I]) : Good Tryd.prog N503 (encA [.v (.sl Term), .v Term, .v Term, .v I] x) (.one (.bool true)) := by
  obtain ⟨l, t, o, cut⟩ := x
  refine goodRun Γ503ok H503 rfl noL [] (noLoops (by kernel_rfl)) _ (by show 4 ≤ _; decide) [] ((r503 l t o cut).trans ?_)
  cases h1 : (bif decide ((l.length : Int) > 60) then true else checkL l != 0) with
  | true => rfl
  | false =>
    have hl : l.length ≤ 60 ∧ checkL l = 0 := by
      cases h2 : decide ((l.length : Int) > 60) with
      | true => rw [h2] at h1; cases h1
      | false => rw [h2] at h1; exact ⟨by simp at h2; omega, by simpa using h1⟩
    obtain ⟨k1, k2, k3, k4, k5⟩ := cut_ok (n := l.length) (cut := cut) (by omega)
    obtain ⟨c1, c2⟩ := cutI_eq (n := l.length) (cut := cut) (by omega)
    rw [k1, k2, decide_eq_true c1, decide_eq_true c2]
    have hG := checkL_iff.1 hl.2
    rw [checkL_iff.2 (hG.take (cutI l.length cut).toNat)]
    simp only [bne_self_eq_false, cond_false, cond_true, Bool.not_false, Bool.and_self]
    cases h3 : (makeL l t).2.2 != 0 with
    | true => rfl
    | false =>
      have hm : (makeL l t).2.2 = 0 := by simpa using h3
      cases h4 : (findL l o).2 != 0 with
      | true => rfl
      | false =>
        have hf : (findL l o).2 = 0 := by simpa using h4
        rw [find_stays hf hm]
        simp [tB]
end Go.AM.Seat
