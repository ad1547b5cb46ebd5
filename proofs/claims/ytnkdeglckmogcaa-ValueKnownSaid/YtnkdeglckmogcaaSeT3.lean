/- The seat: contracts: terms made. -/
import Derived.Test.YtnkdeglckmogcaaSeT1
set_option linter.unusedVariables false
set_option maxRecDepth 100000
namespace Go.AM.Seat
open Go Go.AM Go.Proofs

theorem nl_split {w : World} {okA : Nat → Prop} {f : Bool} {t : Ty} {xs : List t.D} {v : Go.Value} (h : AVRel w μ0 (argOK okA) (.one (.sl f t none xs)) v) :
    (xs = [] ∧ AVRel w μ0 (argOK okA) (.one (.sl f t (some true) xs)) v) ∨ AVRel w μ0 (argOK okA) (.one (.sl f t (some false) xs)) v := by
  obtain ⟨h1, _⟩ := h
  obtain ⟨A, c, e, g1, g2, g3⟩ := id h1
  simp only [List.cons.injEq, and_true] at e
  subst e
  rcases g3 with ⟨rfl, rfl, rfl⟩ | ⟨b, o, ⟨sp, rfl, _⟩, _⟩
  · exact .inl ⟨rfl, h1, rfl⟩
  · exact .inr ⟨h1, _, _, _, rfl⟩
/-- A contract that looks whether its only argument is nil. -/
theorem good_nl {P : Program} {f : FuncId} {t : Ty} {xs : List t.D} {r : AV} (h1 : xs = [] → Good P f [.one (.sl false t (some true) xs)] r) (h2 : Good P f [.one (.sl false t (some false) xs)] r) : Good P f [.one (.sl false t none xs)] r := by
  intro w okA vs hA hl
  cases hl with
  | @cons _ v _ vs' hv ht =>
    rcases nl_split hv with ⟨e, hv'⟩ | hv'
    · exact h1 e w okA _ hA (.cons hv' ht)
    · exact h2 w okA _ hA (.cons hv' ht)

/-! ### slices.Clone of terms -/
theorem r47n (xs : List Term.D) : run (orc []) noL [] F47 [.one (.sl false Term (some true) xs)] [.arr Term] = some (.arr true Term []) := by kernel_rfl
theorem r47 (xs : List Term.D) : run (orc []) noL [] F47 [.one (.sl false Term (some false) xs)] [.arr Term] =
    bif decide ((([] : List Term.D).length + xs.length) * 24 ≤ 140737488355328) then some (.arr true Term ([] ++ xs)) else none := by kernel_rfl
def small24 (n : Nat) : Bool := decide (n * 24 ≤ 140737488355328)
def s47 : Sp := .fn [.v (.sl Term)] fun xs => (small24 xs.length, .arr true Term xs)
theorem ks47 (ws : List WK) (args : List AV) (hl : args.length ≤ F47.ntmps) {r : AV} (h : run (orc []) noL [] F47 args ws = some r) : Good Try.prog N47 args r :=
  good_of mixed tbOk (.nil _) H47 (bd rfl) rfl rfl args hl ⟨F47.ntmps, 0, []⟩ rfl noL (noLoops (by kernel_rfl)) (kretW_spec ws) h
theorem g47 : GoodS Try.prog N47 s47 := by
  refine .fn (callable_of H47 (bd rfl) (by kernel_rfl)) fun xs r hw h => ?_
  have hs : small24 xs.length = true := congrArg Prod.fst h
  obtain rfl : AV.arr true Term xs = r := congrArg Prod.snd h
  refine good_nl (fun e => ?_) ?_
  · subst e
    exact ks47 [.arr Term] _ (by show 1 ≤ 8; omega) (r47n [])
  · refine ks47 [.arr Term] _ (by show 1 ≤ 8; omega) ((r47 xs).trans ?_)
    unfold small24 at hs
    simp only [List.length_nil, Nat.zero_add, hs, cond_true, List.nil_append]

/-! ### term.index -/
abbrev Ents := List (Term.D × I.D)
def ixBad (t : Term.D) (i : Int) (es : Ents) : Bool := bif mhas t es then true else !mayB t i
def ixGo : List Term.D → Int → Ents → Bool × Ents × Int
  | [], i, es => (true, es, i)
  | t :: r, i, es => bif ixBad t i es then (false, es, i) else ixGo r (i + 1) (mput t i es)
abbrev live88 : List (Nat × Dir) := [(0, .keep), (2, .keep), (3, .keep), (4, .keep), (14, .keep), (15, .keep), (16, .keep), (17, .keep)]
def Γ88 : Orc := orc [(N104, s104)]
def vs88 (l l2 : List Term.D) (es : Ents) (n i : Int) : List AV :=
  [.one (.sl false Term none l), .one .nilm, .one (.bool false), .one (.mref 14), .mapO true Term I es, .one (.sl false Term none l2), .one (.int .i64 n), .one (.int .i64 i)]
def Λ88 : Lam AV := fun cur vs K =>
  match cur, vs with
  | 0, [.one (.sl false (.pair (.int .i64) (.pair (.int .i64) (.int .i64))) none l), .one .nilm, .one (.bool false), .one (.mref 14), .mapO true (.pair (.int .i64) (.pair (.int .i64) (.int .i64))) (.int .i64) [], .one (.sl false (.pair (.int .i64) (.pair (.int .i64) (.int .i64))) none l2), .one (.int .i64 n), .one (.int .i64 0)] =>
    bif decide (n = l2.length) && decide (n ≤ 9223372036854775807) then
      bif (ixGo l2 0 []).1 then K (.exit 0) (vs88 l l2 (ixGo l2 0 []).2.1 n (ixGo l2 0 []).2.2) else K .ret (vs88 l l2 (ixGo l2 0 []).2.1 n (ixGo l2 0 []).2.2)
    else none
  | _, _ => none
def tAt (l : List Term.D) (i : Int) : Term.D := l.getD i.toNat (0, 0, 0)
theorem step88 (l l2 : List Term.D) (es : Ents) (n i : Int) (K : AE → List AV → Option AV) (fuel : Nat) :
    loopN (aexec tb Γ88 Λ88 ⟨40, 0, [(0, live88)]⟩ (loop1 F88).2 0) 40 0 live88 K (fuel + 1) (vs88 l l2 es n i) =
    bif decide (i < n) then
      bif inB i l2.length then
        bif ixBad (tAt l2 i) i es then K .ret (vs88 l l2 es n i)
        else loopN (aexec tb Γ88 Λ88 ⟨40, 0, [(0, live88)]⟩ (loop1 F88).2 0) 40 0 live88 K fuel (vs88 l l2 (mput (tAt l2 i) i es) n (IntKind.i64.wrap (i + 1)))
      else none
    else K (.exit 0) (vs88 l l2 es n i) := by kernel_rfl
theorem ix_drop {l : List Term.D} {j : Nat} {es : Ents} (h : j < l.length) : ixGo (l.drop j) j es =
    bif ixBad (tAt l j) j es then (false, es, (j : Int)) else ixGo (l.drop (j + 1)) ((j + 1 : Nat) : Int) (mput (tAt l j) j es) := by
  rw [List.drop_eq_getElem_cons h]
  simp only [ixGo, tAt, Int.toNat_natCast, List.getD_eq_getElem?_getD, List.getElem?_eq_getElem h, Option.getD_some]
  rfl
theorem loop88 : LoopP tb Γ88 Λ88 ⟨40, 0, [(0, live88)]⟩ (loop1 F88) := by
  intro vs K out h
  have hcur : (loop1 F88).1 = 0 := by kernel_rfl
  rw [hcur] at h ⊢
  unfold Λ88 at h
  split at h
  · rename_i l l2 n _
    cases hc : (decide (n = l2.length) && decide (n ≤ 9223372036854775807)) with
    | false => rw [hc] at h; cases h
    | true =>
      rw [hc] at h
      simp only [cond_true] at h
      simp only [Bool.and_eq_true, decide_eq_true_eq] at hc
      obtain ⟨hn, hmax⟩ := hc
      subst hn
      have key : ∀ (m j : Nat) (es : Ents), j + m = l2.length → (bif (ixGo (l2.drop j) j es).1 then K (.exit 0) (vs88 l l2 (ixGo (l2.drop j) j es).2.1 l2.length (ixGo (l2.drop j) j es).2.2)
            else K .ret (vs88 l l2 (ixGo (l2.drop j) j es).2.1 l2.length (ixGo (l2.drop j) j es).2.2)) = some out →
          ∃ fuel, loopN (aexec tb Γ88 Λ88 ⟨40, 0, [(0, live88)]⟩ (loop1 F88).2 0) 40 0 live88 K fuel (vs88 l l2 es l2.length j) = some out := by
        intro m
        induction m with
        | zero =>
          intro j es hj h
          refine ⟨1, ?_⟩
          rw [step88]
          have hd : decide ((j : Int) < (l2.length : Int)) = false := by simp; omega
          rw [List.drop_of_length_le (by omega)] at h
          rw [hd]
          exact h
        | succ m ih =>
          intro j es hj h
          have hlt : j < l2.length := by omega
          have hd : decide ((j : Int) < (l2.length : Int)) = true := by simp; omega
          have hb : inB (j : Int) l2.length = true := by simp [inB]; omega
          rw [ix_drop hlt] at h
          cases hx : ixBad (tAt l2 j) j es with
          | true =>
            refine ⟨1, ?_⟩
            rw [step88, hd, hb]
            simp only [cond_true, hx]
            rw [hx] at h
            exact h
          | false =>
            rw [hx] at h
            obtain ⟨fuel, hf⟩ := ih (j + 1) _ (by omega) h
            refine ⟨fuel + 1, ?_⟩
            rw [step88, hd, hb]
            simp only [cond_true, cond_false, hx]
            rw [wrap64 (by omega) (by omega)]
            exact hf
      exact key l2.length 0 [] (by omega) h
  · cases h

def ixL (l : List Term.D) : Bool × Ents × Int := bif decide ((l.length : Int) > 65536) then (false, [], 0) else ixGo l 0 []
def ixEnts (l : List Term.D) : Ents := bif (ixL l).1 then (ixL l).2.1 else []
def s88 : Sp := .fn [.v (.sl Term)] fun l => (true, .tup [(false, [.sm true Term I (ixEnts l)]), (false, [.bool (ixL l).1])])
theorem r88 (l : List Term.D) : run Γ88 Λ88 [(0, live88)] F88 (encA [.v (.sl Term)] l) [.mp true Term I, .id] =
    bif decide ((l.length : Int) > 65536) then some (.tup [(false, [.sm true Term I []]), (false, [.bool false])]) else
    bif decide ((l.length : Int) = l.length) && decide ((l.length : Int) ≤ 9223372036854775807) then
      bif (ixGo l 0 []).1 then some (.tup [(false, [.sm true Term I (ixGo l 0 []).2.1]), (false, [.bool true])]) else some (.tup [(false, [.sm true Term I []]), (false, [.bool false])])
    else none := by kernel_rfl
theorem g88 : GoodS Try.prog N88 s88 := by
  refine good (.cons g104 (.nil _)) H88 rfl (by kernel_rfl) Λ88 [(0, live88)] (oneLoop (p0 := loop1 F88) (by kernel_rfl) loop88) [.v (.sl Term)] (by decide) [.mp true Term I, .id] _ fun l r hw h => ?_
  cases h
  refine (r88 l).trans ?_
  have hmax : (l.length : Int) ≤ 9223372036854775807 := by have : l.length ≤ 9223372036854775807 := hw.1; omega
  simp only [decide_eq_true hmax, decide_true, Bool.and_self, cond_true, ixEnts, ixL]
  cases decide ((l.length : Int) > 65536) with
  | true => rfl
  | false =>
    simp only [cond_false]
    cases hq : (ixGo l 0 []).1 <;> rfl

/-! ### term.Check, Find, Make -/
def checkL (l : List Term.D) : Int := bif (ixL l).1 then 0 else 1
def Γ49 : Orc := orc [(N88, s88)]
theorem r49 (l : List Term.D) : run Γ49 noL [] F49 (encA [.v (.sl Term)] l) [] = bif !(ixL l).1 then some (.one (.int .i64 1)) else some (.one (.int .i64 0)) := by kernel_rfl
def s49 : Sp := .fn [.v (.sl Term)] fun l => (true, .one (.int .i64 (checkL l)))
theorem g49 : GoodS Try.prog N49 s49 := by
  refine good (.cons g88 (.nil _)) H49 rfl (by kernel_rfl) noL [] (noLoops (by kernel_rfl)) [.v (.sl Term)] (by decide) [] _ fun l r hw h => ?_
  cases h
  refine (r49 l).trans ?_
  unfold checkL
  cases (ixL l).1 <;> rfl
def findBad (l : List Term.D) (t : Term.D) : Bool := bif !(ixL l).1 then true else !mayB t l.length
def findL (l : List Term.D) (t : Term.D) : Int × Int :=
  bif findBad l t then (0, 1) else bif !mhas t (ixEnts l) then (0, 4) else (mgetD t (ixEnts l), 0)
def Γ103 : Orc := orc [(N88, s88), (N104, s104)]
theorem r103 (l : List Term.D) (t : Term.D) : run Γ103 noL [] F103 (encA [.v (.sl Term), .v Term] (l, t)) [] =
    bif findBad l t then some (.tup [(false, [.int .i64 0]), (false, [.int .i64 1])]) else
    bif !mhas t (ixEnts l) then some (.tup [(false, [.int .i64 0]), (false, [.int .i64 4])]) else some (.tup [(false, [.int .i64 (mgetD t (ixEnts l))]), (false, [.int .i64 0])]) := by kernel_rfl
def s103 : Sp := .fn [.v (.sl Term), .v Term] fun x => (true, .tup [(false, [.int .i64 (findL x.1 x.2).1]), (false, [.int .i64 (findL x.1 x.2).2])])
theorem g103 : GoodS Try.prog N103 s103 := by
  refine good (.cons g88 (.cons g104 (.nil _))) H103 rfl (by kernel_rfl) noL [] (noLoops (by kernel_rfl)) [.v (.sl Term), .v Term] (by decide) [] _ fun x r hw h => ?_
  obtain ⟨l, t⟩ := x
  cases h
  refine (r103 l t).trans ?_
  simp only [findL]
  cases findBad l t <;> cases !mhas t (ixEnts l) <;> rfl
def makeL (l : List Term.D) (t : Term.D) : Int × List Term.D × Int :=
  bif (findL l t).2 == 0 then ((findL l t).1, l, 0) else bif (findL l t).2 != 4 then (0, [], (findL l t).2) else bif (l.length : Int) == 65536 then (0, [], 6) else (l.length, l ++ [t], 0)
def Γ84 : Orc := orc [(N47, s47), (N103, s103)]
theorem r84 (l : List Term.D) (t : Term.D) : run Γ84 noL [] F84 (encA [.v (.sl Term), .v Term] (l, t)) [.id, .sl true Term, .id] =
    bif (findL l t).2 == 0 then (bif small24 l.length then some (.tup [(false, [.int .i64 (findL l t).1]), (false, [.sl true Term none l]), (false, [.int .i64 0])]) else none) else
    bif (findL l t).2 != 4 then some (.tup [(false, [.int .i64 0]), (false, [.sl true Term none []]), (false, [.int .i64 (findL l t).2])]) else
    bif (l.length : Int) == 65536 then some (.tup [(false, [.int .i64 0]), (false, [.sl true Term none []]), (false, [.int .i64 6])]) else
    bif small24 l.length then (bif decide ((l.length + [t].length) * 24 ≤ 140737488355328) then some (.tup [(false, [.int .i64 l.length]), (false, [.sl true Term none (l ++ [t])]), (false, [.int .i64 0])]) else none) else none := by kernel_rfl
theorem ixL_len {l : List Term.D} (h : (ixL l).1 = true) : l.length ≤ 65536 := by
  unfold ixL at h
  cases hd : decide ((l.length : Int) > 65536) with
  | true => rw [hd] at h; cases h
  | false => simp at hd; omega
theorem findL_ok {l : List Term.D} {t : Term.D} (h : (findL l t).2 = 0 ∨ (findL l t).2 = 4) : (ixL l).1 = true := by
  unfold findL findBad at h
  cases hq : (ixL l).1 with
  | true => rfl
  | false => rw [hq] at h; simp at h
theorem small_of {n : Nat} (h : n ≤ 65536) : small24 n = true := decide_eq_true (by omega)
def s84 : Sp := .fn [.v (.sl Term), .v Term] fun x => (true, .tup [(false, [.int .i64 (makeL x.1 x.2).1]), (false, [.sl true Term none (makeL x.1 x.2).2.1]), (false, [.int .i64 (makeL x.1 x.2).2.2])])
theorem g84 : GoodS Try.prog N84 s84 := by
  refine good (.cons g47 (.cons g103 (.nil _))) H84 rfl (by kernel_rfl) noL [] (noLoops (by kernel_rfl)) [.v (.sl Term), .v Term] (by decide) [.id, .sl true Term, .id] _ fun x r hw h => ?_
  obtain ⟨l, t⟩ := x
  cases h
  refine (r84 l t).trans ?_
  simp only [makeL]
  cases h0 : (findL l t).2 == 0 with
  | true =>
    rw [small_of (ixL_len (findL_ok (.inl (eq_of_beq h0))))]; rfl
  | false =>
    cases h4 : (findL l t).2 != 4 with
    | true => rfl
    | false =>
      have hl := ixL_len (findL_ok (.inr (by simpa using h4)))
      cases (l.length : Int) == 65536 with
      | true => rfl
      | false =>
        have : decide ((l.length + [t].length) * 24 ≤ 140737488355328) = true := decide_eq_true (by simp; omega)
        rw [small_of hl, this]; rfl
theorem checkL_cases (l : List Term.D) : (checkL l = 0 ∧ (ixL l).1 = true) ∨ (checkL l = 1 ∧ (ixL l).1 = false) := by
  unfold checkL
  cases (ixL l).1
  · exact .inr ⟨rfl, rfl⟩
  · exact .inl ⟨rfl, rfl⟩
end Go.AM.Seat
