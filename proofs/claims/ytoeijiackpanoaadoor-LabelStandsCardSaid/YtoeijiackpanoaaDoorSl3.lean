/- The seat: contracts and plain laws, in order (cut out of all texts by a program). -/
import Derived.Test.YtoeijiackpanoaaDoorSl2
set_option linter.unusedVariables false
set_option linter.unusedSimpArgs false
set_option maxRecDepth 100000
namespace Go.AM.Seat
open Go Go.AM Go.Proofs


theorem nl_split {w : World} {okA : Nat → Prop} {f : Bool} {t : Ty} {xs : List t.D} {v : Go.Value} (h : AVRel w μ0 (argOK okA) (.one (.sl f t none xs)) v) :
    (xs = [] ∧ AVRel w μ0 (argOK okA) (.one (.sl f t (some true) xs)) v) ∨ AVRel w μ0 (argOK okA) (.one (.sl f t (some false) xs)) v := by
  obtain ⟨h1, _⟩ := h
  obtain ⟨A, c, e, g1, g2, g3⟩ := id h1
  simp only [List.cons.injEq, and_true] at e
  subst e
  rcases g3 with ⟨rfl, rfl, rfl⟩ | ⟨b, o, ⟨sp, rfl, _⟩, _⟩
  · exact .inl ⟨rfl, h1, rfl⟩
  · exact .inr ⟨h1, _, _, _, rfl⟩
/-- A contract that looks whether its only argument is nil. -/
theorem good_nl {P : Program} {f : FuncId} {t : Ty} {xs : List t.D} {r : AV} (h1 : xs = [] → Good P f [.one (.sl false t (some true) xs)] r) (h2 : Good P f [.one (.sl false t (some false) xs)] r) : Good P f [.one (.sl false t none xs)] r := by
  intro w okA vs hA hl
  cases hl with
  | @cons _ v _ vs' hv ht =>
    rcases nl_split hv with ⟨e, hv'⟩ | hv'
    · exact h1 e w okA _ hA (.cons hv' ht)
    · exact h2 w okA _ hA (.cons hv' ht)
theorem r47n (xs : List Term.D) : run (orc []) noL [] F47 [.one (.sl false Term (some true) xs)] [.arr Term] = some (.arr true Term []) := by kernel_rfl
theorem r47 (xs : List Term.D) : run (orc []) noL [] F47 [.one (.sl false Term (some false) xs)] [.arr Term] =
    bif decide ((([] : List Term.D).length + xs.length) * 24 ≤ 140737488355328) then some (.arr true Term ([] ++ xs)) else none := by kernel_rfl
def small24 (n : Nat) : Bool := decide (n * 24 ≤ 140737488355328)
def s47 : Sp := .fn [.v (.sl Term)] fun xs => (small24 xs.length, .arr true Term xs)
theorem ks47 (ws : List WK) (args : List AV) (hl : args.length ≤ F47.ntmps) {r : AV} (h : run (orc []) noL [] F47 args ws = some r) : Good Tryd.prog N47 args r :=
  good_of mixed tbOk (.nil _) H47 (bd rfl) rfl rfl args hl ⟨F47.ntmps, 0, []⟩ rfl noL (noLoops (by kernel_rfl)) (kretW_spec ws) h
theorem g47 : GoodS Tryd.prog N47 s47 := by
  refine .fn (callable_of H47 (bd rfl) (by kernel_rfl)) fun xs r hw h => ?_
  have hs : small24 xs.length = true := congrArg Prod.fst h
  obtain rfl : AV.arr true Term xs = r := congrArg Prod.snd h
  refine good_nl (fun e => ?_) ?_
  · subst e
    exact ks47 [.arr Term] _ (by show 1 ≤ 8; omega) (r47n [])
  · refine ks47 [.arr Term] _ (by show 1 ≤ 8; omega) ((r47 xs).trans ?_)
    unfold small24 at hs
    simp only [List.length_nil, Nat.zero_add, hs, cond_true, List.nil_append]
abbrev Ents := List (Term.D × I.D)
def ixBad (t : Term.D) (i : Int) (es : Ents) : Bool := bif mhas t es then true else !mayB t i
def ixGo : List Term.D → Int → Ents → Bool × Ents × Int
  | [], i, es => (true, es, i)
  | t :: r, i, es => bif ixBad t i es then (false, es, i) else ixGo r (i + 1) (mput t i es)
abbrev live88 : List (Nat × Dir) := [(0, .keep), (2, .keep), (3, .keep), (4, .keep), (14, .keep), (15, .keep), (16, .keep), (17, .keep)]
def Γ88 : Orc := orc [(N104, s104)]
def vs88 (l l2 : List Term.D) (es : Ents) (n i : Int) : List AV :=
  [.one (.sl false Term none l), .one .nilm, .one (.bool false), .one (.mref 14), .mapO true Term I es, .one (.sl false Term none l2), .one (.int .i64 n), .one (.int .i64 i)]
def Λ88 : Lam AV := fun cur vs K =>
  match cur, vs with
  | 0, [.one (.sl false (.pair (.int .i64) (.pair (.int .i64) (.int .i64))) none l), .one .nilm, .one (.bool false), .one (.mref 14), .mapO true (.pair (.int .i64) (.pair (.int .i64) (.int .i64))) (.int .i64) [], .one (.sl false (.pair (.int .i64) (.pair (.int .i64) (.int .i64))) none l2), .one (.int .i64 n), .one (.int .i64 0)] =>
    bif decide (n = l2.length) && decide (n ≤ 9223372036854775807) then
      bif (ixGo l2 0 []).1 then K (.exit 0) (vs88 l l2 (ixGo l2 0 []).2.1 n (ixGo l2 0 []).2.2) else K .ret (vs88 l l2 (ixGo l2 0 []).2.1 n (ixGo l2 0 []).2.2)
    else none
  | _, _ => none
def tAt (l : List Term.D) (i : Int) : Term.D := l.getD i.toNat (0, 0, 0)
theorem step88 (l l2 : List Term.D) (es : Ents) (n i : Int) (K : AE → List AV → Option AV) (fuel : Nat) :
    loopN (aexec tb Γ88 Λ88 ⟨40, 0, [(0, live88)]⟩ (loop1 F88).2 0) 40 0 live88 K (fuel + 1) (vs88 l l2 es n i) =
    bif decide (i < n) then
      bif inB i l2.length then
        bif ixBad (tAt l2 i) i es then K .ret (vs88 l l2 es n i)
        else loopN (aexec tb Γ88 Λ88 ⟨40, 0, [(0, live88)]⟩ (loop1 F88).2 0) 40 0 live88 K fuel (vs88 l l2 (mput (tAt l2 i) i es) n (IntKind.i64.wrap (i + 1)))
      else none
    else K (.exit 0) (vs88 l l2 es n i) := by kernel_rfl
theorem ix_drop {l : List Term.D} {j : Nat} {es : Ents} (h : j < l.length) : ixGo (l.drop j) j es =
    bif ixBad (tAt l j) j es then (false, es, (j : Int)) else ixGo (l.drop (j + 1)) ((j + 1 : Nat) : Int) (mput (tAt l j) j es) := by
  rw [List.drop_eq_getElem_cons h]
  simp only [ixGo, tAt, Int.toNat_natCast, List.getD_eq_getElem?_getD, List.getElem?_eq_getElem h, Option.getD_some]
  rfl
theorem loop88 : LoopP tb Γ88 Λ88 ⟨40, 0, [(0, live88)]⟩ (loop1 F88) := by
  intro vs K out h
  have hcur : (loop1 F88).1 = 0 := by kernel_rfl
  rw [hcur] at h ⊢
  unfold Λ88 at h
  split at h
  · rename_i l l2 n _
    cases hc : (decide (n = l2.length) && decide (n ≤ 9223372036854775807)) with
    | false => rw [hc] at h; cases h
    | true =>
      rw [hc] at h
      simp only [cond_true] at h
      simp only [Bool.and_eq_true, decide_eq_true_eq] at hc
      obtain ⟨hn, hmax⟩ := hc
      subst hn
      have key : ∀ (m j : Nat) (es : Ents), j + m = l2.length → (bif (ixGo (l2.drop j) j es).1 then K (.exit 0) (vs88 l l2 (ixGo (l2.drop j) j es).2.1 l2.length (ixGo (l2.drop j) j es).2.2)
            else K .ret (vs88 l l2 (ixGo (l2.drop j) j es).2.1 l2.length (ixGo (l2.drop j) j es).2.2)) = some out →
          ∃ fuel, loopN (aexec tb Γ88 Λ88 ⟨40, 0, [(0, live88)]⟩ (loop1 F88).2 0) 40 0 live88 K fuel (vs88 l l2 es l2.length j) = some out := by
        intro m
        induction m with
        | zero =>
          intro j es hj h
          refine ⟨1, ?_⟩
          rw [step88]
          have hd : decide ((j : Int) < (l2.length : Int)) = false := by simp; omega
          rw [List.drop_of_length_le (by omega)] at h
          rw [hd]
          exact h
        | succ m ih =>
          intro j es hj h
          have hlt : j < l2.length := by omega
          have hd : decide ((j : Int) < (l2.length : Int)) = true := by simp; omega
          have hb : inB (j : Int) l2.length = true := by simp [inB]; omega
          rw [ix_drop hlt] at h
          cases hx : ixBad (tAt l2 j) j es with
          | true =>
            refine ⟨1, ?_⟩
            rw [step88, hd, hb]
            simp only [cond_true, hx]
            rw [hx] at h
            exact h
          | false =>
            rw [hx] at h
            obtain ⟨fuel, hf⟩ := ih (j + 1) _ (by omega) h
            refine ⟨fuel + 1, ?_⟩
            rw [step88, hd, hb]
            simp only [cond_true, cond_false, hx]
            rw [wrap64 (by omega) (by omega)]
            exact hf
      exact key l2.length 0 [] (by omega) h
  · cases h
def ixL (l : List Term.D) : Bool × Ents × Int := bif decide ((l.length : Int) > 65536) then (false, [], 0) else ixGo l 0 []
def ixEnts (l : List Term.D) : Ents := bif (ixL l).1 then (ixL l).2.1 else []
def s88 : Sp := .fn [.v (.sl Term)] fun l => (true, .tup [(false, [.sm true Term I (ixEnts l)]), (false, [.bool (ixL l).1])])
theorem r88 (l : List Term.D) : run Γ88 Λ88 [(0, live88)] F88 (encA [.v (.sl Term)] l) [.mp true Term I, .id] =
    bif decide ((l.length : Int) > 65536) then some (.tup [(false, [.sm true Term I []]), (false, [.bool false])]) else
    bif decide ((l.length : Int) = l.length) && decide ((l.length : Int) ≤ 9223372036854775807) then
      bif (ixGo l 0 []).1 then some (.tup [(false, [.sm true Term I (ixGo l 0 []).2.1]), (false, [.bool true])]) else some (.tup [(false, [.sm true Term I []]), (false, [.bool false])])
    else none := by kernel_rfl
theorem g88 : GoodS Tryd.prog N88 s88 := by
  refine good (.cons g104 (.nil _)) H88 rfl (by kernel_rfl) Λ88 [(0, live88)] (oneLoop (p0 := loop1 F88) (by kernel_rfl) loop88) [.v (.sl Term)] (by decide) [.mp true Term I, .id] _ fun l r hw h => ?_
  cases h
  refine (r88 l).trans ?_
  have hmax : (l.length : Int) ≤ 9223372036854775807 := by have : l.length ≤ 9223372036854775807 := hw.1; omega
  simp only [decide_eq_true hmax, decide_true, Bool.and_self, cond_true, ixEnts, ixL]
  cases decide ((l.length : Int) > 65536) with
  | true => rfl
  | false =>
    simp only [cond_false]
    cases hq : (ixGo l 0 []).1 <;> rfl
def checkL (l : List Term.D) : Int := bif (ixL l).1 then 0 else 1
def Γ49 : Orc := orc [(N88, s88)]
theorem r49 (l : List Term.D) : run Γ49 noL [] F49 (encA [.v (.sl Term)] l) [] = bif !(ixL l).1 then some (.one (.int .i64 1)) else some (.one (.int .i64 0)) := by kernel_rfl
def s49 : Sp := .fn [.v (.sl Term)] fun l => (true, .one (.int .i64 (checkL l)))
theorem g49 : GoodS Tryd.prog N49 s49 := by
  refine good (.cons g88 (.nil _)) H49 rfl (by kernel_rfl) noL [] (noLoops (by kernel_rfl)) [.v (.sl Term)] (by decide) [] _ fun l r hw h => ?_
  cases h
  refine (r49 l).trans ?_
  unfold checkL
  cases (ixL l).1 <;> rfl
def findBad (l : List Term.D) (t : Term.D) : Bool := bif !(ixL l).1 then true else !mayB t l.length
def findL (l : List Term.D) (t : Term.D) : Int × Int :=
  bif findBad l t then (0, 1) else bif !mhas t (ixEnts l) then (0, 4) else (mgetD t (ixEnts l), 0)
def Γ103 : Orc := orc [(N88, s88), (N104, s104)]
theorem r103 (l : List Term.D) (t : Term.D) : run Γ103 noL [] F103 (encA [.v (.sl Term), .v Term] (l, t)) [] =
    bif findBad l t then some (.tup [(false, [.int .i64 0]), (false, [.int .i64 1])]) else
    bif !mhas t (ixEnts l) then some (.tup [(false, [.int .i64 0]), (false, [.int .i64 4])]) else some (.tup [(false, [.int .i64 (mgetD t (ixEnts l))]), (false, [.int .i64 0])]) := by kernel_rfl
def s103 : Sp := .fn [.v (.sl Term), .v Term] fun x => (true, .tup [(false, [.int .i64 (findL x.1 x.2).1]), (false, [.int .i64 (findL x.1 x.2).2])])
theorem g103 : GoodS Tryd.prog N103 s103 := by
  refine good (.cons g88 (.cons g104 (.nil _))) H103 rfl (by kernel_rfl) noL [] (noLoops (by kernel_rfl)) [.v (.sl Term), .v Term] (by decide) [] _ fun x r hw h => ?_
  obtain ⟨l, t⟩ := x
  cases h
  refine (r103 l t).trans ?_
  simp only [findL]
  cases findBad l t <;> cases !mhas t (ixEnts l) <;> rfl
def makeL (l : List Term.D) (t : Term.D) : Int × List Term.D × Int :=
  bif (findL l t).2 == 0 then ((findL l t).1, l, 0) else bif (findL l t).2 != 4 then (0, [], (findL l t).2) else bif (l.length : Int) == 65536 then (0, [], 6) else (l.length, l ++ [t], 0)
def Γ84 : Orc := orc [(N47, s47), (N103, s103)]
theorem r84 (l : List Term.D) (t : Term.D) : run Γ84 noL [] F84 (encA [.v (.sl Term), .v Term] (l, t)) [.id, .sl true Term, .id] =
    bif (findL l t).2 == 0 then (bif small24 l.length then some (.tup [(false, [.int .i64 (findL l t).1]), (false, [.sl true Term none l]), (false, [.int .i64 0])]) else none) else
    bif (findL l t).2 != 4 then some (.tup [(false, [.int .i64 0]), (false, [.sl true Term none []]), (false, [.int .i64 (findL l t).2])]) else
    bif (l.length : Int) == 65536 then some (.tup [(false, [.int .i64 0]), (false, [.sl true Term none []]), (false, [.int .i64 6])]) else
    bif small24 l.length then (bif decide ((l.length + [t].length) * 24 ≤ 140737488355328) then some (.tup [(false, [.int .i64 l.length]), (false, [.sl true Term none (l ++ [t])]), (false, [.int .i64 0])]) else none) else none := by kernel_rfl
theorem ixL_len {l : List Term.D} (h : (ixL l).1 = true) : l.length ≤ 65536 := by
  unfold ixL at h
  cases hd : decide ((l.length : Int) > 65536) with
  | true => rw [hd] at h; cases h
  | false => simp at hd; omega
theorem findL_ok {l : List Term.D} {t : Term.D} (h : (findL l t).2 = 0 ∨ (findL l t).2 = 4) : (ixL l).1 = true := by
  unfold findL findBad at h
  cases hq : (ixL l).1 with
  | true => rfl
  | false => rw [hq] at h; simp at h
theorem small_of {n : Nat} (h : n ≤ 65536) : small24 n = true := decide_eq_true (by omega)
def s84 : Sp := .fn [.v (.sl Term), .v Term] fun x => (true, .tup [(false, [.int .i64 (makeL x.1 x.2).1]), (false, [.sl true Term none (makeL x.1 x.2).2.1]), (false, [.int .i64 (makeL x.1 x.2).2.2])])
theorem g84 : GoodS Tryd.prog N84 s84 := by
  refine good (.cons g47 (.cons g103 (.nil _))) H84 rfl (by kernel_rfl) noL [] (noLoops (by kernel_rfl)) [.v (.sl Term), .v Term] (by decide) [.id, .sl true Term, .id] _ fun x r hw h => ?_
  obtain ⟨l, t⟩ := x
  cases h
  refine (r84 l t).trans ?_
  simp only [makeL]
  cases h0 : (findL l t).2 == 0 with
  | true =>
    rw [small_of (ixL_len (findL_ok (.inl (eq_of_beq h0))))]; rfl
  | false =>
    cases h4 : (findL l t).2 != 4 with
    | true => rfl
    | false =>
      have hl := ixL_len (findL_ok (.inr (by simpa using h4)))
      cases (l.length : Int) == 65536 with
      | true => rfl
      | false =>
        have : decide ((l.length + [t].length) * 24 ≤ 140737488355328) = true := decide_eq_true (by simp; omega)
        rw [small_of hl, this]; rfl
theorem checkL_cases (l : List Term.D) : (checkL l = 0 ∧ (ixL l).1 = true) ∨ (checkL l = 1 ∧ (ixL l).1 = false) := by
  unfold checkL
  cases (ixL l).1
  · exact .inr ⟨rfl, rfl⟩
  · exact .inl ⟨rfl, rfl⟩

theorem eqT {a b : Term.D} : eqD Term a b = true ↔ a = b := by
  obtain ⟨a1, a2, a3⟩ := a
  obtain ⟨b1, b2, b3⟩ := b
  simp [eqD]
theorem eqT_false {a b : Term.D} : eqD Term a b = false ↔ a ≠ b := by
  rw [Ne, ← eqT]; simp
def entsFrom : List Term.D → Int → Ents
  | [], _ => []
  | t :: r, i => (t, i) :: entsFrom r (i + 1)
theorem mget_ents_none {t : Term.D} : ∀ {l : List Term.D} {i : Int}, mget t (entsFrom l i) = none ↔ t ∉ l := by
  intro l
  induction l with
  | nil => intro i; simp [entsFrom, mget]
  | cons a l ih =>
    intro i
    simp only [entsFrom, mget]
    cases h : eqD Term t a with
    | true => simp [eqT.1 h]
    | false =>
      have := eqT_false.1 h
      simp only [cond_false, ih, List.mem_cons, this, false_or]
theorem mget_ents_some {t : Term.D} {x : Int} : ∀ {l : List Term.D} {i : Int}, mget t (entsFrom l i) = some x → ∃ j : Nat, l[j]? = some t ∧ x = i + j := by
  intro l
  induction l with
  | nil => intro i h; simp [entsFrom, mget] at h
  | cons a l ih =>
    intro i h
    simp only [entsFrom, mget] at h
    cases hq : eqD Term t a with
    | true =>
      rw [hq] at h
      simp only [cond_true, Option.some.injEq] at h
      exact ⟨0, by simp [eqT.1 hq], by simp [h]⟩
    | false =>
      rw [hq] at h
      obtain ⟨j, h1, h2⟩ := ih h
      exact ⟨j + 1, by simpa using h1, by omega⟩
theorem mput_ents {t : Term.D} : ∀ {l : List Term.D} {i x : Int}, t ∉ l → x = i + l.length → mput t x (entsFrom l i) = entsFrom (l ++ [t]) i := by
  intro l
  induction l with
  | nil => intro i x _ hx; simp [entsFrom, mput] at hx ⊢; exact hx
  | cons a l ih =>
    intro i x hn hx
    simp only [List.mem_cons, not_or] at hn
    simp only [List.cons_append, entsFrom, mput, eqT_false.2 hn.1, cond_false]
    rw [ih hn.2 (by simp at hx; omega)]
theorem mhas_ents {t : Term.D} {l : List Term.D} {i : Int} : mhas t (entsFrom l i) = true ↔ t ∈ l := by
  unfold mhas
  cases h : mget t (entsFrom l i) with
  | none => simp [mget_ents_none.1 h]
  | some x =>
    obtain ⟨j, h1, _⟩ := mget_ents_some h
    simp [List.mem_of_getElem? h1]
theorem mhas_ents_false {t : Term.D} {l : List Term.D} {i : Int} : mhas t (entsFrom l i) = false ↔ t ∉ l := by
  rw [← mhas_ents (i := i)]; simp
/-- Terms that may be. -/
def GoodL (l : List Term.D) : Prop := l.length ≤ 65536 ∧ ∀ (j : Nat) (t : Term.D), l[j]? = some t → mayB t j = true ∧ t ∉ l.take j
theorem ixGo_spec : ∀ (r p : List Term.D), ((ixGo r p.length (entsFrom p 0)).1 = true ↔ ∀ (j : Nat) (t : Term.D), r[j]? = some t → mayB t ((p.length : Int) + j) = true ∧ t ∉ p ++ r.take j) ∧
    ((ixGo r p.length (entsFrom p 0)).1 = true → (ixGo r p.length (entsFrom p 0)).2.1 = entsFrom (p ++ r) 0) := by
  intro r
  induction r with
  | nil => intro p; simp [ixGo]
  | cons a r ih =>
    intro p
    simp only [ixGo, ixBad]
    cases h1 : mhas a (entsFrom p 0) with
    | true =>
      have := mhas_ents.1 h1
      refine ⟨⟨fun h => (by simp at h), fun h => ?_⟩, fun h => by simp at h⟩
      exact absurd (h 0 a rfl).2 (by simp [this])
    | false =>
      have h1 := mhas_ents_false.1 h1
      cases h2 : mayB a p.length with
      | false =>
        refine ⟨⟨fun h => (by simp at h), fun h => ?_⟩, fun h => by simp at h⟩
        have := (h 0 a rfl).1
        simp [h2] at this
      | true =>
        simp only [cond_false, Bool.not_true]
        have e1 : (p.length : Int) + 1 = ((p ++ [a]).length : Nat) := by simp
        rw [mput_ents h1 (by omega), e1]
        obtain ⟨g1, g2⟩ := ih (p ++ [a])
        refine ⟨g1.trans ⟨fun h j t hj => ?_, fun h j t hj => ?_⟩, fun h => by rw [g2 h]; simp⟩
        · cases j with
          | zero =>
            simp only [List.getElem?_cons_zero, Option.some.injEq] at hj
            subst hj
            simpa [h2] using h1
          | succ j =>
            have := h j t (by simpa using hj)
            refine ⟨?_, by simpa using this.2⟩
            have h3 := this.1
            rw [← e1] at h3
            rw [← h3]; congr 1; omega
        · have := h (j + 1) t (by simpa using hj)
          refine ⟨?_, by simpa using this.2⟩
          have h3 := this.1
          rw [← e1, ← h3]; congr 1; omega
theorem ixL_iff {l : List Term.D} : (ixL l).1 = true ↔ GoodL l := by
  unfold ixL
  cases h : decide ((l.length : Int) > 65536) with
  | true =>
    refine ⟨fun h => (by simp at h), fun h' => ?_⟩
    have := h'.1
    simp at h; omega
  | false =>
    simp only [cond_false]
    have := (ixGo_spec l []).1
    simp only [List.length_nil, List.nil_append, entsFrom] at this
    refine this.trans ⟨fun h2 => ⟨by simp at h; omega, fun j t hj => ?_⟩, fun h2 j t hj => ?_⟩
    · have := h2 j t hj; simpa using this
    · have := h2.2 j t hj; simpa using this
theorem checkL_iff {l : List Term.D} : checkL l = 0 ↔ GoodL l := by
  rw [← ixL_iff]
  rcases checkL_cases l with ⟨h, h'⟩ | ⟨h, h'⟩ <;> simp [h, h']
theorem ixEnts_eq {l : List Term.D} (h : GoodL l) : ixEnts l = entsFrom l 0 := by
  have h1 := ixL_iff.2 h
  unfold ixEnts
  rw [h1]
  simp only [cond_true]
  unfold ixL at h1 ⊢
  cases hd : decide ((l.length : Int) > 65536) with
  | true => rw [hd] at h1; simp at h1
  | false =>
    rw [hd] at h1
    simp only [cond_false] at h1 ⊢
    have := (ixGo_spec l []).2 h1
    simpa [entsFrom] using this
theorem GoodL.uniq {l : List Term.D} (h : GoodL l) {i j : Nat} {t : Term.D} (hi : l[i]? = some t) (hj : l[j]? = some t) : i = j := by
  rcases Nat.lt_trichotomy i j with hlt | he | hlt
  · exact absurd (List.mem_of_getElem? (show (l.take j)[i]? = some t by rw [List.getElem?_take, if_pos hlt]; exact hi)) (h.2 j t hj).2
  · exact he
  · exact absurd (List.mem_of_getElem? (show (l.take i)[j]? = some t by rw [List.getElem?_take, if_pos hlt]; exact hj)) (h.2 i t hi).2
/-- What is made: where it is, and the terms. -/
theorem makeL_ok {l : List Term.D} {t : Term.D} (h : (makeL l t).2.2 = 0) : GoodL l ∧ mayB t l.length = true ∧ ∃ i : Nat, (makeL l t).1 = i ∧ GoodL (makeL l t).2.1 ∧ (makeL l t).2.1[i]? = some t ∧
    ((t ∈ l ∧ (makeL l t).2.1 = l) ∨ (t ∉ l ∧ i = l.length ∧ l.length < 65536 ∧ (makeL l t).2.1 = l ++ [t])) := by
  unfold makeL at h ⊢
  have hg : (ixL l).1 = true := by
    refine findL_ok (t := t) ?_
    cases h0 : (findL l t).2 == 0 with
    | true => exact .inl (eq_of_beq h0)
    | false =>
      rw [h0] at h
      cases h4 : (findL l t).2 != 4 with
      | true => rw [h4] at h; simp only [cond_true, cond_false] at h; exact .inl h
      | false => exact .inr (by simpa using h4)
  have hG := ixL_iff.1 hg
  have hE := ixEnts_eq hG
  have hf : findL l t = bif !mayB t l.length then (0, 1) else bif !mhas t (entsFrom l 0) then (0, 4) else (mgetD t (entsFrom l 0), 0) := by
    unfold findL findBad; rw [hg, hE]; rfl
  cases hm : mayB t l.length with
  | false =>
    rw [hm] at hf
    simp only [Bool.not_false, cond_true] at hf
    rw [hf] at h
    simp at h
  | true =>
    rw [hm] at hf
    simp only [Bool.not_true, cond_false] at hf
    refine ⟨hG, rfl, ?_⟩
    cases hh : mhas t (entsFrom l 0) with
    | true =>
      rw [hh] at hf
      simp only [Bool.not_true, cond_false] at hf
      have hmem := mhas_ents.1 hh
      have : ∃ x, mget t (entsFrom l 0) = some x := by
        unfold mhas at hh
        cases hq : mget t (entsFrom l 0) with
        | none => rw [hq] at hh; cases hh
        | some x => exact ⟨x, rfl⟩
      obtain ⟨x, hx⟩ := this
      obtain ⟨j, hj, hxj⟩ := mget_ents_some hx
      have hd : mgetD t (entsFrom l 0) = x := (mgetD_some hx).1
      rw [hf]
      simp only [beq_self_eq_true, cond_true]
      exact ⟨j, by rw [hd, hxj]; simp, hG, hj, .inl ⟨hmem, trivial⟩⟩
    | false =>
      rw [hh] at hf
      simp only [Bool.not_false, cond_true] at hf
      have hmem := mhas_ents_false.1 hh
      rw [hf] at h ⊢
      cases h6 : (l.length : Int) == 65536 with
      | true => rw [h6] at h; simp at h
      | false =>
        have h6' : l.length ≠ 65536 := fun e => by rw [e] at h6; cases h6
        have hl := hG.1
        show ∃ i : Nat, (l.length : Int) = i ∧ GoodL (l ++ [t]) ∧ (l ++ [t])[i]? = some t ∧ _
        refine ⟨l.length, rfl, ⟨by simp; omega, fun j s hj => ?_⟩, by simp, .inr ⟨hmem, rfl, by omega, rfl⟩⟩
        rcases Nat.lt_or_ge j l.length with hlt | hge
        · rw [List.getElem?_append_left hlt] at hj
          rw [List.take_append_of_le_length (by omega)]
          exact hG.2 j s hj
        · have hjl : j < (l ++ [t]).length := (List.getElem?_eq_some_iff.1 hj).1
          obtain rfl : j = l.length := by simp at hjl; omega
          simp only [List.getElem?_concat_length, Option.some.injEq] at hj
          subst hj
          simpa [hm] using hmem
/-- What may be, is made. -/
theorem makeL_may {l : List Term.D} {t : Term.D} (h : GoodL l) (hm : mayB t l.length = true) (hl : l.length < 65536) : (makeL l t).2.2 = 0 := by
  have hg := ixL_iff.2 h
  have hE := ixEnts_eq h
  have hf : findL l t = bif !mhas t (entsFrom l 0) then (0, 4) else (mgetD t (entsFrom l 0), 0) := by
    unfold findL findBad; rw [hg, hE, hm]; rfl
  unfold makeL
  rw [hf]
  cases hh : mhas t (entsFrom l 0) with
  | true => rfl
  | false =>
    have : ((l.length : Int) == 65536) = false := by simp; omega
    simp only [Bool.not_false, cond_true, this]
    rfl
theorem mayB_part {k i n : Int} (hk : k = 2 ∨ k = 3 ∨ k = 4) (h0 : 0 ≤ i) (h1 : i < n) : mayB (k, i, 0) n = true := by
  have hb : badP n i = false := by unfold badP; rw [decide_eq_false (by omega)]; simp; omega
  rcases hk with rfl | rfl | rfl <;> simp [mayB, mayBad, partsL, hb]
theorem mayB_wrap {i j n : Int} (h0 : 0 ≤ i) (h1 : i < n) (h2 : 0 ≤ j) (h3 : j < n) : mayB (5, i, j) n = true := by
  have hb : badP n i = false := by unfold badP; rw [decide_eq_false (by omega)]; simp; omega
  have hc : badP n j = false := by unfold badP; rw [decide_eq_false (by omega)]; simp; omega
  simp [mayB, mayBad, partsL, hb, hc]
theorem makeL_len (l : List Term.D) (t : Term.D) : (makeL l t).2.1.length ≤ l.length + 1 := by
  unfold makeL
  cases (findL l t).2 == 0 <;> cases (findL l t).2 != 4 <;> cases (l.length : Int) == 65536 <;> simp
theorem tAt_get {l : List Term.D} {i : Nat} {t : Term.D} (h : l[i]? = some t) : tAt l i = t := by
  unfold tAt
  simp [List.getD_eq_getElem?_getD, h]
theorem tAt_prefix {l r : List Term.D} {i : Int} (h0 : 0 ≤ i) (h1 : i < l.length) : tAt (l ++ r) i = tAt l i := by
  unfold tAt
  rw [List.getD_eq_getElem?_getD, List.getD_eq_getElem?_getD, List.getElem?_append_left (by omega)]
def a90 (t : Term.D) : Bool := bif bif decide (t.2.1 ≥ 0) then decide (t.2.1 ≤ 1048576) else false then t.2.2 == 0 else false
def b90 (t : Term.D) (i : Int) : Bool := bif bif decide (t.2.1 ≥ 0) then decide (t.2.1 < i) else false then t.2.2 == 0 else false
def c90 (t : Term.D) (i : Int) : Bool := bif bif bif decide (t.2.1 ≥ 0) then decide (t.2.1 < i) else false then decide (t.2.2 ≥ 0) else false then decide (t.2.2 < i) else false
def mayR (t : Term.D) (i : Int) : Bool := bif t.1 == 1 then a90 t else bif t.1 == 2 then b90 t i else bif t.1 == 3 then b90 t i else bif t.1 == 4 then b90 t i else bif t.1 == 5 then c90 t i else false
def ob (b : Bool) : Option AV := some (.one (.bool b))
theorem r90 (t : Term.D) (i : Int) : run (orc []) noL [] F90 (encA [.v Term, .v I] (t, i)) [] =
    bif t.1 == 1 then ob (a90 t) else bif t.1 == 2 then ob (b90 t i) else bif t.1 == 3 then ob (b90 t i) else bif t.1 == 4 then ob (b90 t i) else bif t.1 == 5 then ob (c90 t i) else ob false := by kernel_rfl
def s90 : Sp := .fn [.v Term, .v I] fun x => (true, .one (.bool (mayR x.1 x.2)))
theorem g90 : GoodS Tryd.prog N90 s90 := by
  refine good (.nil _) H90 rfl (by kernel_rfl) noL [] (noLoops (by kernel_rfl)) [.v Term, .v I] (by decide) [] _ fun x r _ h => ?_
  obtain ⟨t, i⟩ := x
  cases h
  rw [r90]
  show _ = ob (mayR t i)
  unfold mayR
  cases (t.1 == 1) <;> cases (t.1 == 2) <;> cases (t.1 == 3) <;> cases (t.1 == 4) <;> cases (t.1 == 5) <;> rfl
def plGo (t : Term.D) : List Term.D → Int → Int
  | [], _ => -1
  | x :: xs, i => bif eqD Term x t then i else plGo t xs (i + 1)
abbrev live91 : List (Nat × Dir) := [(3, .keep), (4, .keep), (7, .keep), (8, .keep), (9, .keep)]
def vs91 (l : List Term.D) (t : Term.D) (r n i : Int) : List AV :=
  [.own [.int .i64 t.1, .int .i64 t.2.1, .int .i64 t.2.2], .one (.int .i64 r), .one (.sl false Term none l), .one (.int .i64 n), .one (.int .i64 i)]
def Λ91 : Lam AV := fun cur vs K =>
  match cur, vs with
  | 0, [.own [.int .i64 a, .int .i64 b, .int .i64 c], .one (.int .i64 0), .one (.sl false (.pair (.int .i64) (.pair (.int .i64) (.int .i64))) none l), .one (.int .i64 n), .one (.int .i64 0)] =>
    bif decide (n = l.length) && decide (n ≤ 9223372036854775807) then
      bif decide (plGo (a, b, c) l 0 < 0) then K (.exit 0) (vs91 l (a, b, c) 0 n n) else K .ret (vs91 l (a, b, c) (plGo (a, b, c) l 0) n (plGo (a, b, c) l 0))
    else none
  | _, _ => none
theorem tAt_drop {l : List Term.D} {j : Nat} (h : j < l.length) : l.drop j = tAt l j :: l.drop (j + 1) := by
  rw [List.drop_eq_getElem_cons h]
  simp [tAt, h]
theorem step91 (l : List Term.D) (t : Term.D) (r n i : Int) (K : AE → List AV → Option AV) (fuel : Nat) :
    loopN (aexec tb (orc []) Λ91 ⟨19, 0, [(0, live91)]⟩ (loop1 F91).2 0) 19 0 live91 K (fuel + 1) (vs91 l t r n i) =
    bif decide (i < n) then
      bif inB i l.length then
        bif eqD Term (tAt l i) t then K .ret (vs91 l t i n i)
        else loopN (aexec tb (orc []) Λ91 ⟨19, 0, [(0, live91)]⟩ (loop1 F91).2 0) 19 0 live91 K fuel (vs91 l t r n (IntKind.i64.wrap (i + 1)))
      else none
    else K (.exit 0) (vs91 l t r n i) := by kernel_rfl
theorem plGo_ge (t : Term.D) : ∀ (xs : List Term.D) (i : Int), plGo t xs i = -1 ∨ i ≤ plGo t xs i := by
  intro xs
  induction xs with
  | nil => intro i; exact .inl rfl
  | cons x xs ih =>
    intro i
    simp only [plGo]
    cases eqD Term x t with
    | true => exact .inr (Int.le_refl i)
    | false => rcases ih (i + 1) with h | h
               · exact .inl h
               · exact .inr (by simp only [cond_false]; omega)
theorem loop91 : LoopP tb (orc []) Λ91 ⟨19, 0, [(0, live91)]⟩ (loop1 F91) := by
  intro vs K out h
  have hcur : (loop1 F91).1 = 0 := by kernel_rfl
  rw [hcur] at h ⊢
  unfold Λ91 at h
  split at h
  · rename_i a b c l n _
    cases hc : (decide (n = l.length) && decide (n ≤ 9223372036854775807)) with
    | false => rw [hc] at h; cases h
    | true =>
      rw [hc] at h
      simp only [cond_true] at h
      simp only [Bool.and_eq_true, decide_eq_true_eq] at hc
      obtain ⟨rfl, hmax⟩ := hc
      refine upLoop (α := Unit) (n := l.length) (F := fun fuel _ i => loopN (aexec tb (orc []) Λ91 ⟨19, 0, [(0, live91)]⟩ (loop1 F91).2 0) 19 0 live91 K fuel (vs91 l (a, b, c) 0 l.length i))
        (G := fun j _ => bif decide (plGo (a, b, c) (l.drop j) j < 0) then K (.exit 0) (vs91 l (a, b, c) 0 l.length l.length) else K .ret (vs91 l (a, b, c) (plGo (a, b, c) (l.drop j) j) l.length (plGo (a, b, c) (l.drop j) j)))
        (fun fuel _ => ?_) (fun _ j hj => ?_) l.length 0 () out (by omega) h
      · simp only [step91, nlt_dec, cond_false, List.drop_length, plGo]; rfl
      · cases hx : eqD Term (tAt l j) (a, b, c) with
        | true =>
          right; intro fuel
          have h0 : decide ((j : Int) < 0) = false := by simp
          simp only [step91, lt_dec hj, inB_lt hj, hx, cond_true, cond_false, tAt_drop hj, plGo, h0]
        | false =>
          left; refine ⟨(), fun fuel => ?_, ?_⟩
          · simp only [step91, lt_dec hj, inB_lt hj, hx, cond_true, cond_false]
            rw [wrap64 (by omega) (by omega)]; rfl
          · simp only [tAt_drop hj, plGo, hx, cond_false]; rfl
  · cases h
theorem r91 (l : List Term.D) (t : Term.D) : run (orc []) Λ91 [(0, live91)] F91 (encA [.v (.sl Term), .v Term] (l, t)) [] =
    bif decide ((l.length : Int) = l.length) && decide ((l.length : Int) ≤ 9223372036854775807) then
      bif decide (plGo t l 0 < 0) then some (.one (.int .i64 (-1))) else some (.one (.int .i64 (plGo t l 0)))
    else none := by kernel_rfl
def s91 : Sp := .fn [.v (.sl Term), .v Term] fun x => (true, .one (.int .i64 (plGo x.2 x.1 0)))
theorem len_max {l : List Term.D} (hw : l.length ≤ 9223372036854775807) : (decide ((l.length : Int) = l.length) && decide ((l.length : Int) ≤ 9223372036854775807)) = true := by
  have hmax : (l.length : Int) ≤ 9223372036854775807 := by omega
  simp [hmax]
theorem g91 : GoodS Tryd.prog N91 s91 := by
  refine good (.nil _) H91 rfl (by kernel_rfl) Λ91 [(0, live91)] (oneLoop (p0 := loop1 F91) (by kernel_rfl) loop91) [.v (.sl Term), .v Term] (by decide) [] _ fun x r hw h => ?_
  obtain ⟨l, t⟩ := x
  cases h
  refine (r91 l t).trans ?_
  rw [len_max hw.1.1, cond_true]
  rcases plGo_ge t l 0 with h | h
  · rw [h]; rfl
  · have : decide (plGo t l 0 < 0) = false := by simpa using h
    rw [this]; rfl
def ckBad (l : List Term.D) (t : Term.D) (i : Int) : Bool := bif !mayR t i then true else decide (plGo t (l.take i.toNat) 0 ≥ 0)
def ckGo (l : List Term.D) : List Term.D → Int → Bool
  | [], _ => true
  | t :: r, i => bif ckBad l t i then false else ckGo l r (i + 1)
/-- Where that stops. -/
def ckAt (l : List Term.D) : List Term.D → Int → Int
  | [], i => i
  | t :: r, i => bif ckBad l t i then i else ckAt l r (i + 1)
abbrev live51 : List (Nat × Dir) := [(0, .keep), (2, .keep), (8, .keep), (9, .keep), (10, .keep)]
def Γ51 : Orc := orc [(N90, s90), (N91, s91)]
def vs51 (l l2 : List Term.D) (r n i : Int) : List AV :=
  [.one (.sl false Term none l), .one (.int .i64 r), .one (.sl false Term none l2), .one (.int .i64 n), .one (.int .i64 i)]
def Λ51 : Lam AV := fun cur vs K =>
  match cur, vs with
  | 0, [.one (.sl false (.pair (.int .i64) (.pair (.int .i64) (.int .i64))) none l), .one (.int .i64 0), .one (.sl false (.pair (.int .i64) (.pair (.int .i64) (.int .i64))) none l2), .one (.int .i64 n), .one (.int .i64 0)] =>
    bif decide (n = l2.length) && decide (n ≤ 9223372036854775807) && decide (l.length = l2.length) then
      bif ckGo l l2 0 then K (.exit 0) (vs51 l l2 0 n n) else K .ret (vs51 l l2 1 n (ckAt l l2 0))
    else none
  | _, _ => none
def inSl (i : Int) (n : Nat) : Bool := decide (0 ≤ i) && decide (i ≤ (n : Int))
theorem inSl_lt {j n : Nat} (h : j ≤ n) : inSl (j : Int) n = true := by simp [inSl]; omega
theorem step51 (l l2 : List Term.D) (r n i : Int) (K : AE → List AV → Option AV) (fuel : Nat) :
    loopN (aexec tb Γ51 Λ51 ⟨28, 0, [(0, live51)]⟩ (loop1 F51).2 0) 28 0 live51 K (fuel + 1) (vs51 l l2 r n i) =
    bif decide (i < n) then
      bif inB i l2.length then
        bif !mayR (tAt l2 i) i then K .ret (vs51 l l2 1 n i)
        else bif inSl i l.length then
          bif decide (plGo (tAt l2 i) (l.take i.toNat) 0 ≥ 0) then K .ret (vs51 l l2 1 n i)
          else loopN (aexec tb Γ51 Λ51 ⟨28, 0, [(0, live51)]⟩ (loop1 F51).2 0) 28 0 live51 K fuel (vs51 l l2 r n (IntKind.i64.wrap (i + 1)))
        else none
      else none
    else K (.exit 0) (vs51 l l2 r n i) := by kernel_rfl
theorem loop51 : LoopP tb Γ51 Λ51 ⟨28, 0, [(0, live51)]⟩ (loop1 F51) := by
  intro vs K out h
  have hcur : (loop1 F51).1 = 0 := by kernel_rfl
  rw [hcur] at h ⊢
  unfold Λ51 at h
  split at h
  · rename_i l l2 n _
    cases hc : (decide (n = l2.length) && decide (n ≤ 9223372036854775807) && decide (l.length = l2.length)) with
    | false => rw [hc] at h; cases h
    | true =>
      rw [hc] at h
      simp only [cond_true] at h
      simp only [Bool.and_eq_true, decide_eq_true_eq] at hc
      obtain ⟨⟨rfl, hmax⟩, hl⟩ := hc
      refine upLoop (α := Unit) (n := l2.length) (F := fun fuel _ i => loopN (aexec tb Γ51 Λ51 ⟨28, 0, [(0, live51)]⟩ (loop1 F51).2 0) 28 0 live51 K fuel (vs51 l l2 0 l2.length i))
        (G := fun j _ => bif ckGo l (l2.drop j) j then K (.exit 0) (vs51 l l2 0 l2.length l2.length) else K .ret (vs51 l l2 1 l2.length (ckAt l (l2.drop j) j)))
        (fun fuel _ => ?_) (fun _ j hj => ?_) l2.length 0 () out (by omega) h
      · simp only [step51, nlt_dec, cond_false, List.drop_length, ckGo, cond_true]
      · have hs : inSl (j : Int) l.length = true := inSl_lt (by omega)
        cases h1 : !mayR (tAt l2 j) j with
        | true =>
          right; intro fuel
          simp only [step51, lt_dec hj, inB_lt hj, h1, cond_true, cond_false, tAt_drop hj, ckGo, ckAt, ckBad]
        | false =>
          cases h2 : decide (plGo (tAt l2 j) (l.take (j : Int).toNat) 0 ≥ 0) with
          | true =>
            right; intro fuel
            simp only [step51, lt_dec hj, inB_lt hj, h1, hs, h2, cond_true, cond_false, tAt_drop hj, ckGo, ckAt, ckBad]
          | false =>
            left; refine ⟨(), fun fuel => ?_, ?_⟩
            · simp only [step51, lt_dec hj, inB_lt hj, h1, hs, h2, cond_true, cond_false]
              rw [wrap64 (by omega) (by omega)]; rfl
            · simp only [tAt_drop hj, ckGo, ckAt, ckBad, h1, h2, cond_false]; rfl
  · cases h
theorem r51 (l : List Term.D) : run Γ51 Λ51 [(0, live51)] F51 (encA [.v (.sl Term)] l) [] =
    bif decide ((l.length : Int) > 65536) then some (.one (.int .i64 1)) else
    bif decide ((l.length : Int) = l.length) && decide ((l.length : Int) ≤ 9223372036854775807) && decide (l.length = l.length) then
      bif ckGo l l 0 then some (.one (.int .i64 0)) else some (.one (.int .i64 1))
    else none := by kernel_rfl
def checkR (l : List Term.D) : Int := bif decide ((l.length : Int) > 65536) then 1 else bif ckGo l l 0 then 0 else 1
def s51 : Sp := .fn [.v (.sl Term)] fun l => (true, .one (.int .i64 (checkR l)))
theorem g51 : GoodS Tryd.prog N51 s51 := by
  refine good (.cons g90 (.cons g91 (.nil _))) H51 rfl (by kernel_rfl) Λ51 [(0, live51)] (oneLoop (p0 := loop1 F51) (by kernel_rfl) loop51) [.v (.sl Term)] (by decide) [] _ fun l r hw h => ?_
  cases h
  refine (r51 l).trans ?_
  rw [len_max hw.1, decide_eq_true (rfl : l.length = l.length)]
  simp only [Bool.and_self, cond_true, checkR]
  cases decide ((l.length : Int) > 65536) <;> cases ckGo l l 0 <;> rfl
def findRBad (l : List Term.D) (t : Term.D) : Bool := bif checkR l != 0 then true else !mayR t l.length
def findR (l : List Term.D) (t : Term.D) : Int × Int := bif findRBad l t then (0, 1) else bif decide (plGo t l 0 < 0) then (0, 4) else (plGo t l 0, 0)
def Γ105 : Orc := orc [(N51, s51), (N90, s90), (N91, s91)]
theorem r105 (l : List Term.D) (t : Term.D) : run Γ105 noL [] F105 (encA [.v (.sl Term), .v Term] (l, t)) [] =
    bif findRBad l t then some (.tup [(false, [.int .i64 0]), (false, [.int .i64 1])]) else
    bif decide (plGo t l 0 < 0) then some (.tup [(false, [.int .i64 0]), (false, [.int .i64 4])]) else some (.tup [(false, [.int .i64 (plGo t l 0)]), (false, [.int .i64 0])]) := by kernel_rfl
def s105 : Sp := .fn [.v (.sl Term), .v Term] fun x => (true, .tup [(false, [.int .i64 (findR x.1 x.2).1]), (false, [.int .i64 (findR x.1 x.2).2])])
theorem g105 : GoodS Tryd.prog N105 s105 := by
  refine good (.cons g51 (.cons g90 (.cons g91 (.nil _)))) H105 rfl (by kernel_rfl) noL [] (noLoops (by kernel_rfl)) [.v (.sl Term), .v Term] (by decide) [] _ fun x r hw h => ?_
  obtain ⟨l, t⟩ := x
  cases h
  refine (r105 l t).trans ?_
  simp only [findR]
  cases findRBad l t <;> cases decide (plGo t l 0 < 0) <;> rfl
def Γ89 : Orc := orc [(N105, s105)]
def o89 (l : List Term.D) (t : Term.D) : Option AV := bif small24 l.length then (bif decide ((l.length + [t].length) * 24 ≤ 140737488355328) then some (.tup [(false, [.int .i64 l.length]), (false, [.sl true Term none (l ++ [t])]), (false, [.int .i64 0])]) else none) else none
def makeR (l : List Term.D) (t : Term.D) : Int × List Term.D × Int :=
  bif (findR l t).2 == 1 then (0, [], (findR l t).2) else bif (findR l t).2 == 0 then ((findR l t).1, l, 0) else bif (l.length : Int) == 65536 then (0, [], 6) else (l.length, l ++ [t], 0)
theorem r89 (l : List Term.D) (t : Term.D) : run Γ89 noL [] F89 (encA [.v (.sl Term), .v Term] (l, t)) [.id, .sl true Term, .id] =
    bif (findR l t).2 == 1 then some (.tup [(false, [.int .i64 0]), (false, [.sl true Term none []]), (false, [.int .i64 (findR l t).2])]) else
    bif (findR l t).2 == 0 then (bif small24 l.length then some (.tup [(false, [.int .i64 (findR l t).1]), (false, [.sl true Term none l]), (false, [.int .i64 0])]) else none) else
    bif (l.length : Int) == 65536 then some (.tup [(false, [.int .i64 0]), (false, [.sl true Term none []]), (false, [.int .i64 6])]) else
    allSame [o89 l t, o89 l t, o89 l t] := by kernel_rfl
theorem checkR_len {l : List Term.D} (h : checkR l = 0) : l.length ≤ 65536 := by
  unfold checkR at h
  cases hd : decide ((l.length : Int) > 65536) with
  | true => rw [hd] at h; simp at h
  | false => simp at hd; omega
theorem findR_cases (l : List Term.D) (t : Term.D) : (findR l t).2 = 1 ∨ (l.length ≤ 65536 ∧ ((findR l t).2 = 0 ∨ (findR l t).2 = 4)) := by
  unfold findR findRBad
  cases h : checkR l != 0 with
  | true => exact .inl rfl
  | false =>
    have h0 : checkR l = 0 := by simpa using h
    have := checkR_len h0
    simp only [cond_false]
    cases mayR t l.length with
    | false => exact .inl rfl
    | true =>
      refine .inr ⟨this, ?_⟩
      cases decide (plGo t l 0 < 0)
      · exact .inl rfl
      · exact .inr rfl
def s89 : Sp := .fn [.v (.sl Term), .v Term] fun x => (true, .tup [(false, [.int .i64 (makeR x.1 x.2).1]), (false, [.sl true Term none (makeR x.1 x.2).2.1]), (false, [.int .i64 (makeR x.1 x.2).2.2])])
theorem g89 : GoodS Tryd.prog N89 s89 := by
  refine good (.cons g105 (.nil _)) H89 rfl (by kernel_rfl) noL [] (noLoops (by kernel_rfl)) [.v (.sl Term), .v Term] (by decide) [.id, .sl true Term, .id] _ fun x r hw h => ?_
  obtain ⟨l, t⟩ := x
  cases h
  refine (r89 l t).trans ?_
  simp only [makeR]
  rcases findR_cases l t with h1 | ⟨hl, h1⟩
  · rw [h1]; rfl
  · have hs := small_of hl
    have hs2 : decide ((l.length + [t].length) * 24 ≤ 140737488355328) = true := decide_eq_true (by simp; omega)
    rcases h1 with h1 | h1 <;> rw [h1]
    · rw [hs]; rfl
    · cases (l.length : Int) == 65536 with
      | true => rfl
      | false =>
        have : o89 l t = some (.tup [(false, [.int .i64 l.length]), (false, [.sl true Term none (l ++ [t])]), (false, [.int .i64 0])]) := by unfold o89; rw [hs, hs2]; rfl
        rw [this]
        exact allSame_rep _ 2
abbrev live26 : List (Nat × Dir) := [(0, .keep), (1, .keep), (4, .keep), (12, .keep), (13, .keep)]
def vs26 (a b : List Term.D) (r : Bool) (n i : Int) : List AV :=
  [.one (.sl false Term none a), .one (.sl false Term none b), .one (.bool r), .one (.int .i64 n), .one (.int .i64 i)]
def eqGo : List Term.D → List Term.D → Bool
  | a :: l, b :: m => bif eqD Term a b then eqGo l m else false
  | _, _ => true
/-- Where that stops. -/
def eqAt : List Term.D → List Term.D → Int → Int
  | a :: l, b :: m, i => bif eqD Term a b then eqAt l m (i + 1) else i
  | _, _, i => i
def Λ26 : Lam AV := fun cur vs K =>
  match cur, vs with
  | 0, [.one (.sl false (.pair (.int .i64) (.pair (.int .i64) (.int .i64))) none a), .one (.sl false (.pair (.int .i64) (.pair (.int .i64) (.int .i64))) none b), .one (.bool false), .one (.int .i64 n), .one (.int .i64 0)] =>
    bif decide (n = a.length) && decide (n ≤ 9223372036854775807) && decide (a.length = b.length) then
      bif eqGo a b then K (.exit 0) (vs26 a b false n n) else K .ret (vs26 a b false n (eqAt a b 0))
    else none
  | _, _ => none
theorem step26 (a b : List Term.D) (r : Bool) (n i : Int) (K : AE → List AV → Option AV) (fuel : Nat) :
    loopN (aexec tb (orc []) Λ26 ⟨26, 0, [(0, live26)]⟩ (loop1 F26).2 0) 26 0 live26 K (fuel + 1) (vs26 a b r n i) =
    bif decide (i < n) then
      bif inB i a.length then
        bif inB i b.length then
          bif !eqD Term (tAt a i) (tAt b i) then K .ret (vs26 a b false n i)
          else loopN (aexec tb (orc []) Λ26 ⟨26, 0, [(0, live26)]⟩ (loop1 F26).2 0) 26 0 live26 K fuel (vs26 a b r n (IntKind.i64.wrap (i + 1)))
        else none
      else none
    else K (.exit 0) (vs26 a b r n i) := by kernel_rfl
theorem loop26 : LoopP tb (orc []) Λ26 ⟨26, 0, [(0, live26)]⟩ (loop1 F26) := by
  intro vs K out h
  have hcur : (loop1 F26).1 = 0 := by kernel_rfl
  rw [hcur] at h ⊢
  unfold Λ26 at h
  split at h
  · rename_i a b n _
    cases hc : (decide (n = a.length) && decide (n ≤ 9223372036854775807) && decide (a.length = b.length)) with
    | false => rw [hc] at h; cases h
    | true =>
      rw [hc] at h
      simp only [cond_true] at h
      simp only [Bool.and_eq_true, decide_eq_true_eq] at hc
      obtain ⟨⟨rfl, hmax⟩, hl⟩ := hc
      refine upLoop (α := Unit) (n := a.length) (F := fun fuel _ i => loopN (aexec tb (orc []) Λ26 ⟨26, 0, [(0, live26)]⟩ (loop1 F26).2 0) 26 0 live26 K fuel (vs26 a b false a.length i))
        (G := fun j _ => bif eqGo (a.drop j) (b.drop j) then K (.exit 0) (vs26 a b false a.length a.length) else K .ret (vs26 a b false a.length (eqAt (a.drop j) (b.drop j) j)))
        (fun fuel _ => ?_) (fun _ j hj => ?_) a.length 0 () out (by omega) h
      · have e : eqGo (a.drop a.length) (b.drop a.length) = true := by simp [eqGo]
        simp only [step26, nlt_dec, cond_false, e, cond_true]
      · have hj' : j < b.length := by omega
        cases h1 : eqD Term (tAt a j) (tAt b j) with
        | false =>
          right; intro fuel
          simp only [step26, lt_dec hj, inB_lt hj, inB_lt hj', h1, cond_true, cond_false, tAt_drop hj, tAt_drop hj', eqGo, eqAt, Bool.not_false]
        | true =>
          left; refine ⟨(), fun fuel => ?_, ?_⟩
          · simp only [step26, lt_dec hj, inB_lt hj, inB_lt hj', h1, cond_true, cond_false, Bool.not_true]
            rw [wrap64 (by omega) (by omega)]; rfl
          · simp only [tAt_drop hj, tAt_drop hj', eqGo, eqAt, h1, cond_true]; rfl
  · cases h
theorem r26 (a b : List Term.D) : run (orc []) Λ26 [(0, live26)] F26 (encA [.v (.sl Term), .v (.sl Term)] (a, b)) [] =
    bif (a.length : Int) != b.length then ob false else
    bif decide ((a.length : Int) = a.length) && decide ((a.length : Int) ≤ 9223372036854775807) && decide (a.length = b.length) then
      bif eqGo a b then ob true else ob false
    else none := by kernel_rfl
theorem eqTD {a b : Term.D} : eqD Term a b = true ↔ a = b := by
  obtain ⟨a1, a2, a3⟩ := a
  obtain ⟨b1, b2, b3⟩ := b
  simp [eqD]
theorem eqGo_iff : ∀ {a b : List Term.D}, a.length = b.length → (eqGo a b = true ↔ a = b)
  | [], [], _ => by simp [eqGo]
  | a :: l, b :: m, h => by
    simp only [eqGo, List.cons.injEq]
    cases hq : eqD Term a b with
    | true => simp only [cond_true, eqGo_iff (show l.length = m.length by simpa using h), eqTD.1 hq, true_and]
    | false =>
      have : ¬ a = b := fun e => by rw [eqTD.2 e] at hq; cases hq
      simp [this]
  | [], _ :: _, h => by simp at h
  | _ :: _, [], h => by simp at h
def sameL (a b : List Term.D) : Bool := decide (a = b)
def s26 : Sp := .fn [.v (.sl Term), .v (.sl Term)] fun x => (true, .one (.bool (sameL x.1 x.2)))
theorem g26 : GoodS Tryd.prog N26 s26 := by
  refine good (.nil _) H26 rfl (by kernel_rfl) Λ26 [(0, live26)] (oneLoop (p0 := loop1 F26) (by kernel_rfl) loop26) [.v (.sl Term), .v (.sl Term)] (by decide) [] _ fun x r hw h => ?_
  obtain ⟨a, b⟩ := x
  cases h
  refine (r26 a b).trans ?_
  show _ = ob (sameL a b)
  unfold sameL
  cases hl : (a.length : Int) != b.length with
  | true =>
    have hne : a ≠ b := fun e => by subst e; simp at hl
    rw [decide_eq_false hne]; rfl
  | false =>
    have hl : a.length = b.length := by simp at hl; omega
    rw [len_max hw.1.1, decide_eq_true hl]
    simp only [Bool.and_self, cond_true, cond_false]
    cases hq : eqGo a b with
    | true => rw [decide_eq_true ((eqGo_iff hl).1 hq)]; rfl
    | false => rw [decide_eq_false (fun e => by rw [(eqGo_iff hl).2 e] at hq; cases hq)]; rfl

theorem bool_iff {a b : Bool} (h : a = true ↔ b = true) : a = b := by
  cases a <;> cases b <;> simp at h <;> rfl
theorem cond_iff {a b c : Bool} : (bif a then b else c) = true ↔ (a = true ∧ b = true) ∨ (a = false ∧ c = true) := by cases a <;> simp
theorem out5 (k : Int) (h1 : ¬ k = 1) (h2 : ¬ k = 2) (h3 : ¬ k = 3) (h4 : ¬ k = 4) (h5 : ¬ k = 5) (h : ¬ k < 1) : k > 5 := by omega
theorem mayR_eq (t : Term.D) (i : Int) : mayR t i = mayB t i := by
  obtain ⟨k, a, b⟩ := t
  have lt : ∀ a b : Int, decide (a < b) = !decide (b ≤ a) := fun a b => by
    by_cases h : a < b
    · rw [decide_eq_true h, decide_eq_false (by omega)]; rfl
    · rw [decide_eq_false h, decide_eq_true (by omega)]; rfl
  by_cases h1 : k = 1
  · subst h1
    simp only [mayR, mayB, mayBad, a90, ge_iff_le, bne]
    cases decide (0 ≤ a) <;> cases decide (a ≤ 1048576) <;> cases (b == 0) <;> rfl
  by_cases h2 : k = 2
  · subst h2
    have ep : partsL (2, a, b) = [a] := rfl
    simp only [mayR, mayB, mayBad, b90, ep, List.any, badP, ge_iff_le, lt, bne]
    cases decide (0 ≤ a) <;> cases decide (i ≤ a) <;> cases (b == 0) <;> rfl
  by_cases h3 : k = 3
  · subst h3
    have ep : partsL (3, a, b) = [a] := rfl
    simp only [mayR, mayB, mayBad, b90, ep, List.any, badP, ge_iff_le, lt, bne]
    cases decide (0 ≤ a) <;> cases decide (i ≤ a) <;> cases (b == 0) <;> rfl
  by_cases h4 : k = 4
  · subst h4
    have ep : partsL (4, a, b) = [a] := rfl
    simp only [mayR, mayB, mayBad, b90, ep, List.any, badP, ge_iff_le, lt, bne]
    cases decide (0 ≤ a) <;> cases decide (i ≤ a) <;> cases (b == 0) <;> rfl
  by_cases h5 : k = 5
  · subst h5
    have ep : partsL (5, a, b) = [a, b] := rfl
    simp only [mayR, mayB, mayBad, c90, ep, List.any, badP, ge_iff_le, lt, bne]
    cases decide (0 ≤ a) <;> cases decide (i ≤ a) <;> cases decide (0 ≤ b) <;> cases decide (i ≤ b) <;> rfl
  · have e1 : (k == 1) = false := by simpa using h1
    have e2 : (k == 2) = false := by simpa using h2
    have e3 : (k == 3) = false := by simpa using h3
    have e4 : (k == 4) = false := by simpa using h4
    have e5 : (k == 5) = false := by simpa using h5
    have hk : (bif decide (k < 1) then true else decide (k > 5)) = true := by
      rw [cond_iff]
      by_cases h : k < 1
      · exact .inl ⟨decide_eq_true h, rfl⟩
      · exact .inr ⟨decide_eq_false h, decide_eq_true (out5 k h1 h2 h3 h4 h5 h)⟩
    simp only [mayR, mayB, mayBad, e1, e2, e3, e4, e5, hk, cond_false, cond_true]
theorem eqT_comm (a b : Term.D) : eqD Term a b = eqD Term b a := bool_iff (by rw [eqT, eqT]; exact eq_comm)
/-- Where a term is, by definition. -/
theorem plGo_mem {t : Term.D} : ∀ {l : List Term.D} {i : Int}, 0 ≤ i → (0 ≤ plGo t l i ↔ t ∈ l) := by
  intro l
  induction l with
  | nil => intro i _; simp [plGo]
  | cons x xs ih =>
    intro i hi
    simp only [plGo]
    cases h : eqD Term x t with
    | true => simp [eqT.1 h, hi]
    | false =>
      have := eqT_false.1 h
      simp only [cond_false, ih (Int.le_add_one hi), List.mem_cons]
      exact ⟨fun h => .inr h, fun h => h.resolve_left (fun e => this e.symm)⟩
theorem plGo_ents {t : Term.D} : ∀ {l : List Term.D} {i : Int}, t ∈ l → mgetD t (entsFrom l i) = plGo t l i := by
  intro l
  induction l with
  | nil => intro i h; cases h
  | cons x xs ih =>
    intro i h
    simp only [entsFrom, plGo, mgetD, mget]
    rw [eqT_comm]
    cases hq : eqD Term x t with
    | true => rfl
    | false =>
      have := eqT_false.1 hq
      have := ih (i := i + 1) ((List.mem_cons.1 h).resolve_left (fun e => this e.symm))
      unfold mgetD at this
      simpa using this
theorem ckGo_iff (l : List Term.D) : ∀ (r : List Term.D) (p : List Term.D), l = p ++ r → (ckGo l r p.length = true ↔ ∀ (j : Nat) (t : Term.D), r[j]? = some t → mayB t ((p.length : Int) + j) = true ∧ t ∉ p ++ r.take j) := by
  intro r
  induction r with
  | nil => intro p _; simp [ckGo]
  | cons a r ih =>
    intro p hl
    simp only [ckGo]
    have e1 : (p.length : Int) + 1 = ((p ++ [a]).length : Nat) := by simp
    have ht : l.take ((p.length : Int).toNat) = p := by rw [hl]; simp
    have hb : ckBad l a p.length = false ↔ mayB a p.length = true ∧ a ∉ p := by
      unfold ckBad
      rw [ht, mayR_eq]
      cases mayB a p.length with
      | false => simp
      | true =>
        have := plGo_mem (t := a) (l := p) (i := 0) (by omega)
        simp [← this]
    cases hc : ckBad l a p.length with
    | true =>
      simp only [cond_true]
      refine ⟨fun h => (by cases h), fun h => ?_⟩
      have := h 0 a rfl
      have : ckBad l a p.length = false := hb.2 ⟨by simpa using this.1, by simpa using this.2⟩
      rw [this] at hc; cases hc
    | false =>
      simp only [cond_false]
      obtain ⟨g1, g2⟩ := hb.1 hc
      rw [e1, ih (p ++ [a]) (by simp [hl])]
      refine ⟨fun h j t hj => ?_, fun h j t hj => ?_⟩
      · cases j with
        | zero =>
          simp only [List.getElem?_cons_zero, Option.some.injEq] at hj
          subst hj
          simpa [g1] using g2
        | succ j =>
          have := h j t (by simpa using hj)
          refine ⟨?_, by simpa using this.2⟩
          have h3 := this.1
          rw [← e1] at h3
          rw [← h3]; congr 1; omega
      · have := h (j + 1) t (by simpa using hj)
        refine ⟨?_, by simpa using this.2⟩
        have h3 := this.1
        rw [← e1, ← h3]; congr 1; omega
theorem checkR_eq (l : List Term.D) : checkR l = checkL l := by
  have key : checkR l = 0 ↔ GoodL l := by
    unfold checkR
    cases h : decide ((l.length : Int) > 65536) with
    | true =>
      refine ⟨fun h => (by simp at h), fun h' => ?_⟩
      have := h'.1
      simp at h; omega
    | false =>
      simp only [cond_false]
      have := ckGo_iff l l [] rfl
      simp only [List.length_nil, List.nil_append] at this
      have e : (((0 : Nat) : Int)) = 0 := rfl
      rw [e] at this
      cases hc : ckGo l l 0 with
      | true =>
        rw [hc] at this
        refine ⟨fun _ => ⟨by simp at h; omega, fun j t hj => ?_⟩, fun _ => rfl⟩
        simpa using this.1 rfl j t hj
      | false =>
        rw [hc] at this
        refine ⟨fun h => (by simp at h), fun h' => ?_⟩
        have := this.2 (fun j t hj => by simpa using h'.2 j t hj)
        cases this
  have h1 : checkR l = 0 ∨ checkR l = 1 := by
    unfold checkR
    cases decide ((l.length : Int) > 65536) <;> cases ckGo l l 0 <;> simp
  rcases checkL_cases l with ⟨h2, _⟩ | ⟨h2, _⟩
  · rw [h2]; exact key.2 (checkL_iff.1 h2)
  · rw [h2]
    refine h1.resolve_left fun h => ?_
    have := checkL_iff.2 (key.1 h)
    omega
theorem findR_eq (l : List Term.D) (t : Term.D) : findR l t = findL l t := by
  have hb : findRBad l t = findBad l t := by
    unfold findRBad findBad
    rw [checkR_eq, mayR_eq]
    rcases checkL_cases l with ⟨h1, h2⟩ | ⟨h1, h2⟩ <;> rw [h1, h2] <;> rfl
  unfold findR findL
  rw [hb]
  cases hq : findBad l t with
  | true => rfl
  | false =>
    have hg : GoodL l := by
      unfold findBad at hq
      cases h : (ixL l).1 with
      | true => exact ixL_iff.1 h
      | false => rw [h] at hq; cases hq
    simp only [cond_false, ixEnts_eq hg]
    have h1 := plGo_mem (t := t) (l := l) (i := 0) (Int.le_refl 0)
    have h2 := mhas_ents (t := t) (l := l) (i := 0)
    by_cases hm : t ∈ l
    · have e1 : decide (plGo t l 0 < 0) = false := decide_eq_false (Int.not_lt.2 (h1.2 hm))
      rw [e1, h2.2 hm, plGo_ents hm]; rfl
    · have e1 : decide (plGo t l 0 < 0) = true := decide_eq_true (Int.not_le.1 fun h => hm (h1.1 h))
      have e2 : mhas t (entsFrom l 0) = false := by
        cases h : mhas t (entsFrom l 0) with
        | false => rfl
        | true => exact absurd (h2.1 h) hm
      rw [e1, e2]; rfl
theorem makeR_eq (l : List Term.D) (t : Term.D) : makeR l t = makeL l t := by
  unfold makeR makeL
  rw [← findR_eq]
  rcases findR_cases l t with h | ⟨_, h | h⟩ <;> rw [h] <;> rfl
def xorU (a b : Int) : Int := IntKind.u64.wrap (BitVec.ofInt 64 a ^^^ BitVec.ofInt 64 b).toNat
def xorB (a b : Block.D) : Block.D := (xorU a.1 b.1, xorU a.2 b.2)
abbrev live86 : List (Nat × Dir) := [(2, .keep), (4, .keep), (7, .keep), (8, .keep)]
def Λ86 : Lam AV := fun cur vs K =>
  match cur, vs with
  | 0, [.own [.int .u64 a, .int .u64 b], .own [.int .u64 e, .int .u64 f], .agg [.int .u64 c, .int .u64 d], .one (.int .i64 0)] =>
    K (.exit 0) [.own [.int .u64 (xorU a c), .int .u64 (xorU b d)], .own [.int .u64 e, .int .u64 f], .agg [.int .u64 c, .int .u64 d], .one (.int .i64 2)]
  | _, _ => none
theorem loop86 : LoopP tb (orc []) Λ86 ⟨20, 0, [(0, live86)]⟩ (loop1 F86) := by
  intro vs K out h
  have hcur : (loop1 F86).1 = 0 := by kernel_rfl
  rw [hcur] at h ⊢
  unfold Λ86 at h
  split at h
  · rename_i a b e f c d _
    refine ⟨3, Eq.trans ?_ h⟩
    kernel_rfl
  · cases h
def s86 : Sp := .fn [.v Block, .v Block] fun x => (true, encV Block (xorB x.1 x.2))
theorem r86 (x y : Block.D) : run (orc []) Λ86 [(0, live86)] F86 (encA [.v Block, .v Block] (x, y)) [] = some (encV Block (xorB x y)) := by kernel_rfl
theorem g86 : GoodS Tryd.prog N86 s86 := by
  refine good (.nil _) H86 rfl (by kernel_rfl) Λ86 [(0, live86)] (oneLoop (p0 := loop1 F86) (by kernel_rfl) loop86) [.v Block, .v Block] (by decide) [] _ fun x r hw h => ?_
  cases h
  exact r86 x.1 x.2
def rotN (n : Int) : Int := IntKind.u64.wrap (BitVec.ofInt 64 (IntKind.u64.wrap n) &&& BitVec.ofInt 64 63).toNat
def rotU (a n : Int) : Int := IntKind.u64.wrap (BitVec.ofInt 64 (IntKind.u64.wrap (a * 2 ^ min (rotN n).toNat 64)) ||| BitVec.ofInt 64 (a.fdiv (2 ^ min (IntKind.u64.wrap (64 - rotN n)).toNat 64))).toNat
theorem r106 (a n : Int) : run (orc []) noL [] F106 (encA [.v U, .v I] (a, n)) [] = bif decide (0 ≤ rotN n) then (bif decide (0 ≤ IntKind.u64.wrap (64 - rotN n)) then some (.one (.int .u64 (rotU a n))) else none) else none := by kernel_rfl
def s106 : Sp := .fn [.v U, .v I] fun x => (true, .one (.int .u64 (rotU x.1 x.2)))
theorem g106 : GoodS Tryd.prog N106 s106 := by
  refine good (.nil _) H106 rfl (by kernel_rfl) noL [] (noLoops (by kernel_rfl)) [.v U, .v I] (by decide) [] _ fun x r hw h => ?_
  cases h
  refine (r106 x.1 x.2).trans ?_
  rw [decide_eq_true (show 0 ≤ rotN x.2 from wrapU_nonneg _), decide_eq_true (wrapU_nonneg (64 - rotN x.2))]
  rfl
def mixStep (k : Int) (x : Block.D) : Block.D :=
  let a := rotU (IntKind.u64.wrap (IntKind.u64.wrap (x.1 + x.2) + IntKind.u64.wrap (k * 11400714819323198485))) 13
  let b := rotU (xorU x.2 a) 29
  (xorU a b, b)
def mixGo : Nat → Int → Block.D → Block.D
  | 0, _, x => x
  | n + 1, k, x => mixGo n (k + 1) (mixStep k x)
def mixB (x : Block.D) : Block.D := mixGo 8 0 x
abbrev live92 : List (Nat × Dir) := [(2, .keep), (3, .keep), (4, .keep), (10, .keep)]
def Γ92 : Orc := orc [(N106, s106)]
def Λ92 : Lam AV := fun cur vs K =>
  match cur, vs with
  | 0, [.own [.int .u64 e, .int .u64 f], .one (.int .u64 x), .one (.int .u64 y), .one (.int .u64 0)] =>
    K (.exit 0) [.own [.int .u64 e, .int .u64 f], .one (.int .u64 (mixB (x, y)).1), .one (.int .u64 (mixB (x, y)).2), .one (.int .u64 8)]
  | _, _ => none
theorem step92 (e f x y k : Int) (K : AE → List AV → Option AV) (fuel : Nat) :
    loopN (aexec tb Γ92 Λ92 ⟨31, 0, [(0, live92)]⟩ (loop1 F92).2 0) 31 0 live92 K (fuel + 1) [.own [.int .u64 e, .int .u64 f], .one (.int .u64 x), .one (.int .u64 y), .one (.int .u64 k)] =
    bif decide (k < 8) then loopN (aexec tb Γ92 Λ92 ⟨31, 0, [(0, live92)]⟩ (loop1 F92).2 0) 31 0 live92 K fuel
        [.own [.int .u64 e, .int .u64 f], .one (.int .u64 (mixStep k (x, y)).1), .one (.int .u64 (mixStep k (x, y)).2), .one (.int .u64 (IntKind.u64.wrap (k + 1)))]
    else K (.exit 0) [.own [.int .u64 e, .int .u64 f], .one (.int .u64 x), .one (.int .u64 y), .one (.int .u64 k)] := by kernel_rfl
theorem loop92 : LoopP tb Γ92 Λ92 ⟨31, 0, [(0, live92)]⟩ (loop1 F92) := by
  intro vs K out h
  have hcur : (loop1 F92).1 = 0 := by kernel_rfl
  rw [hcur] at h ⊢
  unfold Λ92 at h
  split at h
  · rename_i e f x y _
    have key : ∀ (n : Nat) (k : Int) (x y : Int), k + n = 8 → 0 ≤ k → K (.exit 0) [.own [.int .u64 e, .int .u64 f], .one (.int .u64 (mixGo n k (x, y)).1), .one (.int .u64 (mixGo n k (x, y)).2), .one (.int .u64 8)] = some out →
        ∃ fuel, loopN (aexec tb Γ92 Λ92 ⟨31, 0, [(0, live92)]⟩ (loop1 F92).2 0) 31 0 live92 K fuel [.own [.int .u64 e, .int .u64 f], .one (.int .u64 x), .one (.int .u64 y), .one (.int .u64 k)] = some out := by
      intro n
      induction n with
      | zero =>
        intro k x y hk _ h
        obtain rfl : k = 8 := by omega
        refine ⟨1, ?_⟩
        rw [step92]
        exact h
      | succ n ih =>
        intro k x y hk h0 h
        obtain ⟨fuel, hf⟩ := ih (k + 1) (mixStep k (x, y)).1 (mixStep k (x, y)).2 (by omega) (by omega) h
        refine ⟨fuel + 1, ?_⟩
        rw [step92, decide_eq_true (show k < 8 by omega), wrapU (by omega) (by omega)]
        exact hf
    exact key 8 0 x y rfl (Int.le_refl 0) h
  · cases h
def s92 : Sp := .fn [.v Block] fun x => (true, encV Block (mixB x))
theorem r92 (x : Block.D) : run Γ92 Λ92 [(0, live92)] F92 (encA [.v Block] x) [] = some (encV Block (mixB x)) := by kernel_rfl
theorem g92 : GoodS Tryd.prog N92 s92 := by
  refine good (.cons g106 (.nil _)) H92 rfl (by kernel_rfl) Λ92 [(0, live92)] (oneLoop (p0 := loop1 F92) (by kernel_rfl) loop92) [.v Block] (by decide) [] _ fun x r hw h => ?_
  cases h
  exact r92 x
def partB (b : Block.D) (i : Int) : Block.D := xorB (mixB (xorB b (IntKind.u64.wrap (IntKind.i64.wrap (i + 1)), 0))) b
def Γ53 : Orc := orc [(N86, s86), (N92, s92)]
theorem r53 (b : Block.D) (i : Int) : run Γ53 noL [] F53 (encA [.v Block, .v I] (b, i)) [] =
    bif bif decide (i < 0) then true else decide (i > 4) then some (.tup [(true, enc Block true (0, 0)), (false, [.int .i64 1])]) else
    some (.tup [(true, enc Block true (partB b i)), (false, [.int .i64 0])]) := by kernel_rfl
def partR (b : Block.D) (i : Int) : Block.D × Int := bif bif decide (i < 0) then true else decide (i > 4) then ((0, 0), 1) else (partB b i, 0)
def s53 : Sp := .fn [.v Block, .v I] fun x => (true, .tup [(true, enc Block true (partR x.1 x.2).1), (false, [.int .i64 (partR x.1 x.2).2])])
theorem g53 : GoodS Tryd.prog N53 s53 := by
  refine good (.cons g86 (.cons g92 (.nil _))) H53 rfl (by kernel_rfl) noL [] (noLoops (by kernel_rfl)) [.v Block, .v I] (by decide) [] _ fun x r hw h => ?_
  cases h
  refine (r53 x.1 x.2).trans ?_
  unfold partR
  cases bif decide (x.2 < 0) then true else decide (x.2 > 4) <;> rfl
def zeroV : Value.D := (false, false, (0, 0), ((0, 0), (0, 0)), 0)
def symV (i : Int) : Value.D := (true, false, (0, 0), ((0, 0), (0, 0)), i)
def sealV (s : Sealed.D) : Value.D := (false, true, (0, 0), s, 0)
def octV (b : Block.D) : Value.D := (false, false, b, ((0, 0), (0, 0)), 0)
def valEq (a b : Value.D) : Bool :=
  (a.1 == b.1) && ((a.2.1 == b.2.1) && ((a.2.2.1.1 == b.2.2.1.1) && ((a.2.2.1.2 == b.2.2.1.2) && ((a.2.2.2.1.1.1 == b.2.2.2.1.1.1) && ((a.2.2.2.1.1.2 == b.2.2.2.1.1.2) &&
    ((a.2.2.2.1.2.1 == b.2.2.2.1.2.1) && ((a.2.2.2.1.2.2 == b.2.2.2.1.2.2) && (a.2.2.2.2 == b.2.2.2.2))))))))
/-- A value, terms, and an error, as they are handed back. -/
def vle (x : Value.D × List Term.D × Int) : AV := .tup [(true, enc Value true x.1), (false, [.sl true Term none x.2.1]), (false, [.int .i64 x.2.2])]
abbrev wVle : List WK := [.id, .sl true Term, .id]
def Γ45 : Orc := orc [(N84, s84)]
def madeV (l : List Term.D) (t : Term.D) : Value.D × List Term.D × Int := bif (makeL l t).2.2 != 0 then (zeroV, [], (makeL l t).2.2) else (symV (makeL l t).1, (makeL l t).2.1, 0)
theorem r45 (l : List Term.D) (t : Term.D) : run Γ45 noL [] F45 (encA [.v (.sl Term), .v Term] (l, t)) wVle =
    bif (makeL l t).2.2 != 0 then some (vle (zeroV, [], (makeL l t).2.2)) else some (vle (symV (makeL l t).1, (makeL l t).2.1, 0)) := by kernel_rfl
def s45 : Sp := .fn [.v (.sl Term), .v Term] fun x => (true, vle (madeV x.1 x.2))
theorem g45 : GoodS Tryd.prog N45 s45 := by
  refine good (.cons g84 (.nil _)) H45 rfl (by kernel_rfl) noL [] (noLoops (by kernel_rfl)) [.v (.sl Term), .v Term] (by decide) wVle _ fun x r hw h => ?_
  cases h
  refine (r45 x.1 x.2).trans ?_
  simp only [madeV]
  cases (makeL x.1 x.2).2.2 != 0 <;> rfl
def Γ19 : Orc := orc [(N49, s49)]
def isSym (l : List Term.D) (v : Value.D) : Bool := bif bif v.1 then decide (v.2.2.2.2 ≥ 0) else false then decide (v.2.2.2.2 < (l.length : Int)) else false
def plainV (l : List Term.D) (v : Value.D) : Value.D := bif isSym l v then symV v.2.2.2.2 else bif v.2.1 then sealV v.2.2.2.1 else octV v.2.2.1
def checkV (l : List Term.D) (v : Value.D) : Int := bif bif checkL l == 0 then !valEq v (plainV l v) else false then 1 else checkL l
def fin19 (l : List Term.D) (v p : Value.D) : Option AV := bif bif checkL l == 0 then !valEq v p else false then some (.one (.int .i64 1)) else some (.one (.int .i64 (checkL l)))
theorem r19 (l : List Term.D) (v : Value.D) : run Γ19 noL [] F19 (encA [.v (.sl Term), .v Value] (l, v)) [] =
    bif isSym l v then fin19 l v (symV v.2.2.2.2) else bif v.2.1 then fin19 l v (sealV v.2.2.2.1) else fin19 l v (octV v.2.2.1) := by kernel_rfl
def s19 : Sp := .fn [.v (.sl Term), .v Value] fun x => (true, .one (.int .i64 (checkV x.1 x.2)))
theorem g19 : GoodS Tryd.prog N19 s19 := by
  refine good (.cons g49 (.nil _)) H19 rfl (by kernel_rfl) noL [] (noLoops (by kernel_rfl)) [.v (.sl Term), .v Value] (by decide) [] _ fun x r hw h => ?_
  obtain ⟨l, v⟩ := x
  cases h
  refine (r19 l v).trans ?_
  simp only [checkV, plainV, fin19]
  cases isSym l v <;> cases v.2.1 <;> simp only [cond_true, cond_false] <;> (cases bif checkL l == 0 then !valEq v _ else false) <;> rfl
abbrev live44 : List (Nat × Dir) := [(0, .keep), (1, .keep), (2, .keep), (6, .keep), (11, .keep), (12, .keep), (13, .keep)]
def Γ44 : Orc := orc [(N19, s19)]
def vs44 (l : List Term.D) (sh : List Bool) (all al2 : List Value.D) (r n i : Int) : List AV :=
  [.one (.sl false Term none l), .one (.sl false .bool none sh), .one (.sl false Value none all), .one (.int .i64 r), .one (.sl false Value none al2), .one (.int .i64 n), .one (.int .i64 i)]
def ownV (l : List Term.D) (v : Value.D) : Bool := bif v.1 then (tAt l v.2.2.2.2).1 == 5 else v.2.1
def isGo (l : List Term.D) (sh : List Bool) (v0 : Value.D) : List Value.D → Nat → Int
  | [], _ => 0
  | v :: r, i => bif checkV l v != 0 then checkV l v else bif !(ownV l v == sh.getD i false) then 1 else bif !(v.1 == v0.1) then 1 else isGo l sh v0 r (i + 1)
/-- Where that stops. -/
def isAt (l : List Term.D) (sh : List Bool) (v0 : Value.D) : List Value.D → Nat → Nat
  | [], i => i
  | v :: r, i => bif checkV l v != 0 then i else bif !(ownV l v == sh.getD i false) then i else bif !(v.1 == v0.1) then i else isAt l sh v0 r (i + 1)
def vAt (all : List Value.D) (i : Int) : Value.D := all.getD i.toNat zeroV
def Λ44 : Lam AV := fun cur vs K =>
  match cur, vs with
  | 0, [.one (.sl false (.pair (.int .i64) (.pair (.int .i64) (.int .i64))) none l), .one (.sl false .bool none sh), .one (.sl false (.pair .bool (.pair .bool (.pair (.pair (.int .u64) (.int .u64)) (.pair (.pair (.pair (.int .u64) (.int .u64)) (.pair (.int .u64) (.int .u64))) (.int .i64))))) none all),
      .one (.int .i64 0), .one (.sl false (.pair .bool (.pair .bool (.pair (.pair (.int .u64) (.int .u64)) (.pair (.pair (.pair (.int .u64) (.int .u64)) (.pair (.int .u64) (.int .u64))) (.int .i64))))) none al2), .one (.int .i64 n), .one (.int .i64 0)] =>
    bif decide (n = al2.length) && decide (n ≤ 9223372036854775807) && decide (al2.length ≤ sh.length) && decide (al2.length ≤ all.length) then
      bif isGo l sh (vAt all 0) al2 0 == 0 then K (.exit 0) (vs44 l sh all al2 0 n n) else K .ret (vs44 l sh all al2 (isGo l sh (vAt all 0) al2 0) n (isAt l sh (vAt all 0) al2 0))
    else none
  | _, _ => none
theorem step44 (l : List Term.D) (sh : List Bool) (all al2 : List Value.D) (r n i : Int) (K : AE → List AV → Option AV) (fuel : Nat) :
    loopN (aexec tb Γ44 Λ44 ⟨51, 0, [(0, live44)]⟩ (loop1 F44).2 0) 51 0 live44 K (fuel + 1) (vs44 l sh all al2 r n i) =
    bif decide (i < n) then
      bif inB i al2.length then
        bif checkV l (vAt al2 i) != 0 then K .ret (vs44 l sh all al2 (checkV l (vAt al2 i)) n i)
        else bif (vAt al2 i).1 then
          bif inB (vAt al2 i).2.2.2.2 l.length then
            bif inB i sh.length then
              bif !((tAt l (vAt al2 i).2.2.2.2).1 == 5) == sh.getD i.toNat false then K .ret (vs44 l sh all al2 1 n i)
              else bif inB 0 all.length then
                bif !((vAt al2 i).1 == (vAt all 0).1) then K .ret (vs44 l sh all al2 1 n i)
                else loopN (aexec tb Γ44 Λ44 ⟨51, 0, [(0, live44)]⟩ (loop1 F44).2 0) 51 0 live44 K fuel (vs44 l sh all al2 r n (IntKind.i64.wrap (i + 1)))
              else none
            else none
          else none
        else
          bif inB i sh.length then
            bif !(vAt al2 i).2.1 == sh.getD i.toNat false then K .ret (vs44 l sh all al2 1 n i)
            else bif inB 0 all.length then
              bif !((vAt al2 i).1 == (vAt all 0).1) then K .ret (vs44 l sh all al2 1 n i)
              else loopN (aexec tb Γ44 Λ44 ⟨51, 0, [(0, live44)]⟩ (loop1 F44).2 0) 51 0 live44 K fuel (vs44 l sh all al2 r n (IntKind.i64.wrap (i + 1)))
            else none
          else none
      else none
    else K (.exit 0) (vs44 l sh all al2 r n i) := by kernel_rfl
theorem valEq_iff {a b : Value.D} : valEq a b = true ↔ a = b := by
  obtain ⟨a1, a2, ⟨a3, a4⟩, ⟨⟨a5, a6⟩, a7, a8⟩, a9⟩ := a
  obtain ⟨b1, b2, ⟨b3, b4⟩, ⟨⟨b5, b6⟩, b7, b8⟩, b9⟩ := b
  simp [valEq, and_assoc]
theorem checkV_zero {l : List Term.D} {v : Value.D} : checkV l v = 0 ↔ checkL l = 0 ∧ v = plainV l v := by
  unfold checkV
  rcases checkL_cases l with ⟨h, _⟩ | ⟨h, _⟩
  · rw [h]
    cases hq : valEq v (plainV l v) with
    | true => exact ⟨fun _ => ⟨rfl, valEq_iff.1 hq⟩, fun _ => rfl⟩
    | false =>
      have : ¬ v = plainV l v := fun e => by rw [valEq_iff.2 e] at hq; cases hq
      simp [this]
  · rw [h]; simp
theorem checkV_one (l : List Term.D) (v : Value.D) : checkV l v = 0 ∨ checkV l v = 1 := by
  unfold checkV
  rcases checkL_cases l with ⟨h, _⟩ | ⟨h, _⟩
  · rw [h]
    cases hq : valEq v (plainV l v) with
    | true => exact .inl rfl
    | false => exact .inr rfl
  · rw [h]; exact .inr rfl
theorem sym_of {l : List Term.D} {v : Value.D} (h : checkV l v = 0) (hs : v.1 = true) : 0 ≤ v.2.2.2.2 ∧ v.2.2.2.2 < l.length := by
  have h2 := (checkV_zero.1 h).2
  cases hi : isSym l v with
  | true =>
    unfold isSym at hi
    rw [hs] at hi
    simp only [cond_true] at hi
    cases h0 : decide (v.2.2.2.2 ≥ 0) with
    | false => rw [h0] at hi; cases hi
    | true => rw [h0] at hi; simp at h0 hi; exact ⟨h0, hi⟩
  | false =>
    unfold plainV at h2
    rw [hi] at h2
    simp only [cond_false] at h2
    cases hb : v.2.1 with
    | true => rw [hb] at h2; rw [h2] at hs; cases hs
    | false => rw [hb] at h2; rw [h2] at hs; cases hs
theorem vAt_drop {all : List Value.D} {j : Nat} (h : j < all.length) : all.drop j = vAt all j :: all.drop (j + 1) := by
  rw [List.drop_eq_getElem_cons h]
  simp [vAt, h]
theorem loop44 : LoopP tb Γ44 Λ44 ⟨51, 0, [(0, live44)]⟩ (loop1 F44) := by
  intro vs K out h
  have hcur : (loop1 F44).1 = 0 := by kernel_rfl
  rw [hcur] at h ⊢
  unfold Λ44 at h
  split at h
  · rename_i l sh all al2 n _
    cases hc : (decide (n = al2.length) && decide (n ≤ 9223372036854775807) && decide (al2.length ≤ sh.length) && decide (al2.length ≤ all.length)) with
    | false => rw [hc] at h; cases h
    | true =>
      rw [hc] at h
      simp only [cond_true] at h
      simp only [Bool.and_eq_true, decide_eq_true_eq] at hc
      obtain ⟨⟨⟨hn, hmax⟩, hsh⟩, hal⟩ := hc
      subst hn
      have key : ∀ (m j : Nat), j + m = al2.length → (bif isGo l sh (vAt all 0) (al2.drop j) j == 0 then K (.exit 0) (vs44 l sh all al2 0 al2.length al2.length)
            else K .ret (vs44 l sh all al2 (isGo l sh (vAt all 0) (al2.drop j) j) al2.length (isAt l sh (vAt all 0) (al2.drop j) j))) = some out →
          ∃ fuel, loopN (aexec tb Γ44 Λ44 ⟨51, 0, [(0, live44)]⟩ (loop1 F44).2 0) 51 0 live44 K fuel (vs44 l sh all al2 0 al2.length j) = some out := by
        intro m
        induction m with
        | zero =>
          intro j hj h
          refine ⟨1, ?_⟩
          rw [step44]
          have hd : decide ((j : Int) < (al2.length : Int)) = false := by simp; omega
          rw [List.drop_of_length_le (by omega)] at h
          rw [hd, show (j : Int) = al2.length by omega]
          exact h
        | succ m ih =>
          intro j hj h
          have hlt : j < al2.length := by omega
          have hd : decide ((j : Int) < (al2.length : Int)) = true := by simp; omega
          have hb : inB (j : Int) al2.length = true := by simp [inB]; omega
          have hb2 : inB (j : Int) sh.length = true := by simp [inB]; omega
          have hb0 : inB (0 : Int) all.length = true := by simp [inB]; omega
          rw [vAt_drop hlt] at h
          simp only [isGo, isAt] at h
          cases hx : checkV l (vAt al2 j) != 0 with
          | true =>
            refine ⟨1, ?_⟩
            rw [step44, hd, hb]
            simp only [cond_true, hx]
            have hz : (checkV l (vAt al2 j) == 0) = false := by simpa using hx
            simp only [hx, cond_true, hz, cond_false] at h
            exact h
          | false =>
            simp only [hx, cond_false] at h
            have hz : checkV l (vAt al2 j) = 0 := by simpa using hx
            have fin : ∀ own, ownV l (vAt al2 j) = own → ∃ fuel, (bif !own == sh.getD (j : Int).toNat false then K .ret (vs44 l sh all al2 1 al2.length j)
                else bif inB 0 all.length then
                  bif !((vAt al2 j).1 == (vAt all 0).1) then K .ret (vs44 l sh all al2 1 al2.length j)
                  else loopN (aexec tb Γ44 Λ44 ⟨51, 0, [(0, live44)]⟩ (loop1 F44).2 0) 51 0 live44 K fuel (vs44 l sh all al2 0 al2.length (IntKind.i64.wrap (j + 1)))
                else none) = some out := by
              intro own ho
              rw [ho] at h
              simp only [Int.toNat_natCast, hb0, cond_true]
              cases h1 : !own == sh.getD j false with
              | true =>
                refine ⟨0, ?_⟩
                simp only [h1, cond_true] at h ⊢
                exact h
              | false =>
                simp only [h1, cond_false] at h ⊢
                cases h2 : !((vAt al2 j).1 == (vAt all 0).1) with
                | true =>
                  refine ⟨0, ?_⟩
                  simp only [h2, cond_true] at h ⊢
                  exact h
                | false =>
                  simp only [h2, cond_false] at h ⊢
                  obtain ⟨fuel, hf⟩ := ih (j + 1) (by omega) h
                  refine ⟨fuel, ?_⟩
                  rw [wrap64 (by omega) (by omega)]
                  exact hf
            cases hv : (vAt al2 j).1 with
            | true =>
              obtain ⟨fuel, hf⟩ := fin _ (by unfold ownV; rw [hv])
              refine ⟨fuel + 1, ?_⟩
              obtain ⟨s1, s2⟩ := sym_of hz hv
              have hbt : inB (vAt al2 j).2.2.2.2 l.length = true := by simp only [inB, Bool.and_eq_true, decide_eq_true_eq]; exact ⟨s1, s2⟩
              rw [step44, hd, hb]
              simp only [cond_true, hx, cond_false, hv, hbt, hb2] at hf ⊢
              exact hf
            | false =>
              obtain ⟨fuel, hf⟩ := fin _ (by unfold ownV; rw [hv])
              refine ⟨fuel + 1, ?_⟩
              rw [step44, hd, hb]
              simp only [cond_true, hx, cond_false, hv, hb2] at hf ⊢
              exact hf
      exact key al2.length 0 (by omega) h
  · cases h
def isV (l : List Term.D) (sh : List Bool) (all : List Value.D) : Int := isGo l sh (vAt all 0) all 0
theorem r44 (l : List Term.D) (sh : List Bool) (all : List Value.D) : run Γ44 Λ44 [(0, live44)] F44 (encA [.v (.sl Term), .v (.sl .bool), .v (.sl Value)] (l, sh, all)) [] =
    bif decide ((all.length : Int) = all.length) && decide ((all.length : Int) ≤ 9223372036854775807) && decide (all.length ≤ sh.length) && decide (all.length ≤ all.length) then
      bif isV l sh all == 0 then some (.one (.int .i64 0)) else some (.one (.int .i64 (isV l sh all)))
    else none := by kernel_rfl
def s44 : Sp := .fn [.v (.sl Term), .v (.sl .bool), .v (.sl Value)] fun x => (decide (x.2.2.length ≤ x.2.1.length), .one (.int .i64 (isV x.1 x.2.1 x.2.2)))
theorem g44 : GoodS Tryd.prog N44 s44 := by
  refine good (.cons g19 (.nil _)) H44 rfl (by kernel_rfl) Λ44 [(0, live44)] (oneLoop (p0 := loop1 F44) (by kernel_rfl) loop44) [.v (.sl Term), .v (.sl .bool), .v (.sl Value)] (by decide) [] _ fun x r hw h => ?_
  obtain ⟨l, sh, all⟩ := x
  simp only [Prod.mk.injEq] at h
  obtain ⟨h1, rfl⟩ := h
  refine (r44 l sh all).trans ?_
  have hmax : (all.length : Int) ≤ 9223372036854775807 := by have : all.length ≤ 9223372036854775807 := hw.2.2.1; omega
  simp only [decide_eq_true hmax, decide_true, Bool.and_self, cond_true, h1, Nat.le_refl]
  cases hq : isV l sh all == 0 with
  | true => rw [eq_of_beq hq]; rfl
  | false => rfl
theorem checkL_small {l : List Term.D} (h : checkL l = 0) : l.length ≤ 65536 := by
  rcases checkL_cases l with ⟨_, h1⟩ | ⟨h1, _⟩
  · exact ixL_len h1
  · rw [h1] at h; cases h
def Γ22 : Orc := orc [(N44, s44), (N45, s45), (N47, s47), (N53, s53)]
@[reducible] def P3 : List AK := [.v (.sl Term), .v Value, .v I]
def partBad (l : List Term.D) (v : Value.D) (i : Int) : Bool := bif bif isV l [false] [v] != 0 then true else decide (i < 0) then true else decide (i > 2)
def partV (l : List Term.D) (v : Value.D) (i : Int) : Value.D × List Term.D × Int :=
  bif partBad l v i then (zeroV, [], 1) else bif v.1 then madeV l (IntKind.i64.wrap (2 + i), v.2.2.2.2, 0) else (octV (partR v.2.2.1 i).1, l, (partR v.2.2.1 i).2)
theorem r22 (l : List Term.D) (v : Value.D) (i : Int) : run Γ22 noL [] F22 (encA P3 (l, v, i)) wVle =
    bif partBad l v i then some (vle (zeroV, [], 1)) else
    bif v.1 then some (vle (madeV l (IntKind.i64.wrap (2 + i), v.2.2.2.2, 0))) else bif small24 l.length then some (vle (octV (partR v.2.2.1 i).1, l, (partR v.2.2.1 i).2)) else none := by kernel_rfl
theorem isV_one {l : List Term.D} {a : Bool} {v : Value.D} : isV l [a] [v] = 0 ↔ checkV l v = 0 ∧ ownV l v = a := by
  unfold isV
  have e : isGo l [a] (vAt [v] 0) [v] 0 = bif checkV l v != 0 then checkV l v else bif !(ownV l v == a) then 1 else 0 := by
    show isGo l [a] v [v] 0 = _
    simp only [isGo, List.getD_cons_zero, beq_self_eq_true, Bool.not_true, cond_false]
  rw [e]
  rcases checkV_one l v with h1 | h1 <;> rw [h1]
  all_goals
    cases h3 : !(ownV l v == a) <;> simp at h3 <;> simp [h3]
def s22 : Sp := .fn P3 fun x => (true, vle (partV x.1 x.2.1 x.2.2))
theorem g22 : GoodS Tryd.prog N22 s22 := by
  refine good (.cons g44 (.cons g45 (.cons g47 (.cons g53 (.nil _))))) H22 rfl (by kernel_rfl) noL [] (noLoops (by kernel_rfl)) P3 (by decide) wVle _ fun x r hw h => ?_
  obtain ⟨l, v, i⟩ := x
  cases h
  refine (r22 l v i).trans ?_
  simp only [partV]
  cases h0 : partBad l v i with
  | true => rfl
  | false =>
    cases v.1 with
    | true => rfl
    | false =>
      unfold partBad at h0
      cases h1 : isV l [false] [v] != 0 with
      | true => rw [h1] at h0; cases h0
      | false =>
        have hz : isV l [false] [v] = 0 := by simpa using h1
        rw [small_of (checkL_small (checkV_zero.1 (isV_one.1 hz).1).1)]; rfl

theorem plain_sym {l : List Term.D} {v : Value.D} (h : checkV l v = 0) (hs : v.1 = true) : v = symV v.2.2.2.2 ∧ 0 ≤ v.2.2.2.2 ∧ v.2.2.2.2 < l.length := by
  obtain ⟨s1, s2⟩ := sym_of h hs
  have h2 := (checkV_zero.1 h).2
  have hi : isSym l v = true := by
    unfold isSym
    rw [hs, decide_eq_true s1, decide_eq_true s2]; rfl
  unfold plainV at h2
  rw [hi] at h2
  exact ⟨h2, s1, s2⟩
theorem plain_oct {l : List Term.D} {v : Value.D} (h : checkV l v = 0) (hs : v.1 = false) : (v.2.1 = true ∧ v = sealV v.2.2.2.1) ∨ (v.2.1 = false ∧ v = octV v.2.2.1) := by
  have h2 := (checkV_zero.1 h).2
  have hi : isSym l v = false := by unfold isSym; rw [hs]; rfl
  unfold plainV at h2
  rw [hi] at h2
  cases hb : v.2.1 with
  | true => rw [hb] at h2; exact .inl ⟨rfl, h2⟩
  | false => rw [hb] at h2; exact .inr ⟨rfl, h2⟩
theorem madeV_len (l : List Term.D) (t : Term.D) : (madeV l t).2.1.length ≤ l.length + 1 := by
  unfold madeV
  cases (makeL l t).2.2 != 0
  · exact makeL_len l t
  · simp
theorem check_sym {l : List Term.D} {i : Int} (h : GoodL l) (h0 : 0 ≤ i) (h1 : i < l.length) : checkV l (symV i) = 0 := by
  refine checkV_zero.2 ⟨checkL_iff.2 h, ?_⟩
  have : isSym l (symV i) = true := by unfold isSym symV; simp [h0, h1]
  unfold plainV
  rw [this]; rfl
theorem check_seal {l : List Term.D} (h : GoodL l) (s : Sealed.D) : checkV l (sealV s) = 0 := checkV_zero.2 ⟨checkL_iff.2 h, rfl⟩
theorem check_oct {l : List Term.D} (h : GoodL l) (b : Block.D) : checkV l (octV b) = 0 := checkV_zero.2 ⟨checkL_iff.2 h, rfl⟩
theorem madeV_cases (l : List Term.D) (t : Term.D) : ((madeV l t).2.2 ≠ 0 ∧ madeV l t = (zeroV, [], (madeV l t).2.2)) ∨ ((makeL l t).2.2 = 0 ∧ madeV l t = (symV (makeL l t).1, (makeL l t).2.1, 0)) := by
  unfold madeV
  cases h : (makeL l t).2.2 != 0 with
  | true => exact .inl ⟨by simpa using h, rfl⟩
  | false => exact .inr ⟨by simpa using h, rfl⟩
/-- What is made is an extension of what was there. -/
theorem madeV_ok {l : List Term.D} {t : Term.D} (h : (madeV l t).2.2 = 0) : ∃ (i : Nat) (r : List Term.D), madeV l t = (symV i, l ++ r, 0) ∧ GoodL l ∧ GoodL (l ++ r) ∧ (l ++ r)[i]? = some t ∧ mayB t l.length = true := by
  rcases madeV_cases l t with ⟨h1, _⟩ | ⟨h1, h2⟩
  · exact absurd h h1
  · obtain ⟨g1, g2, i, g3, g4, g5, g6⟩ := makeL_ok h1
    rw [h2, g3]
    rcases g6 with ⟨_, e⟩ | ⟨_, _, _, e⟩
    · rw [e] at g4 g5 ⊢
      exact ⟨i, [], by simp, g1, by simpa using g4, by simpa using g5, g2⟩
    · rw [e] at g4 g5 ⊢
      exact ⟨i, [t], rfl, g1, g4, g5, g2⟩
theorem madeV_may {l : List Term.D} {t : Term.D} (h : GoodL l) (hm : mayB t l.length = true) (hl : l.length < 65536) : (madeV l t).2.2 = 0 := by
  unfold madeV; rw [makeL_may h hm hl]; rfl
theorem partBad_false {l : List Term.D} {v : Value.D} {i : Int} : partBad l v i = false ↔ checkV l v = 0 ∧ ownV l v = false ∧ 0 ≤ i ∧ i ≤ 2 := by
  unfold partBad
  cases h : isV l [false] [v] != 0 with
  | true =>
    have : ¬ isV l [false] [v] = 0 := by simpa using h
    rw [isV_one] at this
    simp only [cond_true]
    exact ⟨fun h => (by cases h), fun h => absurd ⟨h.1, h.2.1⟩ this⟩
  | false =>
    have : isV l [false] [v] = 0 := by simpa using h
    obtain ⟨h1, h2⟩ := isV_one.1 this
    simp only [cond_false, h1, h2]
    cases h3 : decide (i < 0) <;> simp at h3 <;> simp <;> omega
/-- The parts of what may be, and is not sealed, are made. -/
theorem partV_may {l : List Term.D} {v : Value.D} {i : Int} (hl : l.length < 65536) (hc : checkV l v = 0) (ho : ownV l v = false) (h0 : 0 ≤ i) (h2 : i ≤ 2) : (partV l v i).2.2 = 0 := by
  unfold partV
  rw [partBad_false.2 ⟨hc, ho, h0, h2⟩]
  have hG := checkL_iff.1 (checkV_zero.1 hc).1
  cases hv : v.1 with
  | true =>
    obtain ⟨_, s1, s2⟩ := plain_sym hc hv
    simp only [cond_false, cond_true]
    rw [wrap64 (by omega) (by omega)]
    exact madeV_may hG (mayB_part (by omega) s1 s2) hl
  | false =>
    simp only [cond_false]
    unfold partR
    rw [decide_eq_false (by omega), decide_eq_false (by omega)]
    rfl
def Γ85 : Orc := orc [(N53, s53)]
def out85 (b : Block.D) : AV := .tup [(true, enc Block true (partR b 3).1), (true, enc Block true (partR b 4).1)]
theorem r85 (b : Block.D) : run Γ85 noL [] F85 (encA [.v Block] b) [] = bif sameO (out85 b) [some (out85 b), some (out85 b)] then some (out85 b) else none := by kernel_rfl
def s85 : Sp := .fn [.v Block] fun x => (true, .tup [(true, enc Block true (partB x 3)), (true, enc Block true (partB x 4))])
theorem g85 : GoodS Tryd.prog N85 s85 := by
  refine good (.cons g53 (.nil _)) H85 rfl (by kernel_rfl) noL [] (noLoops (by kernel_rfl)) [.v Block] (by decide) [] _ fun x r hw h => ?_
  cases h
  refine (r85 x).trans ?_
  have h1 : Same.eq (out85 x) (out85 x) = true := same_self _
  rw [show sameO (out85 x) [some (out85 x), some (out85 x)] = true by simp [sameO, h1]]
  rfl
def tagB (k c : Block.D) : Block.D := mixB (xorB (partB k 4) c)
def Γ87 : Orc := orc [(N85, s85), (N86, s86), (N92, s92)]
theorem r87 (k c : Block.D) : run Γ87 noL [] F87 (encA [.v Block, .v Block] (k, c)) [] = some (encV Block (tagB k c)) := by kernel_rfl
def s87 : Sp := .fn [.v Block, .v Block] fun x => (true, encV Block (tagB x.1 x.2))
theorem g87 : GoodS Tryd.prog N87 s87 := by
  refine good (.cons g85 (.cons g86 (.cons g92 (.nil _)))) H87 rfl (by kernel_rfl) noL [] (noLoops (by kernel_rfl)) [.v Block, .v Block] (by decide) [] _ fun x r hw h => ?_
  cases h
  exact r87 x.1 x.2
def wrapB (k b : Block.D) : Sealed.D := (xorB b (partB k 3), tagB k (xorB b (partB k 3)))
def Γ46 : Orc := orc [(N85, s85), (N86, s86), (N87, s87)]
theorem r46 (k b : Block.D) : run Γ46 noL [] F46 (encA [.v Block, .v Block] (k, b)) [] = some (encV Sealed (wrapB k b)) := by kernel_rfl
def s46 : Sp := .fn [.v Block, .v Block] fun x => (true, encV Sealed (wrapB x.1 x.2))
theorem g46 : GoodS Tryd.prog N46 s46 := by
  refine good (.cons g85 (.cons g86 (.cons g87 (.nil _)))) H46 rfl (by kernel_rfl) noL [] (noLoops (by kernel_rfl)) [.v Block, .v Block] (by decide) [] _ fun x r hw h => ?_
  cases h
  exact r46 x.1 x.2
def Γ48 : Orc := orc [(N46, s46), (N85, s85), (N86, s86)]
def sealedEq (a b : Sealed.D) : Bool := (a.1.1 == b.1.1) && ((a.1.2 == b.1.2) && ((a.2.1 == b.2.1) && (a.2.2 == b.2.2)))
def openB (k : Block.D) (s : Sealed.D) : Block.D := xorB s.1 (partB k 3)
def unwrapR (k : Block.D) (s : Sealed.D) : Block.D × Int := bif !sealedEq (wrapB k (openB k s)) s then ((0, 0), 7) else (openB k s, 0)
def s48 : Sp := .fn [.v Block, .v Sealed] fun x => (true, .tup [(true, enc Block true (unwrapR x.1 x.2).1), (false, [.int .i64 (unwrapR x.1 x.2).2])])

def Γ17 : Orc := orc [(N44, s44), (N45, s45), (N46, s46), (N47, s47)]
def Γ20 : Orc := orc [(N45, s45), (N47, s47), (N49, s49)]
@[reducible] def V3 : List AK := [.v (.sl Term), .v Value, .v Value]
def wrapV (l : List Term.D) (k v : Value.D) : Value.D × List Term.D × Int :=
  bif isV l [false, false] [k, v] != 0 then (zeroV, [], isV l [false, false] [k, v]) else bif k.1 then madeV l (5, k.2.2.2.2, v.2.2.2.2) else (sealV (wrapB k.2.2.1 v.2.2.1), l, 0)
theorem isGo_two (l : List Term.D) (a b : Bool) (v w : Value.D) : isGo l [a, b] (vAt [v, w] 0) [v, w] 0 = bif checkV l v != 0 then checkV l v else bif !(ownV l v == a) then 1 else
    bif checkV l w != 0 then checkV l w else bif !(ownV l w == b) then 1 else bif !(w.1 == v.1) then 1 else 0 := by
  have e : vAt [v, w] 0 = v := rfl
  rw [e]
  simp only [isGo, List.getD_cons_zero, Nat.zero_add, List.getD_cons_succ, beq_self_eq_true, Bool.not_true, cond_false]
theorem isV_two {l : List Term.D} {a b : Bool} {v w : Value.D} : isV l [a, b] [v, w] = 0 ↔ checkV l v = 0 ∧ checkV l w = 0 ∧ ownV l v = a ∧ ownV l w = b ∧ w.1 = v.1 := by
  unfold isV
  rw [isGo_two]
  rcases checkV_one l v with h1 | h1 <;> rcases checkV_one l w with h2 | h2 <;> rw [h1] <;> try rw [h2]
  all_goals
    cases h3 : !(ownV l v == a) <;> cases h4 : !(ownV l w == b) <;> cases h5 : !(w.1 == v.1) <;> simp at h3 h4 h5 <;> simp [h3, h4, h5]
theorem isV_two_one (l : List Term.D) (a b : Bool) (v w : Value.D) : isV l [a, b] [v, w] = 0 ∨ isV l [a, b] [v, w] = 1 := by
  unfold isV
  rw [isGo_two]
  rcases checkV_one l v with h1 | h1 <;> rcases checkV_one l w with h2 | h2 <;> rw [h1] <;> try rw [h2]
  all_goals
    cases h3 : !(ownV l v == a) <;> cases h4 : !(ownV l w == b) <;> cases h5 : !(w.1 == v.1) <;> simp
def s17 : Sp := .fn V3 fun x => (true, vle (wrapV x.1 x.2.1 x.2.2))
def ve (x : Value.D × Int) : AV := .tup [(true, enc Value true x.1), (false, [.int .i64 x.2])]
def unwrapV (l : List Term.D) (k w : Value.D) : Value.D × Int :=
  bif isV l [false, true] [k, w] != 0 then (zeroV, isV l [false, true] [k, w]) else bif !k.1 then (octV (unwrapR k.2.2.1 w.2.2.2.1).1, (unwrapR k.2.2.1 w.2.2.2.1).2) else
  bif (tAt l w.2.2.2.2).2.1 != k.2.2.2.2 then (zeroV, 7) else (symV (tAt l w.2.2.2.2).2.2, 0)
def s18 : Sp := .fn V3 fun x => (true, ve (unwrapV x.1 x.2.1 x.2.2))
@[reducible] def A4 : List AK := [.v (.sl Term), .v .bool, .v I, .v Block]
def atomV (l : List Term.D) (s : Bool) (n : Int) (b : Block.D) : Value.D × List Term.D × Int := bif s then madeV l (1, n, 0) else bif checkL l != 0 then (zeroV, [], checkL l) else (octV b, l, 0)
def s20 : Sp := .fn A4 fun x => (true, vle (atomV x.1 x.2.1 x.2.2.1 x.2.2.2))
def s16 : Sp := .fn [] fun _ => (true, .one (.bool true))
@[reducible] def V4 : List AK := [.v (.sl Term), .v Value, .v Value, .v Value]
def B (b : Bool) : Option AV := some (.one (.bool b))
def backOut (l : List Term.D) (k v : Value.D) : Bool :=
  bif bif (unwrapV (wrapV l k v).2.1 k (wrapV l k v).1).2 != 0 then true else !valEq (unwrapV (wrapV l k v).2.1 k (wrapV l k v).1).1 v then true else checkV (wrapV l k v).2.1 (wrapV l k v).1 != 0
def backEnd (l : List Term.D) (k v o : Value.D) : Bool := bif bif !k.1 then true else !o.1 then true else (((unwrapV (wrapV l k v).2.1 o (wrapV l k v).1).2 == 0) == valEq o k)

theorem bv_of_int {a : Int} (h : IntKind.u64.has a) : ((BitVec.ofInt 64 a).toNat : Int) = a := by
  obtain ⟨h1, h2⟩ := h
  simp [IntKind.min, IntKind.max, IntKind.signed, IntKind.bits] at h1 h2
  rw [BitVec.toNat_ofInt]
  simp
  omega
theorem int_of_bv (b : BitVec 64) : BitVec.ofInt 64 (b.toNat : Int) = b := by
  apply BitVec.eq_of_toNat_eq
  rw [BitVec.toNat_ofInt]
  have := b.isLt
  simp
  omega
theorem xorU_eq (a b : Int) : xorU a b = ((BitVec.ofInt 64 a ^^^ BitVec.ofInt 64 b).toNat : Int) := by
  unfold xorU
  have := (BitVec.ofInt 64 a ^^^ BitVec.ofInt 64 b).isLt
  exact wrapU (by omega) (by omega)
theorem xorU_has (a b : Int) : IntKind.u64.has (xorU a b) := wrap_has _ _
theorem xorU_back {a : Int} (h : IntKind.u64.has a) (b : Int) : xorU (xorU a b) b = a := by
  rw [xorU_eq, xorU_eq, int_of_bv, BitVec.xor_assoc, BitVec.xor_self, BitVec.xor_zero]
  exact bv_of_int h
theorem xorB_back {a : Block.D} (h : WF Block a) (b : Block.D) : xorB (xorB a b) b = a := by
  unfold xorB
  rw [xorU_back h.1, xorU_back h.2]
theorem sealedEq_iff {a b : Sealed.D} : sealedEq a b = true ↔ a = b := by
  obtain ⟨⟨a1, a2⟩, a3, a4⟩ := a
  obtain ⟨⟨b1, b2⟩, b3, b4⟩ := b
  simp [sealedEq, and_assoc]
theorem unwrap_wrap {k b : Block.D} (h : WF Block b) : unwrapR k (wrapB k b) = (b, 0) := by
  have : openB k (wrapB k b) = b := xorB_back h _
  unfold unwrapR
  rw [this, sealedEq_iff.2 rfl]
  rfl
/-- What is wrapped. -/
theorem wrapV_ok {l : List Term.D} {k v : Value.D} (h : (wrapV l k v).2.2 = 0) : checkV l k = 0 ∧ checkV l v = 0 ∧ ownV l k = false ∧ ownV l v = false ∧ v.1 = k.1 ∧ GoodL l ∧
    ((k.1 = false ∧ k = octV k.2.2.1 ∧ v = octV v.2.2.1 ∧ wrapV l k v = (sealV (wrapB k.2.2.1 v.2.2.1), l, 0)) ∨
     (k.1 = true ∧ k = symV k.2.2.2.2 ∧ v = symV v.2.2.2.2 ∧ 0 ≤ k.2.2.2.2 ∧ k.2.2.2.2 < l.length ∧ 0 ≤ v.2.2.2.2 ∧ v.2.2.2.2 < l.length ∧
      ∃ (i : Nat) (r : List Term.D), wrapV l k v = (symV i, l ++ r, 0) ∧ GoodL (l ++ r) ∧ (l ++ r)[i]? = some (5, k.2.2.2.2, v.2.2.2.2))) := by
  have e : wrapV l k v = bif isV l [false, false] [k, v] != 0 then (zeroV, [], isV l [false, false] [k, v]) else bif k.1 then madeV l (5, k.2.2.2.2, v.2.2.2.2) else (sealV (wrapB k.2.2.1 v.2.2.1), l, 0) := rfl
  cases h0 : isV l [false, false] [k, v] != 0 with
  | true =>
    rw [e, h0] at h
    simp only [cond_true] at h
    rw [h] at h0; cases h0
  | false =>
    have hz : isV l [false, false] [k, v] = 0 := by simpa using h0
    obtain ⟨c1, c2, o1, o2, hk⟩ := isV_two.1 hz
    have hG := checkL_iff.1 (checkV_zero.1 c1).1
    rw [h0] at e
    simp only [cond_false] at e
    refine ⟨c1, c2, o1, o2, hk, hG, ?_⟩
    cases hk1 : k.1 with
    | false =>
      rw [hk1] at e hk
      refine .inl ⟨rfl, ?_, ?_, e⟩
      · rcases plain_oct c1 hk1 with ⟨p, _⟩ | ⟨_, p⟩
        · unfold ownV at o1; rw [hk1] at o1; simp only [cond_false] at o1; rw [o1] at p; cases p
        · exact p
      · rcases plain_oct c2 hk with ⟨p, _⟩ | ⟨_, p⟩
        · unfold ownV at o2; rw [hk] at o2; simp only [cond_false] at o2; rw [o2] at p; cases p
        · exact p
    | true =>
      rw [hk1] at e hk
      simp only [cond_true] at e
      obtain ⟨p1, p2, p3⟩ := plain_sym c1 hk1
      obtain ⟨q1, q2, q3⟩ := plain_sym c2 hk
      rw [e] at h
      obtain ⟨i, r, m1, m2, m3, m4, m5⟩ := madeV_ok h
      exact .inr ⟨rfl, p1, q1, p2, p3, q2, q3, i, r, e.trans m1, m3, m4⟩
theorem wrapV_bad {l : List Term.D} {k v : Value.D} (h : (wrapV l k v).2.2 ≠ 0) : (wrapV l k v).1 = zeroV ∧ (wrapV l k v).2.1 = [] := by
  unfold wrapV at h ⊢
  cases h0 : isV l [false, false] [k, v] != 0 with
  | true => exact ⟨rfl, rfl⟩
  | false =>
    rw [h0] at h
    simp only [cond_false] at h ⊢
    cases hk : k.1 with
    | false => rw [hk] at h; exact absurd rfl h
    | true =>
      rw [hk] at h
      simp only [cond_true] at h ⊢
      rcases madeV_cases l (5, k.2.2.2.2, v.2.2.2.2) with ⟨_, h2⟩ | ⟨_, h2⟩
      · rw [h2]; exact ⟨rfl, rfl⟩
      · rw [h2] at h; exact absurd rfl h
theorem ownV_sym (l : List Term.D) (i : Int) : ownV l (symV i) = ((tAt l i).1 == 5) := rfl
end Go.AM.Seat
