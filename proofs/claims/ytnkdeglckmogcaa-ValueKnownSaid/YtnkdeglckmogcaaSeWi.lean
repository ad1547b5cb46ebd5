/- The seat: contracts: term.Within. -/
import Derived.Test.YtnkdeglckmogcaaSeT3
import Derived.Test.YtnkdeglckmogcaaSeSo
set_option linter.unusedVariables false
set_option linter.unusedSimpArgs false
set_option maxRecDepth 100000
namespace Go.AM.Seat
open Go Go.AM Go.Proofs

theorem nSo : ρSo.f 189 = N65 := rfl
def s65 : Sp := .io fun a p gs => match a, p, gs with
  | [.one (.hot 0 none)], 1, [.arr false (.int .i64) l] => some (decide (l.length ≤ 1000000), .tup [], [.arr false I (sortI l)])
  | _, _, _ => none
theorem g65 : GoodS Try.prog N65 s65 := by
  refine GoodS.io (callable_of H65 (bd rfl) (by kernel_rfl)) fun a p gs r gs' hw1 hw2 h => ?_
  clear hw1 hw2
  split at h
  · rename_i l
    simp only [Option.some.injEq, Prod.mk.injEq, decide_eq_true_eq] at h
    obtain ⟨hs, rfl, rfl⟩ := h
    exact nSo ▸ sort_io laySo l hs
  · cases h
def thereI (l : List Term.D) (i : Int) : Int := bif bif decide (i < 0) then true else decide (i ≥ (l.length : Int)) then 1 else checkL l
theorem r73 (l : List Term.D) (i : Int) : run (orc [(N49, s49)]) noL [] F73 (encA [.v (.sl Term), .v I] (l, i)) [] =
    bif bif decide (i < 0) then true else decide (i ≥ (l.length : Int)) then some (.one (.int .i64 1)) else some (.one (.int .i64 (checkL l))) := by kernel_rfl
def s73 : Sp := .fn [.v (.sl Term), .v I] fun x => (true, .one (.int .i64 (thereI x.1 x.2)))
theorem g73 : GoodS Try.prog N73 s73 := by
  refine good (.cons g49 (.nil _)) H73 rfl (by kernel_rfl) noL [] (noLoops (by kernel_rfl)) [.v (.sl Term), .v I] (by decide) [] _ fun x r hw e => ?_
  obtain ⟨l, i⟩ := x
  cases e
  refine (r73 l i).trans ?_
  show _ = some (AV.one (SV.int .i64 (thereI l i)))
  unfold thereI
  cases bif decide (i < 0) then true else decide (i ≥ (l.length : Int)) <;> rfl
def Γ35 : Orc := orc [(N73, s73), (N74, s74), (N65, s65)]
abbrev live35 : List (Nat × List (Nat × Dir)) := [(0, [(0, .keep), (7, .keep), (8, .keep), (9, .keep), (20, .keep), (25, .keep), (59, .keep)]), (2, [(0, .keep), (7, .keep), (8, .keep), (9, .keep), (20, .keep), (25, .keep), (39, .keep), (40, .keep), (41, .keep), (59, .keep)])]
abbrev Un : Ty := .unit
def woA (l : List Term.D) (es : List (I.D × Un.D)) (q : List Int) (i : Int) : List AV := [.one (.sl false Term none l), .one (.mref 20), .one (.hot 25 none), .one (.int .i64 i), .mapO true I Un es, .arr true I q, .one .junk]
def woB (l : List Term.D) (es : List (I.D × Un.D)) (q : List Int) (i : Int) : List AV := [.one (.sl false Term none l), .one (.mref 20), .one (.hot 59 none), .one (.int .i64 i), .mapO true I Un es, .one .junk, .arr true I q]
def wnA (l : List Term.D) (es : List (I.D × Un.D)) (q : List Int) (i : Int) (ps : List Int) (n j : Int) : List AV := [.one (.sl false Term none l), .one (.mref 20), .one (.hot 25 none), .one (.int .i64 i), .mapO true I Un es, .arr true I q, .one (.sl true I none ps), .one (.int .i64 n), .one (.int .i64 j), .one .junk]
def wnB (l : List Term.D) (es : List (I.D × Un.D)) (q : List Int) (i : Int) (ps : List Int) (n j : Int) : List AV := [.one (.sl false Term none l), .one (.mref 20), .one (.hot 59 none), .one (.int .i64 i), .mapO true I Un es, .one .junk, .one (.sl true I none ps), .one (.int .i64 n), .one (.int .i64 j), .arr true I q]
def lkW (f : Func) (k : Nat) : Nat × Code := (loopsOf 0 (body f)).getD k (0, .skip)
noncomputable abbrev lo35 (Λ : Lam AV) (K : AE → List AV → Option AV) (fuel : Nat) (vs : List AV) : Option AV := loopN (aexec tb Γ35 Λ ⟨64, 0, live35⟩ (lkW F35 0).2 0) 64 0 (Lay.get ⟨64, 0, live35⟩ 0) K fuel vs
noncomputable abbrev li35 (Λ : Lam AV) (K : AE → List AV → Option AV) (fuel : Nat) (vs : List AV) : Option AV := loopN (aexec tb Γ35 Λ ⟨64, 0, live35⟩ (lkW F35 1).2 2) 64 0 (Lay.get ⟨64, 0, live35⟩ 2) K fuel vs
/-- What is looked at: was anything added; the set; the queue. -/
abbrev Wi := Bool × List (I.D × Un.D) × List Int
def roomI (n : Nat) : Bool := decide (n * 8 ≤ 140737488355328)
def iA (l : List Int) (i : Int) : Int := l.getD i.toNat (Ty.int IntKind.i64).dflt
def visO (x : Int) (s : Wi) : Option Wi := bif !mhas x s.2.1 then bif roomI (s.2.2.length + [x].length) then some (true, mput x () s.2.1, s.2.2 ++ [x]) else none else some s
def visL : List Int → Wi → Option Wi
  | [], s => some s
  | x :: r, s => match visO x s with
    | some s' => visL r s'
    | none => none
def contO {ρ : Type} (r : Option Wi) (KB KA : Wi → Option ρ) : Option ρ :=
  match r with
  | some s => bif s.1 then KB s else KA s
  | none => none
def Λ35 (out : List Term.D → Wi → Option Wi) : Lam AV := fun cur vs K =>
  match cur, vs with
  | 0, [.one (.sl false (.pair (.int .i64) (.pair (.int .i64) (.int .i64))) none l), .one (.mref 20), .one (.hot 25 none), .one (.int .i64 0), .mapO true (.int .i64) .unit es, .arr true (.int .i64) q, .one .junk] =>
    contO (out l (false, es, q)) (fun s => K (.exit 0) (woB l s.2.1 s.2.2 s.2.2.length)) (fun s => K (.exit 0) (woA l s.2.1 s.2.2 s.2.2.length))
  | 2, [.one (.sl false (.pair (.int .i64) (.pair (.int .i64) (.int .i64))) none l), .one (.mref 20), .one (.hot 25 none), .one (.int .i64 i), .mapO true (.int .i64) .unit es, .arr true (.int .i64) q, .one (.sl true (.int .i64) none ps), .one (.int .i64 n), .one (.int .i64 0), .one .junk] =>
    bif decide (n = ps.length) && decide (n ≤ 9223372036854775807) then
      contO (visL ps (false, es, q)) (fun s => K (.exit 2) (wnB l s.2.1 s.2.2 i ps n n)) (fun s => K (.exit 2) (wnA l s.2.1 s.2.2 i ps n n))
    else none
  | 2, [.one (.sl false (.pair (.int .i64) (.pair (.int .i64) (.int .i64))) none l), .one (.mref 20), .one (.hot 59 none), .one (.int .i64 i), .mapO true (.int .i64) .unit es, .one .junk, .one (.sl true (.int .i64) none ps), .one (.int .i64 n), .one (.int .i64 0), .arr true (.int .i64) q] =>
    bif decide (n = ps.length) && decide (n ≤ 9223372036854775807) then
      contO (visL ps (true, es, q)) (fun s => K (.exit 2) (wnB l s.2.1 s.2.2 i ps n n)) (fun _ => none)
    else none
  | _, _ => none
theorem stepA (l : List Term.D) (es : List (I.D × Un.D)) (q : List Int) (i : Int) (ps : List Int) (n j : Int) (Λ : Lam AV) (K : AE → List AV → Option AV) (fuel : Nat) : li35 Λ K (fuel + 1) (wnA l es q i ps n j) =
    bif decide (j < n) then bif inB j ps.length then
      bif !mhas (iA ps j) es then bif roomI (q.length + [iA ps j].length) then li35 Λ K fuel (wnB l (mput (iA ps j) () es) (q ++ [iA ps j]) i ps n (IntKind.i64.wrap (j + 1))) else none
      else li35 Λ K fuel (wnA l es q i ps n (IntKind.i64.wrap (j + 1)))
    else none else K (.exit 2) (wnA l es q i ps n j) := by kernel_rfl
theorem stepB (l : List Term.D) (es : List (I.D × Un.D)) (q : List Int) (i : Int) (ps : List Int) (n j : Int) (Λ : Lam AV) (K : AE → List AV → Option AV) (fuel : Nat) : li35 Λ K (fuel + 1) (wnB l es q i ps n j) =
    bif decide (j < n) then bif inB j ps.length then
      bif !mhas (iA ps j) es then bif roomI (q.length + [iA ps j].length) then li35 Λ K fuel (wnB l (mput (iA ps j) () es) (q ++ [iA ps j]) i ps n (IntKind.i64.wrap (j + 1))) else none
      else li35 Λ K fuel (wnB l es q i ps n (IntKind.i64.wrap (j + 1)))
    else none else K (.exit 2) (wnB l es q i ps n j) := by kernel_rfl
def lenIL (l : List Int) : Bool := decide ((l.length : Int) = l.length) && decide ((l.length : Int) ≤ 9223372036854775807)
theorem stopA (out : List Term.D → Wi → Option Wi) (l : List Term.D) (es : List (I.D × Un.D)) (q : List Int) (i : Int) (K : AE → List AV → Option AV) (fuel : Nat) : lo35 (Λ35 out) K (fuel + 1) (woA l es q i) =
    bif decide (i < (q.length : Int)) then bif inB i q.length then bif inB (iA q i) l.length then
      bif lenIL (partsL (tAt l (iA q i))) then
        contO (visL (partsL (tAt l (iA q i))) (false, es, q)) (fun s => lo35 (Λ35 out) K fuel (woB l s.2.1 s.2.2 (IntKind.i64.wrap (i + 1)))) (fun s => lo35 (Λ35 out) K fuel (woA l s.2.1 s.2.2 (IntKind.i64.wrap (i + 1))))
      else none
    else none else none else K (.exit 0) (woA l es q i) := by kernel_rfl
theorem stopB (out : List Term.D → Wi → Option Wi) (l : List Term.D) (es : List (I.D × Un.D)) (q : List Int) (i : Int) (K : AE → List AV → Option AV) (fuel : Nat) : lo35 (Λ35 out) K (fuel + 1) (woB l es q i) =
    bif decide (i < (q.length : Int)) then bif inB i q.length then bif inB (iA q i) l.length then
      bif lenIL (partsL (tAt l (iA q i))) then
        contO (visL (partsL (tAt l (iA q i))) (true, es, q)) (fun s => lo35 (Λ35 out) K fuel (woB l s.2.1 s.2.2 (IntKind.i64.wrap (i + 1)))) (fun _ => none)
      else none
    else none else none else K (.exit 0) (woB l es q i) := by kernel_rfl
/-- The whole: from place i on. -/
def bfsO (l : List Term.D) : Nat → Wi → Nat → Option Wi
  | 0, _, _ => none
  | f + 1, s, i => bif decide (i < s.2.2.length) then bif inB (iA s.2.2 i) l.length then
      match visL (partsL (tAt l (iA s.2.2 i))) s with
      | some s' => bfsO l f s' (i + 1)
      | none => none
    else none else some s
def outW (l : List Term.D) (s : Wi) : Option Wi := bif roomI s.2.2.length then bfsO l (l.length + 2) s 0 else none
theorem iA_cons {l : List Int} {j : Nat} (h : j < l.length) : l.drop j = iA l j :: l.drop (j + 1) := by
  rw [List.drop_eq_getElem_cons h]
  simp [iA, h]
theorem visO_flag {x : Int} {s s' : Wi} (h : visO x s = some s') (hs : s.1 = true) : s'.1 = true := by
  unfold visO at h
  cases h1 : !mhas x s.2.1 with
  | false => rw [h1] at h; cases h; exact hs
  | true =>
    rw [h1] at h
    cases h2 : roomI (s.2.2.length + [x].length) with
    | false => rw [h2] at h; cases h
    | true => rw [h2] at h; cases h; rfl
theorem visL_flag : ∀ {ps : List Int} {s s' : Wi}, visL ps s = some s' → s.1 = true → s'.1 = true := by
  intro ps
  induction ps with
  | nil => intro s s' h hs; cases h; exact hs
  | cons x ps ih =>
    intro s s' h hs
    simp only [visL] at h
    split at h
    · rename_i s1 h1; exact ih h (visO_flag h1 hs)
    · cases h
theorem visO_room {x : Int} {s s' : Wi} (h : visO x s = some s') (hs : roomI s.2.2.length = true) : roomI s'.2.2.length = true ∧ s.2.2.length ≤ s'.2.2.length := by
  unfold visO at h
  cases h1 : !mhas x s.2.1 with
  | false => rw [h1] at h; cases h; exact ⟨hs, Nat.le_refl _⟩
  | true =>
    rw [h1] at h
    cases h2 : roomI (s.2.2.length + [x].length) with
    | false => rw [h2] at h; cases h
    | true =>
      rw [h2] at h; cases h
      refine ⟨?_, by simp⟩
      show roomI (s.2.2 ++ [x]).length = true
      rw [List.length_append]; exact h2
theorem visL_room : ∀ {ps : List Int} {s s' : Wi}, visL ps s = some s' → roomI s.2.2.length = true → roomI s'.2.2.length = true ∧ s.2.2.length ≤ s'.2.2.length := by
  intro ps
  induction ps with
  | nil => intro s s' h hs; cases h; exact ⟨hs, Nat.le_refl _⟩
  | cons x ps ih =>
    intro s s' h hs
    simp only [visL] at h
    split at h
    · rename_i s1 h1
      obtain ⟨a1, a2⟩ := visO_room h1 hs
      obtain ⟨b1, b2⟩ := ih h a1
      exact ⟨b1, Nat.le_trans a2 b2⟩
    · cases h
theorem parts_len (t : Term.D) : (partsL t).length ≤ 2 := by
  unfold partsL
  cases t.1 == 2 <;> cases t.1 == 3 <;> cases t.1 == 4 <;> cases t.1 == 5 <;> simp
theorem bfs_flag {l : List Term.D} : ∀ {f i : Nat} {s s' : Wi}, bfsO l f s i = some s' → s.1 = true → s'.1 = true := by
  intro f
  induction f with
  | zero => intro i s s' h; cases h
  | succ f ih =>
    intro i s s' h hs
    simp only [bfsO] at h
    cases h1 : decide (i < s.2.2.length) with
    | false => rw [h1] at h; cases h; exact hs
    | true =>
      rw [h1] at h
      cases h2 : inB (iA s.2.2 i) l.length with
      | false => rw [h2] at h; cases h
      | true =>
        rw [h2] at h
        simp only [cond_true] at h
        split at h
        · rename_i s1 h3; exact ih h (visL_flag h3 hs)
        · cases h
theorem innerB (Λ : Lam AV) (l : List Term.D) (i : Int) (ps : List Int) (hps : ps.length ≤ 9223372036854775807) (K : AE → List AV → Option AV) (out : AV) : ∀ (k j : Nat) (es : List (I.D × Un.D)) (q : List Int) (s : Wi), j + k = ps.length → visL (ps.drop j) (true, es, q) = some s →
    K (.exit 2) (wnB l s.2.1 s.2.2 i ps ps.length ps.length) = some out → ∃ fuel, li35 Λ K fuel (wnB l es q i ps ps.length j) = some out := by
  intro k
  induction k with
  | zero =>
    intro j es q s hj hv hk
    obtain rfl : j = ps.length := by omega
    rw [List.drop_length] at hv
    cases hv
    exact ⟨1, by rw [stepB, nlt_dec]; exact hk⟩
  | succ k ih =>
    intro j es q s hj hv hk
    have hjl : j < ps.length := by omega
    rw [iA_cons hjl] at hv
    simp only [visL] at hv
    unfold visO at hv
    cases h1 : !mhas (iA ps j) es with
    | false =>
      rw [h1] at hv
      obtain ⟨fuel, hf⟩ := ih (j + 1) es q s (by omega) hv hk
      exact ⟨fuel + 1, by rw [stepB, lt_dec hjl, inB_lt hjl, h1, wrap64 (n := (j : Int) + 1) (by omega) (by omega)]; exact hf⟩
    | true =>
      rw [h1] at hv
      cases h2 : roomI (q.length + [iA ps j].length) with
      | false => rw [h2] at hv; cases hv
      | true =>
        rw [h2] at hv
        obtain ⟨fuel, hf⟩ := ih (j + 1) _ _ s (by omega) hv hk
        exact ⟨fuel + 1, by rw [stepB, lt_dec hjl, inB_lt hjl, h1, h2, wrap64 (n := (j : Int) + 1) (by omega) (by omega)]; exact hf⟩
theorem innerA (Λ : Lam AV) (l : List Term.D) (i : Int) (ps : List Int) (hps : ps.length ≤ 9223372036854775807) (K : AE → List AV → Option AV) (out : AV) : ∀ (k j : Nat) (es : List (I.D × Un.D)) (q : List Int), j + k = ps.length →
    contO (visL (ps.drop j) (false, es, q)) (fun s => K (.exit 2) (wnB l s.2.1 s.2.2 i ps ps.length ps.length)) (fun s => K (.exit 2) (wnA l s.2.1 s.2.2 i ps ps.length ps.length)) = some out → ∃ fuel, li35 Λ K fuel (wnA l es q i ps ps.length j) = some out := by
  intro k
  induction k with
  | zero =>
    intro j es q hj hk
    obtain rfl : j = ps.length := by omega
    rw [List.drop_length] at hk
    exact ⟨1, by rw [stepA, nlt_dec]; exact hk⟩
  | succ k ih =>
    intro j es q hj hk
    have hjl : j < ps.length := by omega
    rw [iA_cons hjl] at hk
    simp only [visL] at hk
    unfold visO at hk
    cases h1 : !mhas (iA ps j) es with
    | false =>
      rw [h1] at hk
      obtain ⟨fuel, hf⟩ := ih (j + 1) es q (by omega) hk
      exact ⟨fuel + 1, by rw [stepA, lt_dec hjl, inB_lt hjl, h1, wrap64 (n := (j : Int) + 1) (by omega) (by omega)]; exact hf⟩
    | true =>
      rw [h1] at hk
      cases h2 : roomI (q.length + [iA ps j].length) with
      | false => rw [h2] at hk; cases hk
      | true =>
        rw [h2] at hk
        simp only [cond_true] at hk
        cases hv : visL (ps.drop (j + 1)) (true, mput (iA ps j) () es, q ++ [iA ps j]) with
        | none => rw [hv] at hk; cases hk
        | some s =>
          rw [hv] at hk
          unfold contO at hk
          simp only [visL_flag hv rfl, cond_true] at hk
          obtain ⟨fuel, hf⟩ := innerB Λ l i ps hps K out k (j + 1) _ _ s (by omega) hv hk
          exact ⟨fuel + 1, by rw [stepA, lt_dec hjl, inB_lt hjl, h1, h2, wrap64 (n := (j : Int) + 1) (by omega) (by omega)]; exact hf⟩
theorem lenI_parts (t : Term.D) : lenIL (partsL t) = true := by
  have := parts_len t
  unfold lenIL
  rw [decide_eq_true (show ((partsL t).length : Int) ≤ 9223372036854775807 by omega), Bool.and_true]
  exact decide_eq_true rfl
theorem outerB (O : List Term.D → Wi → Option Wi) (l : List Term.D) (K : AE → List AV → Option AV) (out : AV) : ∀ (f i : Nat) (es : List (I.D × Un.D)) (q : List Int) (s : Wi), i ≤ q.length → roomI q.length = true → bfsO l f (true, es, q) i = some s →
    K (.exit 0) (woB l s.2.1 s.2.2 s.2.2.length) = some out → ∃ fuel, lo35 (Λ35 O) K fuel (woB l es q i) = some out := by
  intro f
  induction f with
  | zero => intro i es q s _ _ h; cases h
  | succ f ih =>
    intro i es q s hi hr h hk
    simp only [bfsO] at h
    have hqm : q.length * 8 ≤ 140737488355328 := of_decide_eq_true hr
    rcases Nat.lt_or_ge i q.length with hlt | hge
    · rw [decide_eq_true hlt] at h
      cases hb : inB (iA q i) l.length with
      | false => rw [hb] at h; cases h
      | true =>
        rw [hb] at h
        simp only [cond_true] at h
        split at h
        · rename_i s1 h1
          obtain ⟨b1, es1, q1⟩ := s1
          have hfl := visL_flag h1 rfl
          obtain ⟨hr1, hl1⟩ := visL_room h1 hr
          obtain rfl : b1 = true := hfl
          obtain ⟨fuel, hf⟩ := ih (i + 1) es1 q1 s (Nat.le_trans hlt hl1) hr1 h hk
          refine ⟨fuel + 1, ?_⟩
          rw [stopB, lt_dec hlt, inB_lt hlt, hb, lenI_parts, h1, wrap64 (n := (i : Int) + 1) (by omega) (by omega)]
          exact hf
        · cases h
    · obtain rfl : i = q.length := by omega
      rw [decide_eq_false (Nat.lt_irrefl _)] at h
      cases h
      exact ⟨1, by rw [stopB, nlt_dec]; exact hk⟩
theorem outerA (O : List Term.D → Wi → Option Wi) (l : List Term.D) (K : AE → List AV → Option AV) (out : AV) : ∀ (f i : Nat) (es : List (I.D × Un.D)) (q : List Int), i ≤ q.length → roomI q.length = true →
    contO (bfsO l f (false, es, q) i) (fun s => K (.exit 0) (woB l s.2.1 s.2.2 s.2.2.length)) (fun s => K (.exit 0) (woA l s.2.1 s.2.2 s.2.2.length)) = some out → ∃ fuel, lo35 (Λ35 O) K fuel (woA l es q i) = some out := by
  intro f
  induction f with
  | zero => intro i es q _ _ h; cases h
  | succ f ih =>
    intro i es q hi hr hk
    simp only [bfsO] at hk
    have hqm : q.length * 8 ≤ 140737488355328 := of_decide_eq_true hr
    rcases Nat.lt_or_ge i q.length with hlt | hge
    · rw [decide_eq_true hlt] at hk
      cases hb : inB (iA q i) l.length with
      | false => rw [hb] at hk; cases hk
      | true =>
        rw [hb] at hk
        simp only [cond_true] at hk
        cases h1 : visL (partsL (tAt l (iA q i))) (false, es, q) with
        | none => rw [h1] at hk; cases hk
        | some s1 =>
          rw [h1] at hk
          obtain ⟨hr1, hl1⟩ := visL_room h1 hr
          obtain ⟨b1, es1, q1⟩ := s1
          cases b1 with
          | false =>
            obtain ⟨fuel, hf⟩ := ih (i + 1) es1 q1 (Nat.le_trans hlt hl1) hr1 hk
            refine ⟨fuel + 1, ?_⟩
            rw [stopA, lt_dec hlt, inB_lt hlt, hb, lenI_parts, h1, wrap64 (n := (i : Int) + 1) (by omega) (by omega)]
            exact hf
          | true =>
            cases h2 : bfsO l f (true, es1, q1) (i + 1) with
            | none => simp only [h2] at hk; cases hk
            | some s =>
              simp only [h2] at hk
              have hfl : s.1 = true := bfs_flag h2 rfl
              unfold contO at hk
              simp only [hfl, cond_true] at hk
              obtain ⟨fuel, hf⟩ := outerB O l K out f (i + 1) es1 q1 s (Nat.le_trans hlt hl1) hr1 h2 hk
              refine ⟨fuel + 1, ?_⟩
              rw [stopA, lt_dec hlt, inB_lt hlt, hb, lenI_parts, h1, wrap64 (n := (i : Int) + 1) (by omega) (by omega)]
              exact hf
    · obtain rfl : i = q.length := by omega
      rw [decide_eq_false (Nat.lt_irrefl _)] at hk
      exact ⟨1, by rw [stopA, nlt_dec]; exact hk⟩
theorem loop35o : LoopP tb Γ35 (Λ35 outW) ⟨64, 0, live35⟩ (lkW F35 0) := by
  intro vs K out h
  have hcur : (lkW F35 0).1 = 0 := by kernel_rfl
  rw [hcur] at h ⊢
  unfold Λ35 at h
  split at h
  · rename_i l es q _
    unfold outW at h
    cases hr : roomI (false, es, q).2.2.length with
    | false => rw [hr] at h; cases h
    | true =>
      rw [hr] at h
      exact outerA outW l K out _ 0 es q (Nat.zero_le _) hr h
  · exact absurd (show (0 : Nat) = 2 by assumption) (by decide)
  · exact absurd (show (0 : Nat) = 2 by assumption) (by decide)
  · cases h
theorem loop35i : LoopP tb Γ35 (Λ35 outW) ⟨64, 0, live35⟩ (lkW F35 1) := by
  intro vs K out h
  have hcur : (lkW F35 1).1 = 2 := by kernel_rfl
  rw [hcur] at h ⊢
  unfold Λ35 at h
  split at h
  · exact absurd (show (2 : Nat) = 0 by assumption) (by decide)
  · rename_i l i es q ps n _
    cases hc : (decide (n = ps.length) && decide (n ≤ 9223372036854775807)) with
    | false => rw [hc] at h; cases h
    | true =>
      rw [hc] at h
      simp only [cond_true] at h
      simp only [Bool.and_eq_true, decide_eq_true_eq] at hc
      obtain ⟨rfl, hmax⟩ := hc
      exact innerA (Λ35 outW) l i ps (by omega) K out ps.length 0 es q (by omega) h
  · rename_i l i es ps n q _
    cases hc : (decide (n = ps.length) && decide (n ≤ 9223372036854775807)) with
    | false => rw [hc] at h; cases h
    | true =>
      rw [hc] at h
      simp only [cond_true] at h
      simp only [Bool.and_eq_true, decide_eq_true_eq] at hc
      obtain ⟨rfl, hmax⟩ := hc
      cases hv : visL ps (true, es, q) with
      | none => rw [hv] at h; cases h
      | some s =>
        rw [hv] at h
        unfold contO at h
        simp only [visL_flag hv rfl, cond_true] at h
        exact innerB (Λ35 outW) l i ps (by omega) K out ps.length 0 es q s (by omega) hv h
  · cases h
def rlE (l : List Int) (e : Int) : AV := .tup [(false, [.sl true I none l]), (false, [.int .i64 e])]
def sml (n : Nat) : Bool := decide (n ≤ 1000000)
def seed (i : Int) : Wi := (false, mput i () [], [i])
theorem r35 (l : List Term.D) (i : Int) : run Γ35 (Λ35 outW) live35 F35 (encA [.v (.sl Term), .v I] (l, i)) [.sl true I] =
    bif thereI l i != 0 then some (rlE [] (thereI l i)) else
      contO (outW l (seed i)) (fun s => bif sml s.2.2.length then some (rlE (sortI s.2.2) 0) else none) (fun s => bif sml s.2.2.length then some (rlE (sortI s.2.2) 0) else none) := by kernel_rfl
def withinI (l : List Term.D) (i : Int) : List Int × Int :=
  bif thereI l i != 0 then ([], thereI l i) else match outW l (seed i) with | some s => (sortI s.2.2, 0) | none => ([], 0)
end Go.AM.Seat
