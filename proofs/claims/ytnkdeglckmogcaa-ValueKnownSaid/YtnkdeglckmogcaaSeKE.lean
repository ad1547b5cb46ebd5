/- know.All, Knows, Why, Shut, Is: contracts. -/
import Derived.Test.YtnkdeglckmogcaaPlKn
set_option linter.unusedVariables false
set_option linter.unusedSimpArgs false
set_option maxRecDepth 100000
namespace Go.AM.Seat
open Go Go.AM Go.Proofs

theorem oddI_false {l : List Term.D} {i : Int} : oddI l i = false ↔ InL l i := by
  unfold oddI
  cases h : decide (i < 0) with
  | true => have := of_decide_eq_true h; simp; omega
  | false => have := of_decide_eq_false h; simp; omega
/-- Places that may be. -/
def OkP (l : List Term.D) (x : List Int) : Prop := x.length ≤ 65536 ∧ ∀ i ∈ x, InL l i
theorem badAt_false {l : List Term.D} {x : List Int} : badAt l x = false ↔ OkP l x := by
  unfold badAt OkP
  cases h : decide ((x.length : Int) > 65536) with
  | true =>
    have := of_decide_eq_true h
    simp only [cond_true]
    exact ⟨fun h => (by cases h), fun h => by have := h.1; omega⟩
  | false =>
    have := of_decide_eq_false h
    simp only [cond_false]
    rw [List.any_eq_false]
    refine ⟨fun h => ⟨by omega, fun i hi => oddI_false.1 ?_⟩, fun h i hi => ?_⟩
    · have := h i hi; simpa [q96] using this
    · have := oddI_false.2 (h.2 i hi); simp [q96, this]
theorem checkK_iff {l : List Term.D} {at' : List (List Int)} : checkK l at' = 0 ↔ (∀ x ∈ at', OkP l x) ∧ GoodL l := by
  unfold checkK
  cases h : at'.any (badAt l) with
  | true =>
    obtain ⟨x, hx, hb⟩ := List.any_eq_true.1 h
    simp only [cond_true]
    exact ⟨fun h => (by cases h), fun h => by rw [badAt_false.2 (h.1 x hx)] at hb; cases hb⟩
  | false =>
    simp only [cond_false]
    rw [checkL_iff]
    exact ⟨fun hg => ⟨fun x hx => badAt_false.1 (by simpa using List.any_eq_false.1 h x hx), hg⟩, fun h => h.2⟩
theorem checkK_one {l : List Term.D} {x : List Int} : checkK l [x] = 0 ↔ OkP l x ∧ GoodL l := by
  rw [checkK_iff]; simp
theorem checkK_cases (l : List Term.D) (at' : List (List Int)) : checkK l at' = 0 ∨ checkK l at' = 1 := by
  unfold checkK
  cases at'.any (badAt l) with
  | true => exact .inr rfl
  | false => exact (checkL_cases l).elim (fun h => .inl h.1) (fun h => .inr h.1)
theorem kn_start (l : List Term.D) (D : Int → Prop) : KOk l D (List.replicate l.length false, []) :=
  ⟨by simp, fun x hx => by
    have h : mAt (List.replicate l.length false) x = false := by
      unfold mAt
      rw [List.getD_eq_getElem?_getD, List.getElem?_replicate]
      split <;> rfl
    simp [h], List.nodup_nil, fun x hx => (by cases hx), fun x hx => (by cases hx)⟩
theorem okLearn_of {l : List Term.D} {s : Kn} {D : Int → Prop} (h : KOk l D s) (hg : GoodL l) {x : List Int} (hx : OkP l x) : okLearn s x = true := by
  have h1 := nodup_in h.nd h.rng
  have h2 := hg.1
  have h3 := hx.1
  unfold okLearn
  rw [decide_eq_true (by omega), show kRoom (s.2.length + x.length) = true from decide_eq_true (by omega), Bool.true_and, Bool.true_and]
  exact List.all_eq_true.2 fun y hy => by rw [h.len]; exact inB_iff.2 (hx.2 y hy)
theorem kn0_ok {l : List Term.D} {h : List Int} (hh : OkP l h) : KOk l (Der l h) (kn0 l h) ∧ (∀ x, x ∈ (kn0 l h).2 ↔ x ∈ h) := by
  obtain ⟨a1, _, a3, a4⟩ := learnL_ok h (kn_start l (Der l h)) hh.2 (fun x hx => .base hx)
  exact ⟨a1, fun x => ⟨fun hx => (a4 x hx).resolve_left (by simp), a3 x⟩⟩
/-- What is known, in a word. -/
structure Known (l : List Term.D) (h : List Int) (s : Kn) : Prop where
  ok : KOk l (Der l h) s
  mem : ∀ x, x ∈ s.2 ↔ Der l h x
  some : knO l h = Option.some s
  a : knA l h = s
  len : s.2.length ≤ 65536
theorem known_ok {l : List Term.D} {h : List Int} (hh : OkP l h) (hg : GoodL l) : ∃ s, Known l h s := by
  obtain ⟨b1, b2⟩ := kn0_ok hh
  obtain ⟨s, c1, c2, ⟨t, c3⟩, c4⟩ := all_ok hg (D := Der l h) (fun x H => Der.fol H) ((kn0 l h).1.length + 2) 0 b1 (Nat.zero_le _) (by rw [b1.len]; omega) (fun x H => by
    have H : Fol l (fun _ => False) x := H.mono (fun y hy => by simp at hy)
    rcases H with ⟨_, _, h3, _⟩ | ⟨_, _, _, h3, _⟩ <;> exact h3.elim)
  have e1 : knO l h = some s := c1
  refine ⟨s, c2, fun x => ⟨c2.der x, fun hx => ?_⟩, e1, by unfold knA; rw [e1]; rfl, ?_⟩
  · exact Der.least (S := fun y => y ∈ s.2) (fun y hy => by rw [c3]; exact List.mem_append_left _ ((b2 y).2 hy)) c4 x hx
  · have := nodup_in c2.nd c2.rng; have := hg.1; omega
def knownL (l : List Term.D) (h : List Int) : List Int := sortI (knA l h).2
theorem sortI_asc {q : List Int} (hq : q.Nodup) : (sortI q).Pairwise (· < ·) := by
  have h1 : (sortI q).Pairwise (fun a b => decide (a ≤ b) = true) := List.pairwise_mergeSort (fun a b c h1 h2 => by simp at *; omega) (fun a b => by simp; omega) q
  have h2 : (sortI q).Nodup := (List.mergeSort_perm q _).nodup_iff.2 hq
  refine (h1.and h2).imp fun h => ?_
  have := h.1
  have := h.2
  simp at *
  omega
theorem known_mem {l : List Term.D} {h : List Int} (hh : OkP l h) (hg : GoodL l) (x : Int) : x ∈ knownL l h ↔ Der l h x := by
  obtain ⟨s, hs⟩ := known_ok hh hg
  unfold knownL
  rw [sortI_mem, hs.a, hs.mem]
theorem known_asc {l : List Term.D} {h : List Int} (hh : OkP l h) (hg : GoodL l) : (knownL l h).Pairwise (· < ·) := by
  obtain ⟨s, hs⟩ := known_ok hh hg
  unfold knownL
  rw [hs.a]; exact sortI_asc hs.ok.nd
theorem known_len {l : List Term.D} {h : List Int} (hh : OkP l h) (hg : GoodL l) : (knownL l h).length ≤ 65536 := by
  obtain ⟨s, hs⟩ := known_ok hh hg
  unfold knownL
  rw [sortI_len, hs.a]; exact hs.len
def allK (l : List Term.D) (h : List Int) : List Int × Int := bif checkK l [h] != 0 then ([], checkK l [h]) else (knownL l h, 0)
theorem all_run (l : List Term.D) (h : List Int) : runG Γ30 noL 3 [] F30 [.one (.sl false Term none l), .one (.sl false I none h)] [.sl true I] = some (rK (allK l h).1 (allK l h).2) := by
  rw [r30]
  unfold allK
  cases hc : checkK l [h] != 0 with
  | true => rfl
  | false =>
    obtain ⟨hh, hg⟩ := checkK_one.1 (by simpa using hc)
    obtain ⟨s, hs⟩ := known_ok hh hg
    rw [hg.okTB, okLearn_of (kn_start l (fun _ => True)) hg hh, hs.some, decide_eq_true (by rw [hs.a]; have := hs.len; omega)]
    rfl
theorem all_runh (l : List Term.D) (h : List Int) : runIO Γ30 noL2 3 [] F30 [.one (.sl false Term none l), .one (.sl false I none h)] [] 0 [.arr I, .id] = rKh (allK l h).1 (allK l h).2 := by
  rw [r30h]
  unfold allK
  cases hc : checkK l [h] != 0 with
  | true => rfl
  | false =>
    obtain ⟨hh, hg⟩ := checkK_one.1 (by simpa using hc)
    obtain ⟨s, hs⟩ := known_ok hh hg
    rw [hg.okTB, okLearn_of (kn_start l (fun _ => True)) hg hh, hs.some, decide_eq_true (by rw [hs.a]; have := hs.len; omega)]
    rfl
def s30 : Sp := .fn [.v (.sl Term), .v (.sl I)] fun x => (true, rK (allK x.1 x.2).1 (allK x.1 x.2).2)
theorem g30 : GoodS Try.prog N30 s30 := by
  refine goodG Γ30ok H30 rfl (by kernel_rfl) noL 3 [] (noLoops (by kernel_rfl)) [.v (.sl Term), .v (.sl I)] (by decide) [.sl true I] _ (fun x r hw e => ?_) (fun x hx => by cases hx; decide)
  obtain ⟨l, h⟩ := x
  cases e
  exact all_run l h
def s30h : Sp := .io fun a p gs => match a, p, gs with
  | [.one (.sl false (.pair (.int .i64) (.pair (.int .i64) (.int .i64))) none l), .one (.sl false (.int .i64) none h)], 0, [] =>
    some (true, .tup [(false, [.hot 0 none]), (false, [.int .i64 (allK l h).2])], [.arr true I (allK l h).1])
  | _, _, _ => none
theorem g30h : GoodS Try.prog N30 s30h := by
  refine GoodS.io (callable_of H30 (bd rfl) (by kernel_rfl)) fun a p gs r gs' hw1 hw2 h => ?_
  clear hw1 hw2
  split at h
  · rename_i l h'
    cases h
    exact goodIO0 Γ30ok H30 rfl noL2 3 [] (noLoops2 (by kernel_rfl)) [.one (.sl false Term none l), .one (.sl false I none h')] rfl (by show 2 ≤ _; decide) [.arr I, .id] (all_runh l h') (fun x hx => by cases hx; decide)
  · cases h
/-! ### Knows -/
def Γ32 : Orc := orc [(N30, s30), (N66, s66)]
def rB (b : Bool) (e : Int) : AV := .tup [(false, [.bool b]), (false, [.int .i64 e])]
def badK (l : List Term.D) (h : List Int) (i : Int) : Bool := bif bif (allK l h).2 != 0 then true else decide (i < 0) then true else decide (i ≥ (l.length : Int))
theorem r32 (l : List Term.D) (h : List Int) (i : Int) : run Γ32 noL [] F32 [.one (.sl false Term none l), .one (.sl false I none h), .one (.int .i64 i)] [] =
    bif badK l h i then some (rB false 1) else bif decide ((allK l h).1.length ≤ 1000000) then some (rB (foundB (allK l h).1 i) 0) else none := by kernel_rfl
def knowsK (l : List Term.D) (h : List Int) (i : Int) : Bool × Int := bif badK l h i then (false, 1) else (foundB (allK l h).1 i, 0)
theorem allK_len (l : List Term.D) (h : List Int) : (allK l h).1.length ≤ 65536 := by
  unfold allK
  cases hc : checkK l [h] != 0 with
  | true => simp
  | false =>
    obtain ⟨hh, hg⟩ := checkK_one.1 (by simpa using hc)
    exact known_len hh hg
def s32 : Sp := .fn [.v (.sl Term), .v (.sl I), .v I] fun x => (true, rB (knowsK x.1 x.2.1 x.2.2).1 (knowsK x.1 x.2.1 x.2.2).2)
theorem g32 : GoodS Try.prog N32 s32 := by
  refine good (.cons g30 (.cons g66 (.nil _))) H32 rfl (by kernel_rfl) noL [] (noLoops (by kernel_rfl)) [.v (.sl Term), .v (.sl I), .v I] (by decide) [] _ fun x r hw e => ?_
  obtain ⟨l, h, i⟩ := x
  cases e
  refine (r32 l h i).trans ?_
  have := allK_len l h
  rw [decide_eq_true (show (allK l h).1.length ≤ 1000000 by omega)]
  show _ = some (rB (knowsK l h i).1 (knowsK l h i).2)
  unfold knowsK
  cases badK l h i <;> rfl
/-! ### slices.Index -/
abbrev live79 : List (Nat × Dir) := [(0, .keep), (1, .keep), (4, .keep), (7, .keep), (8, .keep)]
def vs79 (xs : List Int) (t r n i : Int) : List AV := [.one (.sl false I none xs), .one (.int .i64 t), .one (.int .i64 r), .one (.int .i64 n), .one (.int .i64 i)]
noncomputable abbrev lo79 (Λ : Lam AV) (K : AE → List AV → Option AV) (fuel : Nat) (vs : List AV) : Option AV := loopN (aexec tb (orc []) Λ ⟨19, 0, [(0, live79)]⟩ (loop1 F79).2 0) 19 0 live79 K fuel vs
theorem step79 (xs : List Int) (t r n i : Int) (Λ : Lam AV) (K : AE → List AV → Option AV) (fuel : Nat) : lo79 Λ K (fuel + 1) (vs79 xs t r n i) =
    bif decide (i < n) then bif inB i xs.length then bif (fun _ => true) (kA xs i) then bif (fun y => t == y) (kA xs i) then K .ret (vs79 xs t i n i) else lo79 Λ K fuel (vs79 xs t r n (IntKind.i64.wrap (i + 1))) else none else none
    else K (.exit 0) (vs79 xs t r n i) := by kernel_rfl
def Λ79 : Lam AV := fun cur vs K =>
  match cur, vs with
  | 0, [.one (.sl false (.int .i64) none xs), .one (.int .i64 t), .one (.int .i64 r), .one (.int .i64 n), .one (.int .i64 0)] =>
    bif decide (n = xs.length) && decide (n ≤ 9223372036854775807) then
      (bif decide (idxFrom (fun y => t == y) xs 0 < 0) then K (.exit 0) (vs79 xs t r n n) else K .ret (vs79 xs t (idxFrom (fun y => t == y) xs 0) n (idxFrom (fun y => t == y) xs 0)))
    else none
  | _, _ => none
theorem loop79 : LoopP tb (orc []) Λ79 ⟨19, 0, [(0, live79)]⟩ (loop1 F79) := by
  intro vs K out h
  have hcur : (loop1 F79).1 = 0 := by kernel_rfl
  rw [hcur] at h ⊢
  unfold Λ79 at h
  split at h
  · rename_i xs t r n _
    cases hc : (decide (n = xs.length) && decide (n ≤ 9223372036854775807)) with
    | false => rw [hc] at h; cases h
    | true =>
      rw [hc] at h
      simp only [cond_true] at h
      simp only [Bool.and_eq_true, decide_eq_true_eq] at hc
      obtain ⟨rfl, hmax⟩ := hc
      exact findC (ok := fun _ => true) (ans := fun y => t == y) (F := fun fuel j => lo79 Λ79 K fuel (vs79 xs t r xs.length j)) (Kx := fun j => K (.exit 0) (vs79 xs t r xs.length j)) (Kr := fun j => K .ret (vs79 xs t j xs.length j))
        (fun fuel j => step79 xs t r xs.length j Λ79 K fuel) rfl hmax (List.all_eq_true.2 fun _ _ => rfl) h
  · cases h
theorem r79 (xs : List Int) (t : Int) : run (orc []) Λ79 [(0, live79)] F79 [.one (.sl false I none xs), .one (.int .i64 t)] [] =
    bif decide ((xs.length : Int) = xs.length) && decide ((xs.length : Int) ≤ 9223372036854775807) then
      bif decide (idxFrom (fun y => t == y) xs 0 < 0) then some (.one (.int .i64 (-1))) else some (.one (.int .i64 (idxFrom (fun y => t == y) xs 0))) else none := by kernel_rfl
def idxI (xs : List Int) (t : Int) : Int := idxFrom (fun y => t == y) xs 0
def s79 : Sp := .fn [.v (.sl I), .v I] fun x => (true, .one (.int .i64 (idxI x.1 x.2)))
theorem g79 : GoodS Try.prog N79 s79 := by
  refine good (OrcOk.nil _) H79 rfl (by kernel_rfl) Λ79 [(0, live79)] (oneLoop (p0 := loop1 F79) (by kernel_rfl) loop79) [.v (.sl I), .v I] (by decide) [] _ fun x r hw e => ?_
  obtain ⟨xs, t⟩ := x
  cases e
  refine (r79 xs t).trans ?_
  have hmax : (xs.length : Int) ≤ 9223372036854775807 := by have : xs.length ≤ 9223372036854775807 := hw.1.1; omega
  rw [decide_eq_true hmax, decide_eq_true rfl]
  show _ = some (AV.one (SV.int .i64 (idxI xs t)))
  unfold idxI
  rcases idxFrom_ge (fun y => t == y) xs 0 with h | h
  · rw [h]; rfl
  · rw [decide_eq_false (show ¬ idxFrom (fun y => t == y) xs 0 < 0 by omega)]; rfl
/-! ### Why -/
noncomputable def Γ41 : Orc := orcZ (some 42) (fun T n => Nat.beq T intsT && Nat.beq n 1) [(N61, s61), (N62, s62), (N63, s63), (N64, s64), (N79, s79)]
theorem Γ41ok : OrcOk Try.prog Γ41 := OrcOk.toZ _ _ (.cons g61 (.cons g62 (.cons g63 (.cons g64 (.cons g79 (.nil _))))))
def rKf (l : List Int) (e : Int) : AV := .tup [(false, [.sl false I none l]), (false, [.int .i64 e])]
def idK (l : List Term.D) (h : List Int) (i : Int) : Int := idxI (knA l h).2 i
def cutK (l : List Term.D) (h : List Int) (i : Int) : Int := IntKind.i64.wrap (idK l h i + 1)
theorem r41 (l : List Term.D) (h : List Int) (i : Int) : runG Γ41 noL 3 [] F41 [.one (.sl false Term none l), .one (.sl false I none h), .one (.int .i64 i)] [.sl false I] =
    bif checkK l [h, [i]] != 0 then some (rKf [] (checkK l [h, [i]])) else bif okTB l then bif okLearn (List.replicate l.length false, []) h then bif (knO l h).isSome then
      bif decide (idK l h i < 0) then some (rKf [] 4) else bif decide (0 ≤ cutK l h i) && decide (cutK l h i ≤ ((knA l h).2.length : Int)) then some (rKf ((knA l h).2.take (cutK l h i).toNat) 0) else none
    else none else none else none := by kernel_rfl
def whyK (l : List Term.D) (h : List Int) (i : Int) : List Int × Int :=
  bif checkK l [h, [i]] != 0 then ([], checkK l [h, [i]]) else bif decide (idK l h i < 0) then ([], 4) else ((knA l h).2.take ((idK l h i).toNat + 1), 0)
theorem idxFrom_bd (p : Int → Bool) : ∀ (xs : List Int) (i : Int), idxFrom p xs i = -1 ∨ (i ≤ idxFrom p xs i ∧ idxFrom p xs i < i + xs.length) := by
  intro xs
  induction xs with
  | nil => intro i; exact .inl rfl
  | cons x xs ih =>
    intro i
    simp only [idxFrom, List.length_cons]
    cases p x with
    | true => exact .inr ⟨Int.le_refl _, by simp only [cond_true]; omega⟩
    | false =>
      simp only [cond_false]
      rcases ih (i + 1) with h | h
      · exact .inl h
      · exact .inr ⟨by omega, by omega⟩
theorem checkK_two {l : List Term.D} {h : List Int} {i : Int} : checkK l [h, [i]] = 0 ↔ OkP l h ∧ InL l i ∧ GoodL l := by
  rw [checkK_iff]
  constructor
  · rintro ⟨h1, h2⟩
    exact ⟨h1 h (by simp), (h1 [i] (by simp)).2 i (by simp), h2⟩
  · rintro ⟨h1, h2, h3⟩
    refine ⟨fun x hx => ?_, h3⟩
    simp only [List.mem_cons, List.not_mem_nil, or_false] at hx
    rcases hx with rfl | rfl
    · exact h1
    · exact ⟨by simp, fun y hy => by rw [List.mem_singleton.1 hy]; exact h2⟩
def s41 : Sp := .fn [.v (.sl Term), .v (.sl I), .v I] fun x => (true, rKf (whyK x.1 x.2.1 x.2.2).1 (whyK x.1 x.2.1 x.2.2).2)
theorem g41 : GoodS Try.prog N41 s41 := by
  refine goodG Γ41ok H41 rfl (by kernel_rfl) noL 3 [] (noLoops (by kernel_rfl)) [.v (.sl Term), .v (.sl I), .v I] (by decide) [.sl false I] _ (fun x r hw e => ?_) (fun x hx => by cases hx; decide)
  obtain ⟨l, h, i⟩ := x
  cases e
  refine (r41 l h i).trans ?_
  show _ = some (rKf (whyK l h i).1 (whyK l h i).2)
  unfold whyK
  cases hc : checkK l [h, [i]] != 0 with
  | true => rfl
  | false =>
    obtain ⟨hh, _, hg⟩ := checkK_two.1 (by simpa using hc)
    obtain ⟨s, hs⟩ := known_ok hh hg
    rw [hg.okTB, okLearn_of (kn_start l (fun _ => True)) hg hh, hs.some]
    simp only [cond_false, cond_true, Option.isSome_some]
    cases hi : decide (idK l h i < 0) with
    | true => rfl
    | false =>
      have hlen := hs.len
      rw [← hs.a] at hlen
      have hi := of_decide_eq_false hi
      have hb := idxFrom_bd (fun y => i == y) (knA l h).2 0
      change idK l h i = -1 ∨ (0 ≤ idK l h i ∧ idK l h i < 0 + ((knA l h).2.length : Int)) at hb
      have e : cutK l h i = idK l h i + 1 := by unfold cutK; exact wrap64 (by omega) (by omega)
      rw [e, decide_eq_true (show 0 ≤ idK l h i + 1 by omega), decide_eq_true (show idK l h i + 1 ≤ ((knA l h).2.length : Int) by omega), show (idK l h i + 1).toNat = (idK l h i).toNat + 1 by omega]
      rfl
/-! ### Shut -/
noncomputable def Γ33 : Orc := orcL 34 [(N61, s61), (N62, s62), (N63, s63), (N68, s68), (N67, s67k1)]
theorem Γ33ok : OrcOk Try.prog Γ33 := OrcOk.toL 34 (.cons g61 (.cons g62 (.cons g63 (.cons g68 (.cons g67k1 (.nil _))))))
abbrev live33 : List (Nat × Dir) := [(4, .keep), (5, .keep), (7, .keep), (22, .keep), (23, .keep), (24, .keep), (34, .keep), (35, .keep), (36, .keep)]
def vs33 (l : List Term.D) (us : List (List Int)) (s : Kn) (h : List Int) (n i : Int) (x : Bool) (e : Int) : List AV :=
  [.one (.bool x), .one (.int .i64 e), bxM 34, .one (.sl false I none h), .one (.int .i64 n), .one (.int .i64 i), .gho (obM 35 36 l us).ov, .gho (.arr false .bool s.1), .gho (.arr false I s.2)]
noncomputable abbrev lo33 (Λ : Lam AV) (K : AE → List AV → Option AV) (fuel : Nat) (vs : List AV) : Option AV := loopN (aexec tb Γ33 Λ ⟨34, 3, [(0, live33)]⟩ (loop1 F33).2 0) 34 3 live33 K fuel vs
theorem step33 (l : List Term.D) (us : List (List Int)) (s : Kn) (h : List Int) (n i : Int) (x : Bool) (e : Int) (Λ : Lam AV) (K : AE → List AV → Option AV) (fuel : Nat) : lo33 Λ K (fuel + 1) (vs33 l us s h n i x e) =
    bif decide (i < n) then bif inB i h.length then bif next68ok l s.1 us (kA h i) then bif (nextL l s.1 us (kA h i)).all (fun k => inB k s.1.length) then
      bif (nextL l s.1 us (kA h i)).any (ans1 s) then K .ret (vs33 l us s h n i false 0) else lo33 Λ K fuel (vs33 l us s h n (IntKind.i64.wrap (i + 1)) x e)
    else none else none else none else K (.exit 0) (vs33 l us s h n i x e) := by kernel_rfl
def ok33 (l : List Term.D) (us : List (List Int)) (s : Kn) (k : Int) : Bool := next68ok l s.1 us k && (nextL l s.1 us k).all fun k => inB k s.1.length
def not33 (l : List Term.D) (us : List (List Int)) (s : Kn) (k : Int) : Bool := (nextL l s.1 us k).any (ans1 s)
def Λ33 : Lam AV := fun cur vs K =>
  match cur, vs with
  | 0, [.one (.bool x), .one (.int .i64 e), .own [.ptr 34 0], .one (.sl false (.int .i64) none h), .one (.int .i64 n), .one (.int .i64 0), .gho (.own [.sl false (.pair (.int .i64) (.pair (.int .i64) (.int .i64))) none l, .hot 35 none, .hot 36 none, .sl false (.sl (.int .i64)) none us]), .gho (.arr false .bool b), .gho (.arr false (.int .i64) c)] =>
    bif decide (n = h.length) && (decide (n ≤ 9223372036854775807) && h.all (ok33 l us (b, c))) then
      (bif decide (idxFrom (not33 l us (b, c)) h 0 < 0) then K (.exit 0) (vs33 l us (b, c) h n n x e) else K .ret (vs33 l us (b, c) h n (idxFrom (not33 l us (b, c)) h 0) false 0))
    else none
  | _, _ => none
theorem loop33 : LoopP tb Γ33 Λ33 ⟨34, 3, [(0, live33)]⟩ (loop1 F33) := by
  intro vs K out h
  have hcur : (loop1 F33).1 = 0 := by kernel_rfl
  rw [hcur] at h ⊢
  unfold Λ33 at h
  split at h
  · rename_i x e h' n l us b c _
    cases hc : (decide (n = h'.length) && (decide (n ≤ 9223372036854775807) && h'.all (ok33 l us (b, c)))) with
    | false => rw [hc] at h; cases h
    | true =>
      rw [hc] at h
      simp only [cond_true] at h
      simp only [Bool.and_eq_true, decide_eq_true_eq] at hc
      obtain ⟨rfl, hmax, hall⟩ := hc
      exact findC (ok := ok33 l us (b, c)) (ans := not33 l us (b, c)) (F := fun fuel j => lo33 Λ33 K fuel (vs33 l us (b, c) h' h'.length j x e)) (Kx := fun j => K (.exit 0) (vs33 l us (b, c) h' h'.length j x e)) (Kr := fun j => K .ret (vs33 l us (b, c) h' h'.length j false 0))
        (fun fuel j => by
          refine (step33 l us (b, c) h' h'.length j x e Λ33 K fuel).trans ?_
          unfold ok33 not33
          cases next68ok l (b, c).1 us (kA h' j) <;> cases (nextL l (b, c).1 us (kA h' j)).all (fun k => inB k (b, c).1.length) <;> rfl) rfl hmax hall h
  · cases h
theorem r33 (l : List Term.D) (h : List Int) : runG Γ33 Λ33 3 [(0, live33)] F33 [.one (.sl false Term none l), .one (.sl false I none h)] [] =
    bif checkK l [h] != 0 then some (rB false (checkK l [h])) else bif okTB l then bif okLearn (List.replicate l.length false, []) h then
      bif decide ((h.length : Int) = h.length) && (decide ((h.length : Int) ≤ 9223372036854775807) && h.all (ok33 l (useL l) (kn0 l h))) then
        bif decide (idxFrom (not33 l (useL l) (kn0 l h)) h 0 < 0) then some (rB true 0) else some (rB false 0)
      else none else none else none := by kernel_rfl
def shutK (l : List Term.D) (h : List Int) : Bool × Int := bif checkK l [h] != 0 then (false, checkK l [h]) else (!h.any (not33 l (useL l) (kn0 l h)), 0)
theorem idxFrom_lt (p : Int → Bool) : ∀ (xs : List Int) (i : Int), 0 ≤ i → decide (idxFrom p xs i < 0) = !xs.any p := by
  intro xs i hi
  rw [← idx_any p xs i hi]
  rcases Int.lt_or_le (idxFrom p xs i) 0 with h | h
  · rw [decide_eq_true h, decide_eq_false (by omega)]; rfl
  · rw [decide_eq_false (by omega), decide_eq_true (by omega)]; rfl
def s33 : Sp := .fn [.v (.sl Term), .v (.sl I)] fun x => (true, rB (shutK x.1 x.2).1 (shutK x.1 x.2).2)
theorem g33 : GoodS Try.prog N33 s33 := by
  refine goodG Γ33ok H33 rfl (by kernel_rfl) Λ33 3 [(0, live33)] (oneLoop (p0 := loop1 F33) (by kernel_rfl) loop33) [.v (.sl Term), .v (.sl I)] (by decide) [] _ (fun x r hw e => ?_) (fun x hx => by cases hx; decide)
  obtain ⟨l, h⟩ := x
  cases e
  refine (r33 l h).trans ?_
  show _ = some (rB (shutK l h).1 (shutK l h).2)
  unfold shutK
  cases hc : checkK l [h] != 0 with
  | true => rfl
  | false =>
    obtain ⟨hh, hg⟩ := checkK_one.1 (by simpa using hc)
    obtain ⟨k1, k2⟩ := kn0_ok (l := l) hh
    have hall : h.all (ok33 l (useL l) (kn0 l h)) = true := List.all_eq_true.2 fun k hk => by
      have hk := hh.2 k hk
      unfold ok33
      rw [next_ok hg k1 hk, Bool.true_and]
      exact List.all_eq_true.2 fun y hy => by rw [k1.len]; exact inB_iff.2 (next_in hg (fun x H => Der.fol H) k1 hk y hy).1
    have := hh.1
    rw [hg.okTB, okLearn_of (kn_start l (fun _ => True)) hg hh, decide_eq_true rfl, decide_eq_true (show (h.length : Int) ≤ 9223372036854775807 by omega), hall, idxFrom_lt _ _ _ (Int.le_refl 0)]
    cases h.any (not33 l (useL l) (kn0 l h)) <;> rfl
/-! ### Is -/
noncomputable def Γ34 : Orc := orcZ (some 75) (fun T n => Nat.beq T intsT && Nat.beq n 1) [(N61, s61), (N62, s62f), (N63, s63), (N70, s70), (N67, s67k2)]
theorem Γ34ok : OrcOk Try.prog Γ34 := OrcOk.toZ _ _ (.cons g61 (.cons g62f (.cons g63 (.cons g70 (.cons g67k2 (.nil _))))))
abbrev live34 : List (Nat × Dir) := [(6, .keep), (7, .keep), (9, .keep), (10, .keep), (29, .keep), (30, .keep), (31, .keep), (75, .keep), (76, .keep), (77, .keep), (78, .keep), (79, .keep), (80, .keep)]
def vs34 (l : List Term.D) (us : List (List Int)) (s t : Kn) (h : List Int) (n i : Int) (x : Bool) (e : Int) : List AV :=
  [.one (.bool x), .one (.int .i64 e), .one (.ptr 75 0), bxM 78, .one (.sl false I none h), .one (.int .i64 n), .one (.int .i64 i), .gho (obM 76 77 l us).ov, .gho (.arr false .bool s.1), .gho (.arr false I s.2), .gho (obM 79 80 l us).ov, .gho (.arr false .bool t.1), .gho (.arr false I t.2)]
noncomputable abbrev lo34 (Λ : Lam AV) (K : AE → List AV → Option AV) (fuel : Nat) (vs : List AV) : Option AV := loopN (aexec tb Γ34 Λ ⟨75, 6, [(0, live34)]⟩ (loop1 F34).2 0) 75 6 live34 K fuel vs
noncomputable abbrev learn34 (l : List Term.D) (us : List (List Int)) (s t : Kn) (h : List Int) (n i : Int) (x : Bool) (e : Int) (Λ : Lam AV) (K : AE → List AV → Option AV) (fuel : Nat) : Option AV :=
  bif okLearn t [kA h i] then lo34 Λ K fuel (vs34 l us s (learnL t [kA h i]) h n (IntKind.i64.wrap (i + 1)) x e) else none
noncomputable abbrev after34 (l : List Term.D) (us : List (List Int)) (s t : Kn) (h : List Int) (n i : Int) (x : Bool) (e : Int) (Λ : Lam AV) (K : AE → List AV → Option AV) (fuel : Nat) (fol : Bool) : Option AV :=
  bif inB (kA h i) t.1.length then bif mAt t.1 (kA h i) then K .ret (vs34 l us s t h n i false 0) else
    bif inB (kA h i) s.1.length then bif !mAt s.1 (kA h i) then (bif !fol then K .ret (vs34 l us s t h n i false 0) else learn34 l us s t h n i x e Λ K fuel) else learn34 l us s t h n i x e Λ K fuel else none
  else none
theorem step34 (l : List Term.D) (us : List (List Int)) (s t : Kn) (h : List Int) (n i : Int) (x : Bool) (e : Int) (Λ : Lam AV) (K : AE → List AV → Option AV) (fuel : Nat) : lo34 Λ K (fuel + 1) (vs34 l us s t h n i x e) =
    bif decide (i < n) then bif inB i h.length then bif (madeO l t.1 (kA h i)).isSome then
      bif (madeO l t.1 (kA h i)).getD false then after34 l us s t h n i x e Λ K fuel true
      else bif inB (kA h i) us.length then bif (us.getD (Int.toNat (kA h i)) (Ty.int IntKind.i64).sl.dflt).all (ok71 l t) then
        after34 l us s t h n i x e Λ K fuel ((us.getD (Int.toNat (kA h i)) (Ty.int IntKind.i64).sl.dflt).any (ans2 l t (kA h i)))
      else none else none
    else none else none else K (.exit 0) (vs34 l us s t h n i x e) := by kernel_rfl
def rowU (us : List (List Int)) (k : Int) : List Int := us.getD (Int.toNat k) (Ty.int IntKind.i64).sl.dflt
def fol34 (l : List Term.D) (us : List (List Int)) (t : Kn) (k : Int) : Bool := bif (madeO l t.1 k).getD false then true else (rowU us k).any (ans2 l t k)
def okf34 (l : List Term.D) (us : List (List Int)) (s t : Kn) (k : Int) : Bool :=
  (madeO l t.1 k).isSome && ((bif (madeO l t.1 k).getD false then true else inB k us.length && (rowU us k).all (ok71 l t)) && (inB k t.1.length && (inB k s.1.length && okLearn t [k])))
def bad34 (l : List Term.D) (us : List (List Int)) (s t : Kn) (k : Int) : Bool := bif mAt t.1 k then true else bif !mAt s.1 k then !fol34 l us t k else false
theorem step34b {l : List Term.D} {us : List (List Int)} {s t : Kn} {h : List Int} {n i : Int} {x : Bool} {e : Int} {Λ : Lam AV} {K : AE → List AV → Option AV} {fuel : Nat} (h1 : decide (i < n) = true) (h2 : inB i h.length = true) (h3 : okf34 l us s t (kA h i) = true) :
    lo34 Λ K (fuel + 1) (vs34 l us s t h n i x e) = bif bad34 l us s t (kA h i) then K .ret (vs34 l us s t h n i false 0) else lo34 Λ K fuel (vs34 l us s (learnL t [kA h i]) h n (IntKind.i64.wrap (i + 1)) x e) := by
  rw [step34, h1, h2]
  simp only [okf34, Bool.and_eq_true] at h3
  obtain ⟨a1, a2, a3, a4, a5⟩ := h3
  unfold bad34 fol34
  rw [a1]
  simp only [cond_true]
  cases hm : (madeO l t.1 (kA h i)).getD false with
  | true =>
    simp only [cond_true]
    unfold after34 learn34
    rw [a3, a4, a5]
    cases mAt t.1 (kA h i) <;> cases mAt s.1 (kA h i) <;> rfl
  | false =>
    rw [hm] at a2
    simp only [cond_false, Bool.and_eq_true] at a2
    simp only [cond_false]
    rw [a2.1, show (us.getD (Int.toNat (kA h i)) (Ty.int IntKind.i64).sl.dflt).all (ok71 l t) = true from a2.2]
    simp only [cond_true]
    unfold after34 learn34
    rw [a3, a4, a5]
    unfold rowU
    cases mAt t.1 (kA h i) <;> cases mAt s.1 (kA h i) <;> cases (us.getD (Int.toNat (kA h i)) (Ty.int IntKind.i64).sl.dflt).any (ans2 l t (kA h i)) <;> rfl
/-- The steps, one by one. -/
def isR (l : List Term.D) (us : List (List Int)) (s : Kn) : List Int → Kn → Nat → Option (Bool × Kn × Nat)
  | [], t, j => some (true, t, j)
  | k :: r, t, j => bif okf34 l us s t k then bif bad34 l us s t k then some (false, t, j) else isR l us s r (learnL t [k]) (j + 1) else none
noncomputable def Λ34 : Lam AV := fun cur vs K =>
  match cur, vs with
  | 0, [.one (.bool x), .one (.int .i64 e), .one (.ptr 75 0), .own [.ptr 78 0], .one (.sl false (.int .i64) none h), .one (.int .i64 n), .one (.int .i64 0), .gho (.own [.sl false (.pair (.int .i64) (.pair (.int .i64) (.int .i64))) none l, .hot 76 none, .hot 77 none, .sl false (.sl (.int .i64)) none us]), .gho (.arr false .bool b), .gho (.arr false (.int .i64) c),
      .gho (.own [.sl false (.pair (.int .i64) (.pair (.int .i64) (.int .i64))) none l', .hot 79 none, .hot 80 none, .sl false (.sl (.int .i64)) none us']), .gho (.arr false .bool b'), .gho (.arr false (.int .i64) c')] =>
    bif decide (n = h.length) && (decide (n ≤ 9223372036854775807) && @decide (l' = l ∧ us' = us) (Classical.propDecidable _)) then
      (match isR l us (b, c) h (b', c') 0 with
      | some (true, t, j) => K (.exit 0) (vs34 l us (b, c) t h n j x e)
      | some (false, t, j) => K .ret (vs34 l us (b, c) t h n j false 0)
      | none => none)
    else none
  | _, _ => none
theorem isR_len {l : List Term.D} {us : List (List Int)} {s : Kn} : ∀ {h : List Int} {t t' : Kn} {j j' : Nat}, isR l us s h t j = some (true, t', j') → j' = j + h.length := by
  intro h
  induction h with
  | nil => intro t t' j j' e; cases e; rfl
  | cons k r ih =>
    intro t t' j j' e
    rw [isR] at e
    cases ho : okf34 l us s t k with
    | false => rw [ho] at e; cases e
    | true =>
      cases hb : bad34 l us s t k with
      | true => rw [ho, hb] at e; cases e
      | false => rw [ho, hb] at e; have := ih e; rw [List.length_cons]; omega
theorem loop34 : LoopP tb Γ34 Λ34 ⟨75, 6, [(0, live34)]⟩ (loop1 F34) := by
  intro vs K out h
  have hcur : (loop1 F34).1 = 0 := by kernel_rfl
  rw [hcur] at h ⊢
  unfold Λ34 at h
  split at h
  · rename_i x e h' n l us b c l' us' b' c' _
    cases hc : (decide (n = h'.length) && (decide (n ≤ 9223372036854775807) && @decide (l' = l ∧ us' = us) (Classical.propDecidable _))) with
    | false => rw [hc] at h; cases h
    | true =>
      rw [hc] at h
      simp only [cond_true] at h
      simp only [Bool.and_eq_true] at hc
      obtain ⟨h1, h2, h3⟩ := hc
      have h1 := of_decide_eq_true h1
      have hmax := of_decide_eq_true h2
      obtain ⟨rfl, rfl⟩ := @of_decide_eq_true _ (Classical.propDecidable _) h3
      subst h1
      have key : ∀ (m j : Nat) (t : Kn), j + m = h'.length →
          (match isR l' us' (b, c) (h'.drop j) t j with
            | some (true, t, j) => K (.exit 0) (vs34 l' us' (b, c) t h' h'.length j x e)
            | some (false, t, j) => K .ret (vs34 l' us' (b, c) t h' h'.length j false 0)
            | none => none) = some out → ∃ fuel, lo34 Λ34 K fuel (vs34 l' us' (b, c) t h' h'.length j x e) = some out := by
        intro m
        induction m with
        | zero =>
          intro j t hj h
          obtain rfl : j = h'.length := by omega
          rw [List.drop_length] at h
          exact ⟨1, by rw [step34, nlt_dec]; exact h⟩
        | succ m ih =>
          intro j t hj h
          have hlt : j < h'.length := by omega
          rw [kA_drop hlt, isR] at h
          cases ho : okf34 l' us' (b, c) t (kA h' j) with
          | false => rw [ho] at h; cases h
          | true =>
            rw [ho] at h
            simp only [cond_true] at h
            cases hb : bad34 l' us' (b, c) t (kA h' j) with
            | true =>
              rw [hb] at h
              exact ⟨1, by rw [step34b (lt_dec hlt) (inB_lt hlt) ho, hb]; exact h⟩
            | false =>
              rw [hb] at h
              obtain ⟨fuel, hf⟩ := ih (j + 1) _ (by omega) h
              refine ⟨fuel + 1, ?_⟩
              rw [step34b (lt_dec hlt) (inB_lt hlt) ho, hb, wrap64 (n := (j : Int) + 1) (by omega) (by omega)]
              exact hf
      exact key h'.length 0 (b', c') (by omega) h
  · cases h
noncomputable def cond34 (l : List Term.D) (us : List (List Int)) (h : List Int) : Bool := decide ((h.length : Int) = h.length) && (decide ((h.length : Int) ≤ 9223372036854775807) && @decide (l = l ∧ us = us) (Classical.propDecidable _))
theorem r34 (l : List Term.D) (h st : List Int) : runG Γ34 Λ34 6 [(0, live34)] F34 [.one (.sl false Term none l), .one (.sl false I none h), .one (.sl false I none st)] [] =
    bif checkK l [h, st] != 0 then some (rB false (checkK l [h, st])) else bif okTB l then bif okTB l then bif okLearn (List.replicate l.length false, []) h then
      bif cond34 l (useL l) st then
        (match isR l (useL l) (kn0 l h) st (List.replicate l.length false, []) 0 with
        | some (true, t, j) => some (rB true 0)
        | some (false, t, j) => some (rB false 0)
        | none => none)
      else none else none else none else none := by kernel_rfl
/-- A chain, behind what came ahead of it. -/
def Chain (l : List Term.D) (h : List Int) : List Int → List Int → Prop
  | _, [] => True
  | pre, k :: r => k ∉ pre ∧ (k ∈ h ∨ Fol l (fun y => y ∈ pre) k) ∧ Chain l h (pre ++ [k]) r
theorem rowU_eq (l : List Term.D) (k : Int) : rowU (useL l) k = (useL l).getD k.toNat [] := rfl
theorem fol34_iff {l : List Term.D} (hg : GoodL l) {D : Int → Prop} {t : Kn} (h : KOk l D t) {k : Int} (hk : InL l k) : fol34 l (useL l) t k = true ↔ Fol l (fun y => y ∈ t.2) k := by
  unfold fol34
  have hm := made_ok hg h hk
  have ha : (rowU (useL l) k).any (ans2 l t k) = true ↔ ∃ w, InL l w ∧ kd l w = 5 ∧ w ∈ t.2 ∧ pa l w ∈ t.2 ∧ k = pb l w := by
    rw [List.any_eq_true]
    constructor
    · rintro ⟨u, hu, ha⟩
      rw [rowU_eq, uses_mem hg hk] at hu
      have ho := out_ok hg h hu.1
      have e : ans2 l t k u = bif pb l u == k then (outO l t.1 u).getD false else false := rfl
      rw [e] at ha
      cases hb : pb l u == k with
      | false => rw [hb] at ha; cases ha
      | true =>
        rw [hb] at ha
        obtain ⟨o1, o2, o3⟩ := ho.2.1 ha
        exact ⟨u, hu.1, o1, o2, o3, (eq_of_beq hb).symm⟩
    · rintro ⟨w, h1, h2, h3, h4, h5⟩
      refine ⟨w, by rw [rowU_eq, uses_mem hg hk]; exact ⟨h1, .inr ⟨h2, h5.symm⟩⟩, ?_⟩
      have e : ans2 l t k w = bif pb l w == k then (outO l t.1 w).getD false else false := rfl
      rw [e, ← h5, beq_self_eq_true]
      exact (out_ok hg h h1).2.2 ⟨h2, h3, h4⟩
  cases hb : (madeO l t.1 k).getD false with
  | true =>
    obtain ⟨m1, m2, m3⟩ := hm.2.1 hb
    exact ⟨fun _ => .inl ⟨hk, m1, m2, m3⟩, fun _ => rfl⟩
  | false =>
    simp only [cond_false]
    rw [ha]
    refine ⟨.inr, fun H => H.resolve_left fun ⟨_, h2, h3, h4⟩ => ?_⟩
    rw [hm.2.2 ⟨h2, h3, h4⟩] at hb; cases hb
theorem okf34_of {l : List Term.D} (hg : GoodL l) {D D' : Int → Prop} {s t : Kn} (hs : KOk l D s) (h : KOk l D' t) {k : Int} (hk : InL l k) : okf34 l (useL l) s t k = true := by
  unfold okf34
  have hlen := nodup_in h.nd h.rng
  have hmx := hg.1
  rw [(made_ok hg h hk).1, h.len, hs.len, inB_iff.2 hk]
  have h5 : okLearn t [k] = true := by
    unfold okLearn
    rw [show kRoom (t.2.length + [k].length) = true from decide_eq_true (by simp; omega)]
    simp [h.len, inB_iff.2 hk]
  rw [h5]
  cases (madeO l t.1 k).getD false with
  | true => rfl
  | false =>
    have h6 : inB k (useL l).length = true := inB_iff.2 ⟨hk.1, by have := hk.2; unfold useL; rw [useU_len]; exact this⟩
    have h7 : (rowU (useL l) k).all (ok71 l t) = true := List.all_eq_true.2 fun u hu => by
      rw [rowU_eq, uses_mem hg hk] at hu
      unfold ok71
      rw [inB_iff.2 hu.1, (out_ok hg h hu.1).1]; rfl
    rw [h6, h7]; rfl
theorem isR_spec {l : List Term.D} (hg : GoodL l) {h : List Int} (hh : OkP l h) : ∀ (r : List Int) {t : Kn} (j : Nat), KOk l (fun _ => True) t → (∀ k ∈ r, InL l k) → ∃ b t' j', isR l (useL l) (kn0 l h) r t j = some (b, t', j') ∧ (b = true ↔ Chain l h t.2 r) := by
  obtain ⟨k1, k2⟩ := kn0_ok (l := l) hh
  intro r
  induction r with
  | nil => intro t j ht _; exact ⟨true, t, j, rfl, ⟨fun _ => trivial, fun _ => rfl⟩⟩
  | cons k r ih =>
    intro t j ht hr
    have hk := hr k (by simp)
    rw [isR, okf34_of hg k1 ht hk]
    simp only [cond_true]
    have hbad : bad34 l (useL l) (kn0 l h) t k = false ↔ k ∉ t.2 ∧ (k ∈ h ∨ Fol l (fun y => y ∈ t.2) k) := by
      have hf := fol34_iff hg ht hk
      have hm := ht.mem k hk
      have hs := k1.mem k hk
      rw [k2] at hs
      unfold bad34
      cases h1 : mAt t.1 k with
      | true =>
        have := hm.1 h1
        simp [this]
      | false =>
        have hn : k ∉ t.2 := fun e => by rw [hm.2 e] at h1; cases h1
        cases h2 : mAt (kn0 l h).1 k with
        | true =>
          have := hs.1 h2
          simp [this, hn]
        | false =>
          have hn2 : k ∉ h := fun e => by rw [hs.2 e] at h2; cases h2
          cases h3 : fol34 l (useL l) t k with
          | true => simp [hn, hf.1 h3]
          | false =>
            have : ¬ Fol l (fun y => y ∈ t.2) k := fun e => by rw [hf.2 e] at h3; cases h3
            simp [hn, hn2, this]
    cases hb : bad34 l (useL l) (kn0 l h) t k with
    | true =>
      refine ⟨false, t, j, rfl, ⟨fun e => (by cases e), fun e => ?_⟩⟩
      rw [hbad.2 ⟨e.1, e.2.1⟩] at hb; cases hb
    | false =>
      obtain ⟨b1, b2⟩ := hbad.1 hb
      have he : learnL t [k] = (t.1.set k.toNat true, t.2 ++ [k]) := by
        show learn1 t k = _
        unfold learn1
        have : mAt t.1 k = false := by
          cases h1 : mAt t.1 k with
          | true => exact absurd ((ht.mem k hk).1 h1) b1
          | false => rfl
        rw [this]; rfl
      have ht' := (learnL_ok [k] ht (fun x hx => by rw [List.mem_singleton.1 hx]; exact hk) (fun _ _ => trivial)).1
      obtain ⟨b, t', j', e1, e2⟩ := ih (j + 1) ht' (fun x hx => hr x (by simp [hx]))
      refine ⟨b, t', j', e1, e2.trans ?_⟩
      rw [he]
      exact ⟨fun h => ⟨b1, b2, h⟩, fun h => h.2.2⟩
noncomputable def isK (l : List Term.D) (h st : List Int) : Bool × Int := bif checkK l [h, st] != 0 then (false, checkK l [h, st]) else (@decide (Chain l h [] st) (Classical.propDecidable _), 0)
theorem checkK_pair {l : List Term.D} {h st : List Int} : checkK l [h, st] = 0 ↔ OkP l h ∧ OkP l st ∧ GoodL l := by
  rw [checkK_iff]; simp [and_assoc]
noncomputable def s34 : Sp := .fn [.v (.sl Term), .v (.sl I), .v (.sl I)] fun x => (true, rB (isK x.1 x.2.1 x.2.2).1 (isK x.1 x.2.1 x.2.2).2)
theorem g34 : GoodS Try.prog N34 s34 := by
  refine goodG Γ34ok H34 rfl (by kernel_rfl) Λ34 6 [(0, live34)] (oneLoop (p0 := loop1 F34) (by kernel_rfl) loop34) [.v (.sl Term), .v (.sl I), .v (.sl I)] (by decide) [] _ (fun x r hw e => ?_) (fun x hx => by cases hx; decide)
  obtain ⟨l, h, st⟩ := x
  cases e
  refine (r34 l h st).trans ?_
  show _ = some (rB (isK l h st).1 (isK l h st).2)
  unfold isK
  cases hc : checkK l [h, st] != 0 with
  | true => rfl
  | false =>
    obtain ⟨hh, hst, hg⟩ := checkK_pair.1 (by simpa using hc)
    have hl := hst.1
    have h34 : cond34 l (useL l) st = true := by
      unfold cond34
      rw [decide_eq_true rfl, decide_eq_true (show (st.length : Int) ≤ 9223372036854775807 by omega), Bool.true_and, Bool.true_and]
      exact @decide_eq_true _ (Classical.propDecidable _) ⟨rfl, rfl⟩
    rw [hg.okTB, okLearn_of (kn_start l (fun _ => True)) hg hh, h34]
    simp only [cond_false, cond_true]
    obtain ⟨b, t', j', e1, e2⟩ := isR_spec hg hh st 0 (kn_start l (fun _ => True)) hst.2
    rw [e1]
    cases b with
    | true =>
      have : @decide (Chain l h [] st) (Classical.propDecidable _) = true := @decide_eq_true _ (Classical.propDecidable _) (e2.1 rfl)
      rw [this]
    | false =>
      have : @decide (Chain l h [] st) (Classical.propDecidable _) = false := @decide_eq_false _ (Classical.propDecidable _) (fun e => by have := e2.2 e; cases this)
      rw [this]
end Go.AM.Seat
