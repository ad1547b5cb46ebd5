import Derived.Test.YthnonmlhgafalaaGreatVM19
import Derived.Test.YthnonmlhgafalaaGreatVM21
import Derived.Test.YthnonmlhgafalaaGreatVM32
set_option linter.unusedVariables false
set_option linter.unusedSimpArgs false
set_option maxRecDepth 100000
namespace Go.AM.Seat
open Go Go.AM Go.Proofs
abbrev live834 : List (Nat × Dir) := [(1, .keep), (4, .keep), (7, .keep), (8, .keep), (9, .keep)]
def vs834 (x : Int) (r : Bool) (u : List Int) (n j : Int) : List AV := [.one (.int .u64 x), .one (.bool r), .one (.sl false U none u), .one (.int .i64 n), .one (.int .i64 j)]
noncomputable abbrev lo834 (Λ : Lam AV) (K : AE → List AV → Option AV) (fuel : Nat) (vs : List AV) : Option AV := loopN (aexec tb (orc []) Λ ⟨17, 0, [(0, live834)]⟩ (loop1 F834).2 0) 17 0 live834 K fuel vs
theorem step834 (x : Int) (u : List Int) (n j : Int) (Λ : Lam AV) (K : AE → List AV → Option AV) (fuel : Nat) : lo834 Λ K (fuel + 1) (vs834 x false u n j) =
    bif decide (j < n) then bif inB j u.length then bif bsAu u j == x then K .ret (vs834 x true u n j) else lo834 Λ K fuel (vs834 x false u n (IntKind.i64.wrap (j + 1))) else none else K (.exit 0) (vs834 x false u n j) := by kernel_rfl
def Λ834 : Lam AV := fun _ vs K =>
  match vs with
  | [.one (.int .u64 x), .one (.bool false), .one (.sl false (.int .u64) none u), .one (.int .i64 n), .one (.int .i64 0)] =>
    bif decide (n = u.length) && decide ((u.length : Int) ≤ 9223372036854775807) then allK (fun j => K .ret (vs834 x true u n j)) (K (.exit 0) (vs834 x false u n n)) (fun j => bsAu u j == x) u.length 0 else none
  | _ => none
theorem loop834 : LoopP tb (orc []) Λ834 ⟨17, 0, [(0, live834)]⟩ (loop1 F834) := by
  intro vs K out e
  have hcur : (loop1 F834).1 = 0 := by kernel_rfl
  rw [hcur] at e ⊢
  unfold Λ834 at e
  split at e
  · rename_i x u n
    cases hc : decide (n = u.length) && decide ((u.length : Int) ≤ 9223372036854775807) with
    | false => rw [hc] at e; cases e
    | true =>
      rw [hc] at e
      simp only [cond_true] at e
      simp only [Bool.and_eq_true, decide_eq_true_eq] at hc
      obtain ⟨rfl, hmax⟩ := hc
      refine upLoop (α := Unit) (n := u.length) (F := fun fuel _ j => lo834 Λ834 K fuel (vs834 x false u u.length j))
        (G := fun j _ => allK (fun j => K .ret (vs834 x true u u.length j)) (K (.exit 0) (vs834 x false u u.length u.length)) (fun j => bsAu u j == x) (u.length - j) j)
        (fun fuel _ => ?_) (fun _ j hj => ?_) u.length 0 () out (by omega) e
      · simp only [step834, nlt_dec, cond_false, Nat.sub_self, allK]
      · have hm : u.length - j = (u.length - (j + 1)) + 1 := by omega
        have hstep : ∀ fuel, lo834 Λ834 K (fuel + 1) (vs834 x false u u.length j) = bif bsAu u j == x then K .ret (vs834 x true u u.length j) else lo834 Λ834 K fuel (vs834 x false u u.length ((j + 1 : Nat) : Int)) := by
          intro fuel
          rw [step834, lt_dec hj, inB_lt hj, wrap64 (n := (j : Int) + 1) (by omega) (by omega)]
          rfl
        cases hx : bsAu u j == x with
        | true => right; intro fuel; rw [hstep, hx]; simp only [hm, allK, hx, cond_true]
        | false =>
          left; refine ⟨(), fun fuel => ?_, ?_⟩
          · rw [hstep, hx]; rfl
          · simp only [hm, allK, hx, cond_false]
  · cases e
theorem r834 (u : List Int) (x : Int) : run (orc []) Λ834 [(0, live834)] F834 (encA [.v (.sl U), .v U] (u, x)) [] =
    bif decide ((u.length : Int) = u.length) && decide ((u.length : Int) ≤ 9223372036854775807) then allK (fun _ => some (.one (.bool true))) (some (.one (.bool false))) (fun j => bsAu u j == x) u.length 0 else none := by kernel_rfl
theorem anyK_any {α : Type} (d : α) (p : α → Bool) : ∀ (l k : List α), anyK (fun j : Nat => p ((k ++ l).getD ((j : Int)).toNat d)) l.length k.length = l.any p := by
  intro l
  induction l with
  | nil => intro k; rfl
  | cons a l ih =>
    intro k
    have := ih (k ++ [a])
    rw [List.length_append, List.append_assoc] at this
    rw [List.length_cons, anyK, List.any_cons]
    have e : p ((k ++ a :: l).getD ((k.length : Int)).toNat d) = p a := by rw [Int.toNat_natCast]; simp
    rw [e]
    have this : anyK (fun j : Nat => p ((k ++ a :: l).getD ((j : Int)).toNat d)) l.length (k.length + 1) = l.any p := this
    rw [this]
    cases p a <;> rfl
def s834 : Sp := .fn [.v (.sl U), .v U] fun x => (true, .one (.bool (x.1.any fun y => (y : Int) == x.2)))
theorem g834 : GoodS Tryz.prog N834 s834 := by
  refine good (.nil _) H834 rfl (by kernel_rfl) Λ834 [(0, live834)] (oneLoop (p0 := loop1 F834) (by kernel_rfl) loop834) [.v (.sl U), .v U] (by decide) [] _ fun x r hw e => ?_
  obtain ⟨u, x⟩ := x
  cases e
  refine (r834 u x).trans ?_
  have hmx : u.length ≤ 9223372036854775807 := hw.1.1
  rw [decide_eq_true (show (u.length : Int) = u.length from rfl), decide_eq_true (show (u.length : Int) ≤ 9223372036854775807 by omega), allK_two]
  have := anyK_any (0 : Int) (fun y => y == x) u []
  have e : anyK (fun j => bsAu u j == x) u.length 0 = u.any fun y => y == x := this
  rw [e]
  cases (u.any fun y => y == x) <;> rfl
def Γ823 : Orc := orc [(N826, s826), (N317, s317), (N830, s830)]
def seedA : Value.D := octV (1, 2)
def seedB : Value.D := octV (3, 4)
def liveB : Bool :=
  bif bif bif bif bif (sendV [] 2 2 seedA [0] seedB).2.2 == 0 then (makeV [] 2 2 seedA 0).2.2 == 0 else false then (makeV [] 2 2 seedA 1).2.2 == 0 else false then
    (openP [] 2 2 0 (makeV [] 2 2 seedA 0).1 (sendV [] 2 2 seedA [0] seedB).1).2.2 == 4 else false then (openP [] 2 2 1 (makeV [] 2 2 seedA 1).1 (sendV [] 2 2 seedA [0] seedB).1).2.2 == 0 else false then
    valEq (openP [] 2 2 1 (makeV [] 2 2 seedA 1).1 (sendV [] 2 2 seedA [0] seedB).1).1 seedB else false
theorem r823 : run Γ823 noL [] F823 [] [] = some (.one (.bool liveB)) := by kernel_rfl
theorem live_true : liveB = true := by kernel_rfl
def s823 : Sp := .fn [] fun _ => (true, .one (.bool true))
def oB7 (b : Bool) : Option AV := some (.one (.bool b))
def two : List Term.D := [(1, 0, 0), (1, 1, 0)]
theorem g823 : GoodS Tryz.prog N823 s823 := by
  refine good (.cons g826 (.cons g317 (.cons g830s (.nil _)))) H823 rfl (by kernel_rfl) noL [] (noLoops (by kernel_rfl)) [] (by decide) [] _ fun x r hw e => ?_
  cases e
  refine r823.trans ?_
  rw [live_true]
def Γ808 : Orc := orc [(N823, s823), (N322, s322), (N317, s317), (N824, s824), (N830, s830), (N315, s315), (N834, s834)]
@[reducible] def A8 : List AK := [.v Block, .v I, .v I, .v (.sl U), .v (.sl Block), .v U]
abbrev live808 : List (Nat × Dir) := [(1, .keep), (2, .keep), (3, .keep), (4, .keep), (5, .keep), (13, .keep), (14, .keep), (16, .keep), (17, .keep), (20, .arr Value), (77, .keep), (78, .keep)]
def vs808 (h k : Int) (u : List Int) (vs : List Block.D) (i : Int) (c : List Subset.D) (m : Value.D) (es : List Entry.D) (o : List Value.D) (n j : Int) : List AV :=
  [.one (.int .i64 h), .one (.int .i64 k), .one (.sl false U none u), .one (.sl false Block none vs), .one (.int .u64 i), .one (.bool true), .one (.sl true Subset none c), .own (enc Value false m), .one (.sl true Entry none es), .arr true Value o, .one (.int .i64 n), .one (.int .i64 j)]
noncomputable abbrev lo808 (Λ : Lam AV) (K : AE → List AV → Option AV) (fuel : Nat) (vs : List AV) : Option AV := loopN (aexec tb Γ808 Λ ⟨157, 0, [(0, live808)]⟩ (loop1 F808).2 0) 157 0 live808 K fuel vs
def bAt (vs : List Block.D) (j : Int) : Block.D := vs.getD j.toNat (Block : Ty).dflt
theorem step808 (h k : Int) (u : List Int) (vs : List Block.D) (i : Int) (c : List Subset.D) (m : Value.D) (es : List Entry.D) (o : List Value.D) (n j : Int) (Λ : Lam AV) (K : AE → List AV → Option AV) (fuel : Nat) : lo808 Λ K (fuel + 1) (vs808 h k u vs i c m es o n j) =
    bif decide (j < n) then bif inB j vs.length then bif decide ((o.length + 1) * 64 ≤ 140737488355328) then lo808 Λ K fuel (vs808 h k u vs i c m es (o ++ [octV (bAt vs j)]) n (IntKind.i64.wrap (j + 1))) else none else none else K (.exit 0) (vs808 h k u vs i c m es o n j) := by kernel_rfl
def octL (vs : List Block.D) (n : Nat) : List Value.D := (vs.take n).map octV
def g808 (vs : List Block.D) (c : List Subset.D) (n : Int) : Bool := decide (n = c.length) && (decide (c.length ≤ vs.length) && decide (vs.length ≤ 1000000))
def Λ808 : Lam AV := fun _ xs K =>
  match xs with
  | [.one (.int .i64 h), .one (.int .i64 k), .one (.sl false (.int .u64) none u), .one (.sl false (.pair (.int .u64) (.int .u64)) none vs), .one (.int .u64 i), .one (.bool true), .one (.sl true (.pair (.int .u64) (.int .u64)) none c), .own cs, .one (.sl true (.pair (.pair (.int .u64) (.int .u64)) (.pair .bool (.pair .bool (.pair (.pair (.int .u64) (.int .u64)) (.pair (.pair (.pair (.int .u64) (.int .u64)) (.pair (.int .u64) (.int .u64))) (.int .i64)))))) none es), .arr true (.pair .bool (.pair .bool (.pair (.pair (.int .u64) (.int .u64)) (.pair (.pair (.pair (.int .u64) (.int .u64)) (.pair (.int .u64) (.int .u64))) (.int .i64))))) [], .one (.int .i64 n), .one (.int .i64 0)] =>
    (match unV (.agg cs) with
    | some m => bif g808 vs c n then K (.exit 0) (vs808 h k u vs i c m es (octL vs n.toNat) n n) else none
    | none => none)
  | _ => none
theorem loop808 : LoopP tb Γ808 Λ808 ⟨157, 0, [(0, live808)]⟩ (loop1 F808) := by
  intro xs K out e
  have hcur : (loop1 F808).1 = 0 := by kernel_rfl
  rw [hcur] at e ⊢
  unfold Λ808 at e
  split at e
  · rename_i h k u vs i c cs es n
    split at e
    · rename_i m hm
      cases hc : g808 vs c n with
      | false => rw [hc] at e; cases e
      | true =>
        rw [hc] at e
        simp only [cond_true] at e
        unfold g808 at hc
        simp only [Bool.and_eq_true, decide_eq_true_eq] at hc
        obtain ⟨rfl, hv, hmax⟩ := hc
        rw [own_eq hm]
        rw [Int.toNat_natCast] at e
        have key : ∀ (q j : Nat), j + q = c.length → ∃ fuel, lo808 Λ808 K fuel (vs808 h k u vs i c m es (octL vs j) c.length j) = some out := by
          intro q
          induction q with
          | zero =>
            intro j hj
            obtain rfl : j = c.length := by omega
            exact ⟨1, by rw [step808, nlt_dec]; exact e⟩
          | succ q ih =>
            intro j hj
            obtain ⟨fuel, hf⟩ := ih (j + 1) (by omega)
            have hlt : j < c.length := by omega
            have hl : (octL vs j).length = j := by unfold octL; rw [List.length_map, List.length_take]; omega
            have hn : octL vs j ++ [octV (bAt vs (j : Int))] = octL vs (j + 1) := by
              have hjv : j < vs.length := by omega
              unfold octL bAt
              rw [List.take_succ_eq_append_getElem hjv, List.map_append, Int.toNat_natCast, List.getD_eq_getElem?_getD, List.getElem?_eq_getElem hjv, Option.getD_some]; rfl
            refine ⟨fuel + 1, ?_⟩
            rw [step808, lt_dec hlt, inB_lt (show j < vs.length by omega), hl, decide_eq_true (show (j + 1) * 64 ≤ 140737488355328 by omega), hn, wrap64 (n := (j : Int) + 1) (by omega) (by omega)]
            exact hf
        exact key c.length 0 (by omega)
    · cases e
  · cases e
def law8o (h k : Int) (u : List Int) (i : Int) (c : List Subset.D) (o : List Value.D) (x : WS) : Option AV :=
  bif (firstI h i c).2 != 0 then oB7 (bif x.2.2 == (firstI h i c).2 then u.any fun y => y == i else false) else
  bif x.2.2 == 0 then bif inB (firstI h i c).1 o.length then oB7 (valEq x.1 (o.getD (firstI h i c).1.toNat (Value : Ty).dflt)) else none else oB7 false
def law8s (h k : Int) (u : List Int) (i : Int) (c : List Subset.D) (es : List Entry.D) (o : List Value.D) (x : List Part.D × List Term.D × Int) : Option AV :=
  bif (bif (bif x.2.2 != 0 then true else (x.2.1.length : Int) != 0) then true else (x.1.length : Int) != c.length) then oB7 false else
  bif decide (([] : List Term.D).length ≤ 1000000) && decide (x.1.length ≤ 1000000) then law8o h k u i c o (openP [] h k i es x.1) else none
def law8 (a : Block.D) (h k : Int) (u : List Int) (vs : List Block.D) (i : Int) (c : List Subset.D) (y : List Entry.D × List Term.D × Int) : Option AV :=
  bif (bif (bif (coverI h k u).2 != 0 then true else y.2.2 != 0) then true else decide ((vs.length : Int) < c.length)) then oB7 true else
  bif g808 vs c c.length then bif decide (([] : List Term.D).length ≤ 1000000) && decide (c.length ≤ 1000000) then law8s h k u i c y.1 (octL vs (c.length : Int).toNat) (someV [] h k (octV a) c (octL vs (c.length : Int).toNat)) else none else none
theorem r808 (a : Block.D) (h k : Int) (u : List Int) (vs : List Block.D) (i : Int) : run Γ808 Λ808 [(0, live808)] F808 (encA A8 (a, h, k, u, vs, i)) [] =
    bif (bif (bif decide (h > 8) then true else decide ((u.length : Int) > 20)) then true else decide ((vs.length : Int) > 60)) then oB7 true else
    law8 a h k u vs i (coverI h k u).1 (makeV [] h k (octV a) i) := by kernel_rfl
theorem law808 {a : Block.D} {h k i : Int} {u : List Int} {vs : List Block.D} (ha : WF Block a) (hvs : ∀ x ∈ vs, WF Block x) (hu : ∀ y ∈ u, IntKind.u64.has y) (hi : IntKind.u64.has i) :
    (bif (bif (bif decide (h > 8) then true else decide ((u.length : Int) > 20)) then true else decide ((vs.length : Int) > 60)) then oB7 true else
    law8 a h k u vs i (coverI h k u).1 (makeV [] h k (octV a) i)) = oB7 true := by
  cases hh : decide (h > 8) with
  | true => rfl
  | false =>
  cases h2 : decide ((u.length : Int) > 20) with
  | true => rfl
  | false =>
  cases h3 : decide ((vs.length : Int) > 60) with
  | true => rfl
  | false =>
  have hh := of_decide_eq_false hh
  have h2 := of_decide_eq_false h2
  have h3 := of_decide_eq_false h3
  have h8 : h ≤ 8 := by omega
  have h20 : u.length ≤ 20 := by omega
  simp only [cond_false]
  unfold law8
  rcases Classical.em ((coverI h k u).2 = 0) with he | he
  case inr => rw [show ((coverI h k u).2 != 0) = true by simpa using he]; rfl
  rcases Classical.em ((makeV [] h k (octV a) i).2.2 = 0) with hz | hz
  case inr => rw [he, show ((makeV [] h k (octV a) i).2.2 != 0) = true by simpa using hz]; rfl
  cases h5 : decide ((vs.length : Int) < (coverI h k u).1.length) with
  | true => rw [he, hz]; rfl
  | false =>
  have h5 := of_decide_eq_false h5
  rw [he, hz]
  simp only [bne_self_eq_false, cond_false]
  obtain ⟨k1, k2, k3, k4, k5⟩ := cover_ok hu he
  generalize (coverI h k u).1 = c at *
  have hnil : In02 [] := fun x hx => by cases hx
  have z : IntKind.u64.has 0 := ⟨by decide, by decide⟩
  have z2 : IntKind.i64.has 0 := ⟨by decide, by decide⟩
  have hg : GoodL [] := checkL_iff.1 (by kernel_rfl)
  have d0 : Den false a 0 [] [] (octV a) := ⟨hg, hnil, rfl⟩
  obtain ⟨r, e1, e2, e3, hp, hn, hm⟩ := made_run d0 (by simp) h8 hz
  have hm := hm.oct hg
  have hgd : g808 vs c c.length = true := by
    unfold g808
    simp only [Bool.and_eq_true, decide_eq_true_eq]
    exact ⟨trivial, by omega, by omega⟩
  rw [hgd, decide_eq_true (show ([] : List Term.D).length ≤ 1000000 by simp), decide_eq_true (show c.length ≤ 1000000 by omega), Int.toNat_natCast]
  simp only [Bool.and_self, cond_true]
  have hol : (octL vs c.length).length = c.length := by unfold octL; rw [List.length_map, List.length_take]; omega
  have hva : ∀ q : Nat, q < c.length → WF Value (vaT (octL vs c.length) q) ∧ ∃ bw tw, Den false bw tw [] [] (vaT (octL vs c.length) q) := fun q hq => by
    have hqv : q < vs.length := by omega
    have e : vaT (octL vs c.length) (q : Int) = octV vs[q] := by
      unfold vaT
      rw [Int.toNat_natCast, List.getD_eq_getElem?_getD, List.getElem?_eq_getElem (by omega), Option.getD_some]
      unfold octL
      rw [List.getElem_map, List.getElem_take]
    rw [e]
    exact ⟨⟨trivial, trivial, hvs _ (List.getElem_mem hqv), ⟨⟨z, z⟩, ⟨z, z⟩⟩, z2⟩, vs[q], 0, hg, hnil, rfl⟩
  obtain ⟨out, s1, s4⟩ := some_oct d0 k3 (by omega) (by simp) hol hva
  rw [s1]
  unfold law8s
  have hout : out.length = c.length := s4.1
  simp only [bne_self_eq_false, cond_false]
  rw [show ((([] : List Term.D).length : Int) != 0) = false by rfl, show ((out.length : Int) != c.length) = false by rw [hout]; simp, decide_eq_true (show ([] : List Term.D).length ≤ 1000000 by simp), decide_eq_true (show out.length ≤ 1000000 by omega)]
  simp only [Bool.and_self, cond_true, cond_false]
  obtain ⟨f1, f2⟩ := first_in k3 (by omega) hi hn
  unfold law8o
  rcases Classical.em ((firstI h i c).2 = 0) with hf | hf
  · obtain ⟨own, ho⟩ := open_yes d0 (by simp) (by omega) h8 hi k3 hp hn hm s4 hf
    obtain ⟨q, q1, q2, _⟩ := first_has k3 (by omega) hi hf
    rw [ho, hf, q1, inB_lt (show q < (octL vs c.length).length by omega)]
    simp only [bne_self_eq_false, beq_self_eq_true, cond_true, cond_false]
    rw [show valEq (vaT (octL vs c.length) (q : Int)) ((octL vs c.length).getD ((q : Int)).toNat (Value : Ty).dflt) = true from valEq_iff.2 rfl]
  · have hin : i ∈ u := Classical.byContradiction fun hc => hf (f2 hc)
    have hany : u.any (fun y => y == i) = true := List.any_eq_true.2 ⟨i, hin, beq_self_eq_true i⟩
    rw [open_no s4 hf, show ((firstI h i c).2 != 0) = true by simpa using hf, hany]
    simp
theorem good808 (x : ADen A8) : Good Tryz.prog N808 (encA A8 x) (.one (.bool true)) := by
  have g : GoodS Tryz.prog N808 (.fn A8 fun _ => (true, .one (.bool true))) := by
    refine good (.cons g823 (.cons g322 (.cons g317 (.cons g824s (.cons g830s (.cons g315 (.cons g834 (.nil _)))))))) H808 rfl (by kernel_rfl) Λ808 [(0, live808)] (oneLoop (p0 := loop1 F808) (by kernel_rfl) loop808) A8 (by decide) [] _ fun x r hw e => ?_
    obtain ⟨a, h, k, u, vs, i⟩ := x
    cases e
    refine (r808 a h k u vs i).trans ?_
    exact law808 hw.1 hw.2.2.2.2.1.2 hw.2.2.2.1.2 hw.2.2.2.2.2
  exact g.2.1 _ _ (by kernel_rfl)
end Go.AM.Seat
