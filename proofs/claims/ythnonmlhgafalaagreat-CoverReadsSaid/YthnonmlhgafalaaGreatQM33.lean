import Derived.Test.YthnonmlhgafalaaGreatQM32
import Derived.Test.YthnonmlhgafalaaGreatQM19
import Derived.Test.YthnonmlhgafalaaGreatQM21
set_option linter.unusedVariables false
set_option linter.unusedSimpArgs false
set_option maxRecDepth 100000
namespace Go.AM.Seat
open Go Go.AM Go.Proofs
section
variable {sym : Bool} {b : Block.D} {t0 : Nat} {l : List Term.D} {m : Value.D}
theorem CovOk.may {h k : Int} {u : List Int} {c : List Subset.D} (hc : CovOk h k u c) (h0 : 0 ≤ h) : ∀ s ∈ c, mayI h k s = (true, 0) ∧ IntKind.u64.has s.1 ∧ IntKind.u64.has s.2 := fun s hs => by
  obtain ⟨i, j, rfl, o, hm⟩ := hc.ok s hs
  obtain ⟨_, u1, u2⟩ := sub_zero (a := h) (H := h.toNat) (by omega) o
  exact ⟨hm, u1, u2⟩
theorem op_true {v : Value.D} {bw : Block.D} {tw : Nat} (hd : Den sym bw tw l [] v) : opB l v sym = true := by
  unfold opB
  rw [walk_nil hd]
  show (v.1 == sym) = true
  rw [hd.facts.2.2.2.1]; simp
theorem some_law {h k : Int} {u : List Int} {c : List Subset.D} {v : List Value.D} (hd : Den sym b t0 l [] m) (hc : CovOk h k u c) (h0 : 0 ≤ h) (h8 : h ≤ 8) (hcl : c.length ≤ 400) (hl : l.length ≤ 2000) (hvl : v.length = c.length)
    (hv : ∀ q : Nat, q < c.length → WF Value (vaT v q) ∧ ∃ bw tw, Den sym bw tw l [] (vaT v q)) :
    ∃ r out, someV l h k m c v = (out, l ++ r, 0) ∧ r.length ≤ 7600 ∧ GoodL (l ++ r) ∧ Sent sym b t0 (l ++ r) h k c v out c.length := by
  have hn : noSome l m c v = false := by
    unfold noSome
    rw [hvl, hd.facts.2.2.2.1, op_true hd]
    simp
  have hb : badSome l h k m c v = false := by
    unfold badSome
    have e1 : c.any (fun s => oddS h k s) = false := by
      rw [List.any_eq_false]
      intro s hs
      unfold oddS
      rw [(hc.may h0 s hs).1]; decide
    have e2 : v.any (fun s => shutV l (flatV m) s) = false := by
      rw [List.any_eq_false]
      intro s hs
      obtain ⟨q, hq, rfl⟩ := List.getElem_of_mem hs
      obtain ⟨_, bw, tw, hw⟩ := hv q (by omega)
      have e : vaT v (q : Int) = v[q] := by unfold vaT; simp [hq]
      rw [e] at hw
      unfold shutV
      have : (flatV m).1 = sym := hd.facts.2.2.2.1
      rw [this, op_true hw]; decide
    rw [e1, e2]; rfl
  have hmul : c.length * (2 * h.toNat + 3) ≤ 400 * 19 := Nat.mul_le_mul hcl (by omega)
  obtain ⟨r, out, c1, c2, c3, c4⟩ := someR_run (b := b) (t0 := t0) (m := m) (hc.may h0) c.length 0 l (List.replicate c.length (Part : Ty).dflt) hd hv (by omega) (by omega) ⟨by simp, fun q hq => absurd hq (Nat.not_lt_zero q)⟩
  have hX : someX l h k m c v = (false, l ++ r, out, 0, 0 + c.length) := by
    unfold someX
    rw [Int.toNat_natCast]; exact c1
  refine ⟨r, out, ?_, by omega, c3, c4⟩
  unfold someV
  rw [hn, hb, hX]; rfl
theorem sent_fst {h k : Int} {c : List Subset.D} {v : List Value.D} {out : List Part.D} (hs : Sent sym b t0 l h k c v out c.length) : fstS out = c := by
  obtain ⟨h1, h2⟩ := hs
  refine List.ext_getElem (by simp [fstS, h1]) fun q q1 q2 => ?_
  obtain ⟨key, x, e, _⟩ := h2 q q2
  have hq : q < out.length := by omega
  rw [List.getD_eq_getElem?_getD, List.getElem?_eq_getElem hq, Option.getD_some] at e
  have e1 : (fstS out)[q] = out[q].1 := by simp [fstS]
  rw [e1, e]
  unfold sAt
  simp [q2]
theorem open_no {h k i : Int} {c : List Subset.D} {v : List Value.D} {out : List Part.D} {es : List Entry.D} (hs : Sent sym b t0 l h k c v out c.length) (hf : (firstI h i c).2 ≠ 0) : openP l h k i es out = (zeroV, [], (firstI h i c).2) := by
  unfold openP
  rw [sent_fst hs, show ((firstI h i c).2 != 0) = true by simpa using hf]; rfl
theorem first_has {h k i : Int} {u : List Int} {c : List Subset.D} (hc : CovOk h k u c) (h0 : 0 ≤ h) (hi : IntKind.u64.has i) (hf : (firstI h i c).2 = 0) : ∃ q : Nat, (firstI h i c).1 = q ∧ q < c.length ∧ sAt c q ∈ c ∧ hasI h (sAt c q) i = (true, 0) := by
  obtain ⟨f1, f2⟩ := firstI_in hf
  obtain ⟨q, hq⟩ := Int.eq_ofNat_of_zero_le f1
  have hlt : q < c.length := by omega
  have hs : sAt c q = c[q] := by unfold sAt; simp [hlt]
  have hmem : sAt c q ∈ c := by rw [hs]; exact List.getElem_mem hlt
  refine ⟨q, hq, hlt, hmem, ?_⟩
  unfold firstI at hf hq
  cases h1 : (leafI h i).2 != 0 with
  | true => rw [h1] at hf; exact absurd (show (1 : Int) = 0 from hf) (by decide)
  | false =>
    rw [h1] at hf hq
    simp only [cond_false] at hf hq
    have hlo : leafOk h.toNat i.toNat = true := by
      obtain ⟨c0, c1, _⟩ := hasU hi
      rw [← leaf_err (h := h) c0 c1, show (leafI h i).2 = 0 by simpa using h1]; rfl
    cases h2 : decide (idxP (badS h) c 0 ≥ 0) with
    | true => rw [h2] at hf; exact absurd (show (1 : Int) = 0 from hf) (by decide)
    | false =>
      rw [h2] at hf hq
      simp only [cond_false] at hf hq
      cases h3 : decide (idxP (hasS h i) c 0 < 0) with
      | true => rw [h3] at hf; exact absurd (show (4 : Int) = 0 from hf) (by decide)
      | false =>
        rw [h3] at hq
        have hq : idxP (hasS h i) c 0 = q := hq
        have h3 := of_decide_eq_false h3
        obtain ⟨_, _, a3, _⟩ := idxP_spec (hasS h i) c 0 (Int.le_refl 0) (by omega)
        rw [hq, Int.sub_zero] at a3
        have a3 : hasS h i (sAt c q) = true := a3
        rw [hc.has h0 hi hlo _ hmem] at a3
        obtain ⟨x, y, e, o, _⟩ := hc.ok _ hmem
        obtain ⟨_, u1, u2⟩ := sub_zero (a := h) (H := h.toNat) (by omega) o
        rw [e] at a3 ⊢
        rw [has_nat (s := ((x : Int), (y : Int))) u1 u2 hi]
        simp only [Int.toNat_natCast] at a3 ⊢
        rw [o, hlo, a3]; rfl
theorem open_yes {h k i : Int} {u : List Int} {c : List Subset.D} {v : List Value.D} {out : List Part.D} {es : List Entry.D} (hd : Den sym b t0 l [] m) (hl : l.length ≤ 50000) (h0 : 0 ≤ h) (h8 : h ≤ 8) (hi : IntKind.u64.has i) (hc : CovOk h k u c)
    (hp : (pairsL h k i).2 = 0) (hn : noPr h k i = false) (hm : Made sym b t0 l h k (pairsL h k i).1 es (pairsL h k i).1.length) (hs : Sent sym b t0 l h k c v out c.length) (hf : (firstI h i c).2 = 0) :
    ∃ own, openP l h k i es out = (vaT v (firstI h i c).1, own, 0) := by
  obtain ⟨q, hq, hlt, hmem, hh⟩ := first_has hc h0 hi hf
  obtain ⟨may, u1, u2⟩ := hc.may h0 _ hmem
  obtain ⟨key, r, k1, k2⟩ := key_run hd hl h8 u1 u2 hi hp hn hm may hh
  obtain ⟨key', x, e, d1, d2⟩ := hs.2 q hlt
  have hkk : key' = key := (d1.mono k2.good).uniq k2
  subst hkk
  have hu := unwrap_run k2 (d2.mono r)
  have hK : opK l h k i es (fstS out) = (key', l ++ r, 0) := by
    unfold opK
    rw [sent_fst hs, hq]; exact k1
  have hpA : pAt out (firstI h i c).1 = (sAt c q, x) := by
    unfold pAt
    rw [hq, Int.toNat_natCast]; exact e
  have hU : opU l h k i es out (fstS out) = (vaT v (firstI h i c).1, 0) := by
    unfold opU
    rw [hK, sent_fst hs, hpA, hq]; exact hu
  refine ⟨l ++ r, ?_⟩
  unfold openP
  rw [hU, hK, sent_fst hs, hf]; rfl
theorem first_in {h k i : Int} {u : List Int} {c : List Subset.D} (hc : CovOk h k u c) (h0 : 0 ≤ h) (hi : IntKind.u64.has i) (hn : noPr h k i = false) : (i ∈ u → firstI h i c = (0, 4)) ∧ (¬ i ∈ u → (firstI h i c).2 = 0) := by
  obtain ⟨nm, nl⟩ := noPr_ok hn
  obtain ⟨c0, c1, _⟩ := hasU hi
  have hl0 : (leafI h i).2 = 0 := by simpa using nl
  have hlo : leafOk h.toNat i.toNat = true := by rw [← leaf_err (h := h) c0 c1, hl0]; rfl
  have hone := hc.one h0 hi hlo
  have hbad := hc.bad h0
  constructor
  · intro hin
    rw [if_pos hin] at hone
    exact first_none hl0 hbad fun s hs => by simpa using List.countP_eq_zero.1 hone s hs
  · intro hin
    rw [if_neg hin] at hone
    obtain ⟨s, hs, hsp⟩ := List.countP_pos_iff.1 (show 0 < c.countP (hasS h i) by omega)
    rw [first_some hl0 hbad hs hsp]
end
abbrev live834 : List (Nat × Dir) := [(1, .keep), (4, .keep), (7, .keep), (8, .keep), (9, .keep)]
def vs834 (x : Int) (r : Bool) (u : List Int) (n j : Int) : List AV := [.one (.int .u64 x), .one (.bool r), .one (.sl false U none u), .one (.int .i64 n), .one (.int .i64 j)]
noncomputable abbrev lo834 (Λ : Lam AV) (K : AE → List AV → Option AV) (fuel : Nat) (vs : List AV) : Option AV := loopN (aexec tb (orc []) Λ ⟨17, 0, [(0, live834)]⟩ (loop1 F834).2 0) 17 0 live834 K fuel vs
theorem step834 (x : Int) (u : List Int) (n j : Int) (Λ : Lam AV) (K : AE → List AV → Option AV) (fuel : Nat) : lo834 Λ K (fuel + 1) (vs834 x false u n j) =
    bif decide (j < n) then bif inB j u.length then bif bsAu u j == x then K .ret (vs834 x true u n j) else lo834 Λ K fuel (vs834 x false u n (IntKind.i64.wrap (j + 1))) else none else K (.exit 0) (vs834 x false u n j) := by kernel_rfl
def Λ834 : Lam AV := fun _ vs K =>
  match vs with
  | [.one (.int .u64 x), .one (.bool false), .one (.sl false (.int .u64) none u), .one (.int .i64 n), .one (.int .i64 0)] =>
    bif decide (n = u.length) && decide ((u.length : Int) ≤ 9223372036854775807) then allK (fun j => K .ret (vs834 x true u n j)) (K (.exit 0) (vs834 x false u n n)) (fun j => bsAu u j == x) u.length 0 else none
  | _ => none
theorem loop834 : LoopP tb (orc []) Λ834 ⟨17, 0, [(0, live834)]⟩ (loop1 F834) := by
  intro vs K out e
  have hcur : (loop1 F834).1 = 0 := by kernel_rfl
  rw [hcur] at e ⊢
  unfold Λ834 at e
  split at e
  · rename_i x u n
    cases hc : decide (n = u.length) && decide ((u.length : Int) ≤ 9223372036854775807) with
    | false => rw [hc] at e; cases e
    | true =>
      rw [hc] at e
      simp only [cond_true] at e
      simp only [Bool.and_eq_true, decide_eq_true_eq] at hc
      obtain ⟨rfl, hmax⟩ := hc
      refine upLoop (α := Unit) (n := u.length) (F := fun fuel _ j => lo834 Λ834 K fuel (vs834 x false u u.length j))
        (G := fun j _ => allK (fun j => K .ret (vs834 x true u u.length j)) (K (.exit 0) (vs834 x false u u.length u.length)) (fun j => bsAu u j == x) (u.length - j) j)
        (fun fuel _ => ?_) (fun _ j hj => ?_) u.length 0 () out (by omega) e
      · simp only [step834, nlt_dec, cond_false, Nat.sub_self, allK]
      · have hm : u.length - j = (u.length - (j + 1)) + 1 := by omega
        have hstep : ∀ fuel, lo834 Λ834 K (fuel + 1) (vs834 x false u u.length j) = bif bsAu u j == x then K .ret (vs834 x true u u.length j) else lo834 Λ834 K fuel (vs834 x false u u.length ((j + 1 : Nat) : Int)) := by
          intro fuel
          rw [step834, lt_dec hj, inB_lt hj, wrap64 (n := (j : Int) + 1) (by omega) (by omega)]
          rfl
        cases hx : bsAu u j == x with
        | true => right; intro fuel; rw [hstep, hx]; simp only [hm, allK, hx, cond_true]
        | false =>
          left; refine ⟨(), fun fuel => ?_, ?_⟩
          · rw [hstep, hx]; rfl
          · simp only [hm, allK, hx, cond_false]
  · cases e
theorem r834 (u : List Int) (x : Int) : run (orc []) Λ834 [(0, live834)] F834 (encA [.v (.sl U), .v U] (u, x)) [] =
    bif decide ((u.length : Int) = u.length) && decide ((u.length : Int) ≤ 9223372036854775807) then allK (fun _ => some (.one (.bool true))) (some (.one (.bool false))) (fun j => bsAu u j == x) u.length 0 else none := by kernel_rfl
theorem anyK_any {α : Type} (d : α) (p : α → Bool) : ∀ (l k : List α), anyK (fun j : Nat => p ((k ++ l).getD ((j : Int)).toNat d)) l.length k.length = l.any p := by
  intro l
  induction l with
  | nil => intro k; rfl
  | cons a l ih =>
    intro k
    have := ih (k ++ [a])
    rw [List.length_append, List.append_assoc] at this
    rw [List.length_cons, anyK, List.any_cons]
    have e : p ((k ++ a :: l).getD ((k.length : Int)).toNat d) = p a := by rw [Int.toNat_natCast]; simp
    rw [e]
    have this : anyK (fun j : Nat => p ((k ++ a :: l).getD ((j : Int)).toNat d)) l.length (k.length + 1) = l.any p := this
    rw [this]
    cases p a <;> rfl
def s834 : Sp := .fn [.v (.sl U), .v U] fun x => (true, .one (.bool (x.1.any fun y => (y : Int) == x.2)))
theorem g834 : GoodS Tryz.prog N834 s834 := by
  refine good (.nil _) H834 rfl (by kernel_rfl) Λ834 [(0, live834)] (oneLoop (p0 := loop1 F834) (by kernel_rfl) loop834) [.v (.sl U), .v U] (by decide) [] _ fun x r hw e => ?_
  obtain ⟨u, x⟩ := x
  cases e
  refine (r834 u x).trans ?_
  have hmx : u.length ≤ 9223372036854775807 := hw.1.1
  rw [decide_eq_true (show (u.length : Int) = u.length from rfl), decide_eq_true (show (u.length : Int) ≤ 9223372036854775807 by omega), allK_two]
  have := anyK_any (0 : Int) (fun y => y == x) u []
  have e : anyK (fun j => bsAu u j == x) u.length 0 = u.any fun y => y == x := this
  rw [e]
  cases (u.any fun y => y == x) <;> rfl
def Γ823 : Orc := orc [(N826, s826), (N317, s317), (N830, s830)]
def seedA : Value.D := octV (1, 2)
def seedB : Value.D := octV (3, 4)
def liveB : Bool :=
  bif bif bif bif bif (sendV [] 2 2 seedA [0] seedB).2.2 == 0 then (makeV [] 2 2 seedA 0).2.2 == 0 else false then (makeV [] 2 2 seedA 1).2.2 == 0 else false then
    (openP [] 2 2 0 (makeV [] 2 2 seedA 0).1 (sendV [] 2 2 seedA [0] seedB).1).2.2 == 4 else false then (openP [] 2 2 1 (makeV [] 2 2 seedA 1).1 (sendV [] 2 2 seedA [0] seedB).1).2.2 == 0 else false then
    valEq (openP [] 2 2 1 (makeV [] 2 2 seedA 1).1 (sendV [] 2 2 seedA [0] seedB).1).1 seedB else false
theorem r823 : run Γ823 noL [] F823 [] [] = some (.one (.bool liveB)) := by kernel_rfl
theorem live_true : liveB = true := by kernel_rfl
def s823 : Sp := .fn [] fun _ => (true, .one (.bool true))
def oB7 (b : Bool) : Option AV := some (.one (.bool b))
def law7s (l : List Term.D) (root w : Value.D) (h k : Int) (u : List Int) (i : Int) (es : List Entry.D) (x : List Part.D × List Term.D × Int) : Option AV :=
  bif (bif x.2.2 != 0 then true else (x.1.length : Int) != (coverI h k u).1.length) then oB7 false else bif decide (x.2.1.length ≤ 1000000) && decide (x.1.length ≤ 1000000) then
    bif u.any fun y => y == i then oB7 (bif (openP x.2.1 h k i es x.1).2.2 == 4 then valEq (openP x.2.1 h k i es x.1).1 zeroV else false)
    else oB7 (bif (openP x.2.1 h k i es x.1).2.2 == 0 then valEq (openP x.2.1 h k i es x.1).1 w else false) else none
def law7 (l : List Term.D) (root w : Value.D) (h k : Int) (u : List Int) (i : Int) (y : List Entry.D × List Term.D × Int) : Option AV :=
  bif (bif (coverI h k u).2 != 0 then true else y.2.2 != 0) then oB7 true else bif decide (y.2.1.length ≤ 1000000) then law7s l root w h k u i y.1 (sendV y.2.1 h k root u w) else none
def Γ807 : Orc := orc [(N823, s823), (N322, s322), (N317, s317), (N826, s826), (N830, s830), (N834, s834)]
@[reducible] def A7 : List AK := [.v Block, .v Block, .v .bool, .v I, .v I, .v (.sl U), .v U]
def two : List Term.D := [(1, 0, 0), (1, 1, 0)]
theorem r807 (a b : Block.D) (y : Bool) (h k : Int) (u : List Int) (i : Int) : run Γ807 noL [] F807 (encA A7 (a, b, y, h, k, u, i)) [] =
    bif (bif decide (h > 8) then true else decide ((u.length : Int) > 20)) then oB7 true else
    bif y then law7 two (symV 0) (symV 1) h k u i (makeV two h k (symV 0) i) else law7 [] (octV a) (octV b) h k u i (makeV [] h k (octV a) i) := by kernel_rfl
theorem law7_true {sym : Bool} {b b' : Block.D} {t0 t0' : Nat} {l : List Term.D} {m w : Value.D} {h k i : Int} {u : List Int} (hd : Den sym b t0 l [] m) (hw : Den sym b' t0' l [] w) (hwf : WF Value w) (hl : l.length ≤ 2) (h8 : h ≤ 8) (h20 : u.length ≤ 20)
    (hu : ∀ y ∈ u, IntKind.u64.has y) (hi : IntKind.u64.has i) : law7 l m w h k u i (makeV l h k m i) = oB7 true := by
  unfold law7
  rcases Classical.em ((coverI h k u).2 = 0) with he | he
  case inr => rw [show ((coverI h k u).2 != 0) = true by simpa using he]; rfl
  rcases Classical.em ((makeV l h k m i).2.2 = 0) with hz | hz
  case inr => rw [he, show ((makeV l h k m i).2.2 != 0) = true by simpa using hz]; rfl
  obtain ⟨k1, k2, k3, k4, k5⟩ := cover_ok hu he
  have hcl := cover_len hu he h8 h20
  obtain ⟨r, e1, e2, e3, hp, hn, hm⟩ := made_run hd (by omega) h8 hz
  rw [he, hz, e1]
  simp only [bne_self_eq_false, cond_false]
  rw [decide_eq_true (show (l ++ r).length ≤ 1000000 by rw [List.length_append]; omega), cond_true]
  have hd1 := hd.mono e3
  have hw1 := hw.mono e3
  have hva : ∀ q : Nat, q < (coverI h k u).1.length → vaT (List.replicate (coverI h k u).1.length w) q = w := fun q hq => by
    unfold vaT
    rw [Int.toNat_natCast, List.getD_eq_getElem?_getD, List.getElem?_replicate, if_pos hq]; rfl
  obtain ⟨r2, out, s1, s2, s3, s4⟩ := some_law (v := List.replicate (coverI h k u).1.length w) hd1 k3 (by omega) h8 hcl (by rw [List.length_append]; omega) (List.length_replicate ..) (fun q hq => by rw [hva q hq]; exact ⟨hwf, _, _, hw1⟩)
  have hS : sendV (l ++ r) h k m u w = (out, l ++ r ++ r2, 0) := by
    unfold sendV
    rw [he, s1]; rfl
  rw [hS]
  unfold law7s
  have hol : out.length = (coverI h k u).1.length := s4.1
  simp only [bne_self_eq_false, cond_false]
  rw [show ((out.length : Int) != (coverI h k u).1.length) = false by rw [hol]; simp, decide_eq_true (show (l ++ r ++ r2).length ≤ 1000000 by rw [List.length_append, List.length_append]; omega), decide_eq_true (show out.length ≤ 1000000 by omega)]
  simp only [Bool.and_self, cond_true, cond_false]
  obtain ⟨f1, f2⟩ := first_in k3 (by omega) hi hn
  cases hin : u.any fun y => y == i with
  | true =>
    have hin : i ∈ u := by
      obtain ⟨y, hy, e⟩ := List.any_eq_true.1 hin
      rw [← eq_of_beq e]; exact hy
    rw [open_no s4 (by rw [f1 hin]; decide), f1 hin]
    rfl
  | false =>
    have hin : ¬ i ∈ u := fun hm => by
      have : u.any (fun y => y == i) = true := List.any_eq_true.2 ⟨i, hm, beq_self_eq_true i⟩
      rw [this] at hin; cases hin
    have hf := f2 hin
    obtain ⟨own, ho⟩ := open_yes (hd1.mono s3) (by rw [List.length_append, List.length_append]; omega) (by omega) h8 hi k3 hp hn (hm.mono s3) s4 hf
    obtain ⟨q, q1, q2, _⟩ := first_has k3 (by omega) hi hf
    rw [ho, q1, hva q q2]
    simp only [cond_false, beq_self_eq_true, cond_true]
    rw [valEq_iff.2 rfl]
theorem two_good : GoodL two := checkL_iff.1 (by kernel_rfl)
theorem law807 {a b : Block.D} {y : Bool} {h k i : Int} {u : List Int} (ha : WF Block a) (hb : WF Block b) (hu : ∀ y ∈ u, IntKind.u64.has y) (hi : IntKind.u64.has i) :
    (bif (bif decide (h > 8) then true else decide ((u.length : Int) > 20)) then oB7 true else
    bif y then law7 two (symV 0) (symV 1) h k u i (makeV two h k (symV 0) i) else law7 [] (octV a) (octV b) h k u i (makeV [] h k (octV a) i)) = oB7 true := by
  cases hh : decide (h > 8) with
  | true => rfl
  | false =>
    cases h2 : decide ((u.length : Int) > 20) with
    | true => rfl
    | false =>
      have hh := of_decide_eq_false hh
      have h2 := of_decide_eq_false h2
      have h8 : h ≤ 8 := by omega
      have h20 : u.length ≤ 20 := by omega
      simp only [cond_false]
      have hnil : In02 [] := fun x hx => by cases hx
      have z : IntKind.u64.has 0 := ⟨by decide, by decide⟩
      have z2 : IntKind.i64.has 0 := ⟨by decide, by decide⟩
      have z3 : IntKind.i64.has 1 := ⟨by decide, by decide⟩
      cases y with
      | true =>
        have d0 : Den true (0, 0) 0 two [] (symV ((0 : Nat) : Int)) := ⟨two_good, hnil, 0, rfl, rfl, (1, 0, 0), rfl, by decide⟩
        have d1 : Den true (0, 0) 1 two [] (symV ((1 : Nat) : Int)) := ⟨two_good, hnil, 1, rfl, rfl, (1, 1, 0), rfl, by decide⟩
        exact law7_true d0 d1 ⟨trivial, trivial, ⟨z, z⟩, ⟨⟨z, z⟩, ⟨z, z⟩⟩, z3⟩ (by decide) h8 h20 hu hi
      | false =>
        have hg : GoodL [] := checkL_iff.1 (by kernel_rfl)
        have d0 : Den false a 0 [] [] (octV a) := ⟨hg, hnil, rfl⟩
        have d1 : Den false b 0 [] [] (octV b) := ⟨hg, hnil, rfl⟩
        exact law7_true d0 d1 ⟨trivial, trivial, hb, ⟨⟨z, z⟩, ⟨z, z⟩⟩, z2⟩ (by decide) h8 h20 hu hi
theorem g823 : GoodS Tryz.prog N823 s823 := by
  refine good (.cons g826 (.cons g317 (.cons g830s (.nil _)))) H823 rfl (by kernel_rfl) noL [] (noLoops (by kernel_rfl)) [] (by decide) [] _ fun x r hw e => ?_
  cases e
  refine r823.trans ?_
  rw [live_true]
theorem good807 (x : ADen A7) : Good Tryz.prog N807 (encA A7 x) (.one (.bool true)) := by
  have g : GoodS Tryz.prog N807 (.fn A7 fun _ => (true, .one (.bool true))) := by
    refine good (.cons g823 (.cons g322 (.cons g317 (.cons g826 (.cons g830s (.cons g834 (.nil _))))))) H807 rfl (by kernel_rfl) noL [] (noLoops (by kernel_rfl)) A7 (by decide) [] _ fun x r hw e => ?_
    obtain ⟨a, b, y, h, k, u, i⟩ := x
    cases e
    refine (r807 a b y h k u i).trans ?_
    exact law807 hw.1 hw.2.1 hw.2.2.2.2.2.1.2 hw.2.2.2.2.2.2
  exact g.2.1 _ _ (by kernel_rfl)
end Go.AM.Seat
