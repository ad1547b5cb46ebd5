/- An abstract machine over the model's own code: branches, loops: what the abstract run comes to the machine comes to. -/
import Derived.Test.YtoeijiackpanoaaAmDraw
import Derived.Deep.LoopGhost
set_option linter.unusedVariables false
set_option linter.unusedSectionVars false
set_option linter.unusedSimpArgs false
namespace Go.AM

section
variable {P : Program} {mine : Cx} {w0 : World} {st : St} {a : Act} {w : World} {μ : Locs} {ok : OK} {tb : Tab} {Γ : Orc}
variable {ρ : Type} [Same ρ] {out : ρ}

/-! ### A loop's head -/
theorem normOne_sound (F : Facts mine w0 st a.tmps w μ ok) (i : Nat) (d : Dir) : ∃ μ', Facts mine w0 (normOne st i d) a.tmps w μ' ok := by
  cases d with
  | keep => exact ⟨μ, F⟩
  | arr t =>
    simp only [normOne]
    split
    · rename_i hs
      have hval : a.tmps.getD i undef = .slice none 0 0 := by have := F.slots i; rw [hs] at this; exact this
      obtain ⟨μ', F'⟩ := F.putNew i (v := .arr true t []) (x := a.tmps.getD i undef) ⟨⟨none, 0, 0⟩, hval, ⟨rfl, Nat.le_refl _, by show (0 : Nat) ≤ _; omega, .inl ⟨rfl, rfl, rfl⟩⟩, fun b hb => by cases hb⟩
      rw [set_getD_self] at F'
      exact ⟨μ', F'⟩
    · rename_i s hs
      split
      · rename_i fr t' xs hr
        cases hb : Nat.beq s i with
        | true => exact ⟨μ, F⟩
        | false =>
          simp only [cond_false]
          have hso : (st.ow s).isOwner = true := by rw [hr]; rfl
          have F1 := F.drop s
          have hval : a.tmps.getD i undef = slv (μ s) none := by have := F.slots i; rw [hs] at this; exact this.1
          have hnew : NewRel mine w0 (St.upd (st.kill s) s .junk) w μ ok (.arr fr t' xs) (a.tmps.getD i undef) := by
            refine ⟨μ s, hval, arr_of F hr, fun b hb => ?_⟩
            have hB := F.ownB s b hso hb
            exact ⟨hB.1, hB.2.1, hB.2.2, fun j hj hjb => (drop_owner hj).1 (F.inj j s b (drop_owner hj).2 hso hjb hb)⟩
          obtain ⟨μ', F'⟩ := F1.putNew i hnew
          rw [set_getD_self] at F'
          exact ⟨μ', F'⟩
      · exact ⟨μ, F⟩
    · exact ⟨μ, F⟩

theorem norm_sound (ds : List (Nat × Dir)) : ∀ {st : St} {μ : Locs}, Facts mine w0 st a.tmps w μ ok → ∃ μ', Facts mine w0 (norm ds st) a.tmps w μ' ok := by
  induction ds with
  | nil => intro st μ F; exact ⟨μ, F⟩
  | cons p ds ih =>
    intro st μ F
    obtain ⟨μ', F'⟩ := normOne_sound F p.1 p.2
    exact ih F'

theorem norm_length (ds : List (Nat × Dir)) : ∀ (st : St), (norm ds st).length = st.length := by
  induction ds with
  | nil => intro st; rfl
  | cons p ds ih =>
    intro st
    show (norm ds (normOne st p.1 p.2)).length = _
    rw [ih]
    unfold normOne
    split
    · rfl
    · split
      · exact St.length_put _ _ _
      · split
        · cases Nat.beq _ _ with
          | true => rfl
          | false => simp only [cond_false]; rw [St.length_put, St.length_upd, St.length_kill]
        · rfl
      · rfl

theorem embGo_get (e : AV) (ds : List (Nat × Dir)) (vs : List AV) : ∀ (n i k : Nat), k < n → (embGo e ds vs i n)[k]? = some (lookV e ds vs (i + k)) := by
  intro n
  induction n with
  | zero => intro i k h; omega
  | succ n ih =>
    intro i k h
    cases k with
    | zero => rfl
    | succ k => simp only [embGo, List.getElem?_cons_succ]; rw [ih (i + 1) k (by omega), Nat.add_assoc, Nat.add_comm 1 k]
theorem embGo_length (e : AV) (ds : List (Nat × Dir)) (vs : List AV) : ∀ (n i : Nat), (embGo e ds vs i n).length = n := by
  intro n
  induction n with
  | zero => intro i; rfl
  | succ n ih => intro i; simp [embGo, ih]
theorem look_atAll (e : AV) (st : St) (i : Nat) : ∀ ds : List (Nat × Dir), lookV e ds (atAll st ds) i = st.at i ∨ lookV e ds (atAll st ds) i = e := by
  intro ds
  induction ds with
  | nil => exact .inr rfl
  | cons p ds ih =>
    obtain ⟨j, d⟩ := p
    simp only [atAll, lookV]
    cases hb : Nat.beq j i with
    | true => obtain rfl := Nat.eq_of_beq_eq_true hb; exact .inl rfl
    | false => exact ih

/-- Just what lives is kept. -/
theorem live_sound (F : Facts mine w0 st a.tmps w μ ok) (ds : List (Nat × Dir)) {n g : Nat} (hm : mine.n = n ∧ mine.m ≤ n + g) (hn : n + g ≤ st.length) : ∃ μ', Facts mine w0 (emb n g ds (liveOf ds st)) a.tmps w μ' ok := by
  obtain ⟨μ', F'⟩ := norm_sound ds F
  have hlen : (emb n g ds (liveOf ds st)).length = n + g := by unfold emb; rw [List.length_append, embGo_length, embGo_length]
  refine ⟨μ', F'.less (by rw [hlen, norm_length]; exact hn) (by rw [hlen]; omega) fun i => ?_⟩
  by_cases hi : i < n
  · have : St.at (emb n g ds (liveOf ds st)) i = lookV (.one .junk) ds (liveOf ds st) i := by
      unfold St.at emb
      rw [List.getD_eq_getElem?_getD, List.getElem?_append_left (by rw [embGo_length]; exact hi), embGo_get _ _ _ _ _ _ hi, Nat.zero_add]; rfl
    rw [this]
    rcases look_atAll (.one .junk) (norm ds st) i ds with h | h
    · exact .inl h
    · exact .inr (.inl ⟨h, .inl (F'.real i (by omega))⟩)
  · by_cases hi2 : i < n + g
    · have : St.at (emb n g ds (liveOf ds st)) i = lookV (.gho .none) ds (liveOf ds st) i := by
        unfold St.at emb
        rw [List.getD_eq_getElem?_getD, List.getElem?_append_right (by rw [embGo_length]; omega), embGo_length, embGo_get _ _ _ _ _ _ (by omega), show n + (i - n) = i by omega]; rfl
      rw [this]
      rcases look_atAll (.gho .none) (norm ds st) i ds with h | h
      · exact .inl h
      · exact .inr (.inr ⟨h, F'.gho i (by omega) (by rw [norm_length]; omega)⟩)
    · exact .inr (.inl ⟨St.at_out _ _ (by rw [hlen]; omega), .inr (by rw [hlen]; omega)⟩)

/-! ### Code -/
def ex : AE → Exit
  | .normal => .normal
  | .exit id => .exit id
  | .ret => .ret

/-- What is behind a piece of code. -/
def GoesE (mine : Cx) (w0 : World) (K : AE → St → Option ρ) (out : ρ) (Q : Exit → Act → World → Prop) : Prop :=
  ∀ e st' tm' w' μ' ok', Facts mine w0 st' tm' w' μ' ok' → K e st' = some out → Q (ex e) ⟨tm', []⟩ w'

theorem act_eta (h : a.defers = []) : a = ⟨a.tmps, []⟩ := by cases a; simp at h; simp [h]

theorem aexec_sound (hM : P.follows .mixedOrders = true) (hP : TabOk P tb) (hΓ : OrcOk P Γ) (ms : Lay) (hms : mine.n = ms.n ∧ mine.m ≤ ms.n + ms.g) (Λ : Lam ρ) : ∀ (c : Code) (cur : Nat) (st : St) (tm : Array Value) (w : World) (μ : Locs) (ok : OK) (K : AE → St → Option ρ) (Q : Exit → Act → World → Prop),
    (∀ p ∈ loopsOf cur c, LoopP tb Γ Λ ms p) → Facts mine w0 st tm w μ ok → aexec tb Γ Λ ms c cur st K = some out → GoesE mine w0 K out Q → (∀ c a w, ¬ Q (.panic c) a w) → c.wp P Q ⟨tm, []⟩ w := by
  intro c
  induction c with
  | skip => intro cur st tm w μ ok K Q hL F h hK hQ; exact wp_skip (hK .normal _ _ _ _ _ F h)
  | region id ops draw =>
    intro cur st tm w μ ok K Q hL F h hK hQ
    cases draw with
    | true => exact wp_region_any hM (drawRegion_sound (a := ⟨tm, []⟩) hP hΓ hQ F.drew h fun st' tm' w' μ' ok' F' h' => hK .normal _ _ _ _ _ F' h')
    | false =>
      exact wp_region (runE_sound hP hΓ ops.toList _ st [] ⟨tm, []⟩ w μ ok (K .normal) (range_all2 ops) F EOk.nil h fun st' tm' w' μ' ok' F' h' => hK .normal _ _ _ _ _ F' h')
  | seq x y ihx ihy =>
    intro cur st tm w μ ok K Q hL F h hK hQ
    refine wp_seq (ihx cur st tm w μ ok _ _ (fun p hp => hL p (List.mem_append_left _ hp)) F h ?_ fun c a w h => hQ c a w h)
    intro e st' tm' w' μ' ok' F' h'
    cases e with
    | normal => exact ihy cur st' tm' w' μ' ok' K Q (fun p hp => hL p (List.mem_append_right _ hp)) F' h' hK hQ
    | exit id => exact hK (.exit id) _ _ _ _ _ F' h'
    | ret => exact hK .ret _ _ _ _ _ F' h'
  | cond c x y ihx ihy =>
    intro cur st tm w μ ok K Q hL F h hK hQ
    simp only [aexec] at h
    split at h
    · rename_i b hb
      have hc := rd_bool (a := ⟨tm, []⟩) F hb
      have Fc : ∀ b', b = b' → Facts mine w0 (condSt st c b') tm w μ ok := by
        intro b' e
        subst e
        unfold condSt
        split
        · rename_i t
          have hold : (st.at t).isOwner = false := by
            have h1 : rdSlot st t = .one (.bool b) := hb
            unfold rdSlot at h1
            cases hs : st.at t with
            | own cs => rw [hs] at h1; cases h1
            | arr f ty xs => rw [hs] at h1; cases h1
            | mapO f kt vt es => rw [hs] at h1; cases h1
            | gho o => rw [hs] at h1; cases h1
            | one x => rfl
            | agg cs => rfl
            | tup l => rfl
          exact F.setV t (bool_not_gho F hc) hold rfl hc
        · exact F
      refine wp_cond hc ?_
      cases b with
      | true => simp only [cond_true] at h; exact ihx cur _ tm w μ ok K Q (fun p hp => hL p (List.mem_append_left _ hp)) (Fc true rfl) h hK hQ
      | false => simp only [cond_false] at h; exact ihy cur _ tm w μ ok K Q (fun p hp => hL p (List.mem_append_right _ hp)) (Fc false rfl) h hK hQ
    · cases h
  | block id body ih =>
    intro cur st tm w μ ok K Q hL F h hK hQ
    refine wp_block (ih id st tm w μ ok _ _ hL F h ?_ fun c a w h => hQ c a w h)
    intro e st' tm' w' μ' ok' F' h'
    cases e with
    | normal => exact hK .normal _ _ _ _ _ F' h'
    | exit j =>
      simp only [blockK] at h'
      show Exit.inBlock id Q (.exit j) ⟨tm', []⟩ w'
      by_cases hj : j = id
      · subst hj
        have : Nat.beq j j = true := Nat.beq_refl j
        rw [this] at h'
        simp only [Exit.inBlock, if_true]
        exact hK .normal _ _ _ _ _ F' h'
      · have : Nat.beq j id = false := by
          cases hb : Nat.beq j id with
          | true => exact absurd (Nat.eq_of_beq_eq_true hb) hj
          | false => rfl
        rw [this] at h'
        simp only [Exit.inBlock, if_neg hj]
        exact hK (.exit j) _ _ _ _ _ F' h'
    | ret => exact hK .ret _ _ _ _ _ F' h'
  | loop body ih =>
    intro cur st tm w μ ok K Q hL F h hK hQ
    simp only [aexec] at h
    cases hc : Nat.ble (ms.n + ms.g) st.length with
    | false => rw [hc] at h; cases h
    | true =>
      rw [hc] at h
      simp only [cond_true] at h
      have hlen : ms.n + ms.g ≤ st.length := Nat.le_of_ble_eq_true hc
      obtain ⟨fuel, h⟩ := hL (cur, body) (by simp [loopsOf]) _ _ _ h
      obtain ⟨μ1, F1⟩ := live_sound (a := ⟨tm, []⟩) F (ms.get cur) hms hlen
      refine wp_loop_ghost (fun n a w => ∃ vs μ ok, Facts mine w0 (emb ms.n ms.g (ms.get cur) vs) a.tmps w μ ok ∧ a.defers = [] ∧
        loopN (aexec tb Γ Λ ms body cur) ms.n ms.g (ms.get cur) (fun e vs => K e (emb ms.n ms.g (ms.get cur) vs)) n vs = some out) fuel ⟨_, μ1, ok, F1, rfl, h⟩ ?_
      intro n a w hI
      obtain ⟨vs, μ, ok, F, hd, h⟩ := hI
      cases n with
      | zero => simp [loopN] at h
      | succ k =>
        simp only [loopN] at h
        rw [act_eta hd]
        refine ih cur _ a.tmps w μ ok _ _ (fun p hp => hL p (by simp [loopsOf, hp])) F h ?_ fun c a w h => hQ c a w h
        intro e st' tm' w' μ'' ok'' F'' h''
        cases hcl : Nat.ble (ms.n + ms.g) st'.length with
        | false => simp only [hcl, cond_false] at h''; cases h''
        | true =>
        simp only [hcl, cond_true] at h''
        have hlen' : ms.n + ms.g ≤ st'.length := Nat.le_of_ble_eq_true hcl
        obtain ⟨μ2, F2⟩ := live_sound (a := ⟨tm', []⟩) F'' (ms.get cur) hms hlen'
        cases e with
        | normal => exact ⟨k, Nat.lt_succ_self k, _, μ2, ok'', F2, rfl, h''⟩
        | exit id => exact hK (.exit id) _ _ _ _ _ F2 h''
        | ret => exact hK .ret _ _ _ _ _ F2 h''
  | rangeFunc f ps x y _ _ => intro cur st tm w μ ok K Q hL F h hK hQ; cases h
  | exit id => intro cur st tm w μ ok K Q hL F h hK hQ; exact wp_exit (hK (.exit id) _ _ _ _ _ F h)
  | scope body _ => intro cur st tm w μ ok K Q hL F h hK hQ; cases h
  | label l => intro cur st tm w μ ok K Q hL F h hK hQ; cases h
  | goto l => intro cur st tm w μ ok K Q hL F h hK hQ; cases h
  | ret => intro cur st tm w μ ok K Q hL F h hK hQ; exact wp_ret (hK .ret _ _ _ _ _ F h)
  | refuse why => intro cur st tm w μ ok K Q hL F h hK hQ; cases h
end

end Go.AM
