/- An abstract machine over the model's own code: a call that writes what it is given: sound. -/
import Derived.Test.YtoeijiackpanoaaAmIO
set_option linter.unusedVariables false
set_option linter.unusedSectionVars false
set_option linter.unusedSimpArgs false
namespace Go.AM

theorem addN_pre : ∀ (r L : List Nat), ∃ t, addN L r = L ++ t := by
  intro r
  induction r with
  | nil => intro L; exact ⟨[], by simp [addN]⟩
  | cons s r ih =>
    intro L
    simp only [addN]
    split
    · exact ih L
    · obtain ⟨t, h⟩ := ih (L ++ [s])
      exact ⟨s :: t, by rw [h]; simp⟩
theorem reachN_pre (st : St) : ∀ (k : Nat) (L : List Nat) (i : Nat), ∃ t, reachN st k L i = L ++ t := by
  intro k
  induction k with
  | zero => intro L i; exact ⟨[], by simp [reachN]⟩
  | succ k ih =>
    intro L i
    simp only [reachN]
    split
    · rename_i s hs
      obtain ⟨t, h⟩ := addN_pre (st.ow s).slots L
      obtain ⟨t', h'⟩ := ih (addN L (st.ow s).slots) (i + 1)
      exact ⟨t ++ t', by rw [h', h]; simp⟩
    · exact ⟨[], by simp⟩

section
variable {P : Program} {mine : Cx} {w0 : World} {st : St} {a : Act} {w : World} {μ : Locs} {ok : OK} {tb : Tab} {Γ : Orc}

theorem nodup_inj : ∀ {L : List Nat} {j k s : Nat}, L.Nodup → L[j]? = some s → L[k]? = some s → j = k := by
  intro L
  induction L with
  | nil => intro j k s _ hj; simp at hj
  | cons a L ih =>
    intro j k s h hj hk
    rw [List.nodup_cons] at h
    cases j with
    | zero =>
      cases k with
      | zero => rfl
      | succ k =>
        simp only [List.getElem?_cons_zero, Option.some.injEq, List.getElem?_cons_succ] at hj hk
        subst hj
        exact absurd (List.mem_of_getElem? hk) h.1
    | succ j =>
      cases k with
      | zero =>
        simp only [List.getElem?_cons_zero, Option.some.injEq, List.getElem?_cons_succ] at hj hk
        subst hk
        exact absurd (List.mem_of_getElem? hj) h.1
      | succ k =>
        have := ih h.2 (show L[j]? = some s by simpa using hj) (show L[k]? = some s by simpa using hk)
        rw [this]
theorem upN_nodup : ∀ (m a : Nat), (upN a m).Nodup ∧ ∀ x ∈ upN a m, a ≤ x := by
  intro m
  induction m with
  | zero => intro a; exact ⟨List.nodup_nil, fun x h => by cases h⟩
  | succ m ih =>
    intro a
    obtain ⟨h1, h2⟩ := ih (a + 1)
    refine ⟨List.nodup_cons.2 ⟨fun h => by have := h2 a h; omega, h1⟩, fun x hx => ?_⟩
    rcases List.mem_cons.1 hx with rfl | hx
    · exact Nat.le_refl _
    · have := h2 x hx; omega
theorem nthN_of {L : List Nat} {k s : Nat} (h : L[k]? = some s) : nthN L k = s := by simp [nthN, List.getD_eq_getElem?_getD, h]

/-- What is back: the slots that were handed over are let go; ghosts are laid for what is new; all that came back is laid in. -/
theorem io_back (F : Facts mine w0 st a.tmps w μ ok) {R L : List Nat} {t : List Nat} (hL : L = R ++ t) (hnd : L.Nodup) {gs : List AV} (hgs : renAs false (fun s => posN s L 0) (L.map st.ow) = some gs) (hgo : gs.all AV.isOwner = true)
    {w1 : World} {ok' : OK} {μ' : Locs} {r : AV} {gs' : List AV} {v : Value} (hfr : Fr (ioMine gs fun k => μ (nthN L k)) w w1) (h1 : ∀ fr b, ok' fr b → resOK w w1 (ok false) fr b) (h2 : ∀ b, ok' true b → ok' false b)
    (hr : AVRel w1 μ' ok' r v) (hO : OwnsOk w1 μ' ok' gs') (hnew : ∀ k b, (ownAt gs' k).isOwner = true → (μ' k).b = some b → w.heap.size ≤ b ∨ ioMine gs (fun k => μ (nthN L k)) b) (hpin : ∀ k, k < R.length → μ' k = μ (nthN L k))
    {r' : AV} {hs : List AV} (hr' : renA true (fun k => (R ++ upN st.length (gs'.length - R.length))[k]?) r = some r') (hhs : renAs true (fun k => (R ++ upN st.length (gs'.length - R.length))[k]?) gs' = some hs)
    (hk : kindsOk st R hs = true) (hho : hs.all AV.isOwner = true) :
    ∃ μ2 ok1, Facts mine w0 (fillAll (R ++ upN st.length (gs'.length - R.length)) hs (growN (gs'.length - R.length) (dropAll L st))) a.tmps w1 μ2 ok1 ∧ AVRel w1 μ2 ok1 r' v := by
  obtain ⟨m, hm⟩ : ∃ m, m = gs'.length - R.length := ⟨_, rfl⟩
  rw [← hm] at hr' hhs ⊢
  obtain ⟨hglen, hgget⟩ := renAs_get hgs
  obtain ⟨hhlen, hhget⟩ := renAs_get hhs
  simp only [List.length_map] at hglen
  obtain ⟨hkl, hkk⟩ := kindsOk_spec hk
  -- the owners that were handed over
  have hgk : ∀ (k s : Nat), L[k]? = some s → ∃ g : AV, gs[k]? = some g ∧ g.isOwner = true ∧ (st.ow s).isOwner = true := by
    intro k s hks
    obtain ⟨g, e1, e2⟩ := hgget k (st.ow s) (by simp [hks])
    have ho : g.isOwner = true := List.all_eq_true.1 hgo g (List.mem_of_getElem? e1)
    exact ⟨g, e1, ho, by rw [← renA_owner e2]; exact ho⟩
  have hmine : ∀ b, ioMine gs (fun k => μ (nthN L k)) b → ∃ s ∈ L, (st.ow s).isOwner = true ∧ (μ s).b = some b := by
    intro b ⟨k, k1, k2⟩
    have hlt : k < L.length := by
      rcases Nat.lt_or_ge k L.length with h | h
      · exact h
      · unfold ownAt at k1
        rw [List.getD_eq_getElem?_getD, List.getElem?_eq_none (by omega)] at k1; cases k1
    have hks : L[k]? = some L[k] := List.getElem?_eq_getElem hlt
    obtain ⟨g, e1, e2, e3⟩ := hgk k _ hks
    have e4 : nthN L k = L[k] := nthN_of hks
    simp only [e4] at k2
    exact ⟨L[k], List.getElem_mem hlt, e3, k2⟩
  have hbase : ∀ i, (st.ow i).isOwner = true → i < st.length := fun i hi => by
    rcases Nat.lt_or_ge i st.length with h | h
    · exact h
    · rw [St.ow_out _ _ h] at hi; cases hi
  have hgl : R.length + m = gs'.length := by omega
  obtain ⟨D1, D2, D3, D4⟩ := dropAll_ok L F
  obtain ⟨G1, G2, G3, G4⟩ := growN_ok (fun i => μ' (R.length + (i - st.length))) m D1
  rw [D2] at G1 G2 G4
  obtain ⟨μ2, hμ2⟩ : ∃ μ2 : Locs, μ2 = fun i => if st.length ≤ i ∧ i < st.length + m then μ' (R.length + (i - st.length)) else μ i := ⟨_, rfl⟩
  rw [← hμ2] at G1
  have hlow : ∀ i, i < st.length → μ2 i = μ i := fun i hi => by rw [hμ2]; exact if_neg (by omega)
  have hSown : ∀ i, ((growN m (dropAll L st)).ow i).isOwner = true → i ∉ L ∧ (st.ow i).isOwner = true := fun i hi => D3 i (G3 i hi)
  have hsz := F.fr.size
  -- the world behind the call
  have F2 : Facts mine w0 (growN m (dropAll L st)) a.tmps w1 μ2 (fun fr b => ok fr b ∨ ok' fr b) := by
    refine G1.step (fun b hb => hfr.block b (F.okB b hb) fun hmn => ?_) (fun i b hi hb => ?_) hfr.size (fun _ _ h => .inl h) (fun b hb => ?_) (fun b hb => hb.elim (fun h => .inl (F.okT b h)) (fun h => .inr (h2 b h)))
      (fun b hb => ?_) (fun i b hi hb hh => ?_) (fun b hb => ?_) ⟨hfr.os.trans F.fr.os, hfr.tape.trans F.fr.tape, hfr.output.trans F.fr.output, Nat.le_trans hsz hfr.size, fun k hk hmk => ?_⟩
    · obtain ⟨s, _, e2, e3⟩ := hmine b hmn
      exact (F.ownB s b e2 e3).2.2 hb
    · obtain ⟨e1, e2⟩ := hSown i hi
      rw [hlow i (hbase i e2)] at hb
      refine hfr.block b (F.ownB i b e2 hb).1 fun hmn => ?_
      obtain ⟨s, s1, s2, s3⟩ := hmine b hmn
      exact e1 (F.inj i s b e2 s2 hb s3 ▸ s1)
    · rcases hb with hb | hb
      · exact Nat.lt_of_lt_of_le (F.okB b hb) hfr.size
      · rcases h1 _ _ hb with h | ⟨_, h⟩
        · exact h.2
        · exact Nat.lt_of_lt_of_le (F.okB b h) hfr.size
    · rcases hb with hb | hb
      · exact F.okF b hb
      · rcases h1 _ _ hb with h | ⟨h, _⟩
        · exact Nat.le_trans hsz h.1
        · cases h
    · obtain ⟨e1, e2⟩ := hSown i hi
      rw [hlow i (hbase i e2)] at hb
      have hB := F.ownB i b e2 hb
      rcases hh with hh | hh
      · exact hB.2.2 hh
      · rcases h1 _ _ hh with h | ⟨_, h⟩
        · omega
        · exact hB.2.2 h
    · rcases hb with hb | hb
      · exact F.okS b hb
      · rcases h1 _ _ hb with h | ⟨_, h⟩
        · exact .inl (Nat.le_trans hsz h.1)
        · exact F.okS b h
    · rw [hfr.block k (Nat.lt_of_lt_of_le hk hsz) fun hmn => ?_]
      · exact F.fr.block k hk hmk
      · obtain ⟨s, _, e2, e3⟩ := hmine k hmn
        rcases (F.ownB s k e2 e3).2.1 with h | h
        · omega
        · exact hmk h
  -- the names
  have hLk : ∀ k, k < R.length → R[k]? = L[k]? := fun k hk => by rw [hL, List.getElem?_append_left hk]
  have hRL : ∀ s ∈ R, s ∈ L := fun s hs => by rw [hL]; exact List.mem_append_left _ hs
  have hLown : ∀ s ∈ L, (st.ow s).isOwner = true := fun s hs => by
    obtain ⟨k, hk, rfl⟩ := List.getElem_of_mem hs
    exact (hgk k _ (List.getElem?_eq_getElem hk)).choose_spec.2.2
  have hloc : ∀ k s, (R ++ upN st.length m)[k]? = some s → μ2 s = μ' k := by
    intro k s hks
    rcases Nat.lt_or_ge k R.length with hlt | hge
    · rw [List.getElem?_append_left hlt] at hks
      have hs : L[k]? = some s := by rw [← hLk k hlt]; exact hks
      have hsl : s < st.length := hbase s (hLown s (List.mem_of_getElem? hs))
      rw [hlow s hsl, hpin k hlt, nthN_of hs]
    · rw [List.getElem?_append_right hge, upN_get] at hks
      split at hks
      · rename_i hlt
        cases hks
        rw [hμ2]
        simp only
        rw [if_pos (by omega), show R.length + (st.length + (k - R.length) - st.length) = k by omega]
      · cases hks
  have hR2 : Ren μ' μ2 ok' (fun fr b => ok fr b ∨ ok' fr b) true (fun k => (R ++ upN st.length m)[k]?) := ⟨fun s k h => hloc s k h, fun fr b h => by rw [Bool.and_true]; exact .inr h⟩
  refine ⟨μ2, _, ?_, renA_rel hR2 hr hr'⟩
  have hL'len : (R ++ upN st.length m).length = hs.length := by rw [List.length_append, upN_length, hhlen]; exact hgl
  have hL'mem : ∀ s ∈ R ++ upN st.length m, (s ∈ R ∧ s < st.length) ∨ (st.length ≤ s ∧ s < st.length + m) := by
    intro s hs
    rcases List.mem_append.1 hs with h | h
    · exact .inl ⟨h, hbase s (hLown s (hRL s h))⟩
    · obtain ⟨k, hk, e⟩ := List.getElem_of_mem h
      have := upN_get m st.length k
      rw [List.getElem?_eq_getElem hk, e] at this
      split at this
      · cases this; exact .inr ⟨by omega, by omega⟩
      · cases this
  refine fillAll_ok _ hs F2 hL'len ?_ (fun s hsm => ?_) (fun v hv => List.all_eq_true.1 hho v hv) fun k s v hks hkv => ?_
  · rw [List.nodup_append]
    refine ⟨?_, ?_, fun x hx y hy e => ?_⟩
    · rw [hL] at hnd; exact (List.nodup_append.1 hnd).1
    · exact (upN_nodup m st.length).1
    · have e1 := hbase x (hLown x (hRL x hx))
      obtain ⟨q, hq, e2⟩ := List.getElem_of_mem hy
      have := upN_get m st.length q
      rw [List.getElem?_eq_getElem hq, e2] at this
      split at this
      · cases this; omega
      · cases this
  · refine ⟨?_, by rw [G2]; rcases hL'mem s hsm with h | h <;> omega⟩
    cases hc : ((growN m (dropAll L st)).ow s).isOwner with
    | false => rfl
    | true =>
      obtain ⟨e1, e2⟩ := hSown s hc
      rcases hL'mem s hsm with h | h
      · exact absurd (hRL s h.1) e1
      · have := hbase s e2; omega
  · obtain ⟨g, hg⟩ : ∃ g, gs'[k]? = some g := by
      have : k < hs.length := (List.getElem?_eq_some_iff.1 hkv).1
      exact ⟨gs'[k]'(by omega), List.getElem?_eq_getElem _⟩
    obtain ⟨v', e1, e2⟩ := hhget k g hg
    rw [hkv] at e1; cases e1
    have hvo : v.isOwner = true := List.all_eq_true.1 hho v (List.mem_of_getElem? hkv)
    have hgo' : g.isOwner = true := by rw [← renA_owner e2]; exact hvo
    have hat : ownAt gs' k = g := by unfold ownAt; rw [List.getD_eq_getElem?_getD, hg]; rfl
    have hls := hloc k s hks
    refine ⟨fun hgh => ?_, renOwn_rel hR2 hls (hat ▸ hO.own k) e2, fun b hb => ?_⟩
    · rcases Nat.lt_or_ge k R.length with hlt | hge
      · have hks' : R[k]? = some s := by rwa [List.getElem?_append_left hlt] at hks
        have hsl : s < st.length := hbase s (hLown s (hRL s (List.mem_of_getElem? hks')))
        rw [G4 s hsl, D4] at hgh
        have hsr := F.slots s
        have how : st.at s = st.ow s := by unfold St.ow; rw [AV.un_id hgh]
        rw [how] at hsr
        exact sameKind_slot (hkk k s v hks' hkv) (hlow s hsl) hsr
      · have hs2 : st.length ≤ s ∧ s < st.length + m := by
          rcases hL'mem s (List.mem_of_getElem? hks) with h | h
          · rw [List.getElem?_append_right hge, upN_get] at hks
            split at hks
            · cases hks; omega
            · cases hks
          · exact h
        have := F2.gho s (by have := F.len; omega) (by rw [G2]; omega)
        rw [this] at hgh; cases hgh
    · rw [hls] at hb
      obtain ⟨b1, b2⟩ := hO.blk k b (by rw [hat]; exact hgo') hb
      have b3 := hnew k b (by rw [hat]; exact hgo') hb
      refine ⟨b1, ?_, ?_, fun i hi hib => ?_, fun s' hs' hne hsb => ?_⟩
      · rcases b3 with h | h
        · exact .inl (Nat.le_trans hsz h)
        · obtain ⟨q, _, q2, q3⟩ := hmine b h
          exact (F.ownB q b q2 q3).2.1
      · rintro (h | h)
        · rcases b3 with h' | h'
          · have := F.okB b h; omega
          · obtain ⟨q, _, q2, q3⟩ := hmine b h'
            exact (F.ownB q b q2 q3).2.2 h
        · exact b2 h
      · obtain ⟨e1, e2⟩ := hSown i hi
        rw [hlow i (hbase i e2)] at hib
        rcases b3 with h | h
        · have := (F.ownB i b e2 hib).1; omega
        · obtain ⟨q, q1, q2, q3⟩ := hmine b h
          exact e1 (F.inj i q b e2 q2 hib q3 ▸ q1)
      · obtain ⟨k', hk', e⟩ := List.getElem_of_mem hs'
        have hks2 : (R ++ upN st.length m)[k']? = some s' := by rw [List.getElem?_eq_getElem hk', e]
        rw [hloc k' s' hks2] at hsb
        obtain ⟨g2, hg2⟩ : ∃ g, gs'[k']? = some g := by
          have : k' < gs'.length := by rw [List.length_append, upN_length] at hk'; omega
          exact ⟨gs'[k'], List.getElem?_eq_getElem this⟩
        obtain ⟨v2, f1, f2⟩ := hhget k' g2 hg2
        have hat2 : ownAt gs' k' = g2 := by unfold ownAt; rw [List.getD_eq_getElem?_getD, hg2]; rfl
        have hgo2 : (ownAt gs' k').isOwner = true := by rw [hat2, ← renA_owner f2]; exact List.all_eq_true.1 hho v2 (List.mem_of_getElem? f1)
        have := hO.inj k k' b (by rw [hat]; exact hgo') hgo2 hb hsb
        subst this
        rw [hks] at hks2
        exact hne (Option.some.inj hks2).symm

theorem mdCall_sound (hΓ : OrcOk P Γ) (F : Facts mine w0 st a.tmps w μ ok) {o : Oper} {f : Operand} {args : Array Operand} {ts : Array TypeId} (ho : o.op = .call { callee := .value f, args, argTypes := ts }) {st' : St}
    (h : mdCall Γ st o.dst (rd st f) (args.toList.map (rd st)) = some (true, st')) {next : Act → World → Prop} {Q : Exit → Act → World → Prop}
    (hn : ∀ tm' w1 μ' ok1, Facts mine w0 st' tm' w1 μ' ok1 → next { a with tmps := tm' } w1) : o.wp P a w next Q := by
  unfold mdCall at h
  split at h
  · rename_i g caps hf
    cases hhas : Γ.has g with
    | false => rw [hhas] at h; cases h
    | true =>
      rw [hhas] at h
      simp only [Bool.not_true, cond_false] at h
      obtain ⟨xs, hxs⟩ : ∃ xs, xs = args.toList.map (rd st) ++ caps.map capVal := ⟨_, rfl⟩
      rw [← hxs] at h
      obtain ⟨R, hR⟩ : ∃ R, R = addN [] (xs.flatMap AV.slots) := ⟨_, rfl⟩
      rw [← hR] at h
      obtain ⟨L, hL⟩ : ∃ L, L = reachN st 16 R 0 := ⟨_, rfl⟩
      rw [← hL] at h
      obtain ⟨t, hLt⟩ := reachN_pre st 16 R 0
      rw [← hL] at hLt
      split at h
      · rename_i ys gs hys hgs
        cases hd : (distN L && gs.all AV.isOwner) with
        | false => rw [hd] at h; cases h
        | true =>
          rw [hd] at h
          simp only [cond_true] at h
          simp only [Bool.and_eq_true] at hd
          have hnd := distN_nodup hd.1
          split at h
          · rename_i g' r gs' hio
            split at h
            · rename_i r' hs hr' hhs
              cases hk : (kindsOk st R hs && hs.all AV.isOwner && !r'.isOwner) with
              | false => rw [hk] at h; cases h
              | true =>
                rw [hk] at h
                simp only [cond_true] at h
                simp only [Bool.and_eq_true, Bool.not_eq_true'] at hk
                obtain ⟨⟨hk1, hk2⟩, hk3⟩ := hk
                have hg' : g' = true := by
                  revert h
                  cases o.dst <;> (intro h; simp only [Option.some.injEq, Prod.mk.injEq] at h; exact h.1)
                subst hg'
                obtain ⟨hcall, hgood⟩ := hΓ.2 g ys R.length gs r gs' hio
                obtain ⟨vs, hfe, hcaps⟩ := rd_one F hf (by simp)
                have hargs : All2 (AVRel w μ ok) xs (args.toList.map a.eval ++ vs) := by
                  rw [hxs]; exact (all2_rd F _).append (hcaps.map_left _ fun c v h => capVal_rel h)
                have hRen : Ren μ (fun k => μ (nthN L k)) ok (argOK (ok false)) false (fun s => posN s L 0) :=
                  ⟨fun s k h => by show μ (nthN L k) = μ s; rw [posN_nth h], fun fr b h => by rw [Bool.and_false]; exact ⟨rfl, F.ok_any h⟩⟩
                have hys' := renAs_rel hRen hargs hys
                obtain ⟨hglen, hgget⟩ := renAs_get hgs
                simp only [List.length_map] at hglen
                have hown : ∀ k, (k < L.length ∧ ∃ s g, L[k]? = some s ∧ gs[k]? = some g ∧ ownAt gs k = g ∧ renA false (fun s => posN s L 0) (st.ow s) = some g) ∨ ownAt gs k = .one .junk := by
                  intro k
                  rcases Nat.lt_or_ge k L.length with hlt | hge
                  · left
                    obtain ⟨y, e1, e2⟩ := hgget k (st.ow L[k]) (by simp [hlt])
                    exact ⟨hlt, L[k], y, List.getElem?_eq_getElem hlt, e1, by unfold ownAt; rw [List.getD_eq_getElem?_getD, e1]; rfl, e2⟩
                  · right
                    unfold ownAt; rw [List.getD_eq_getElem?_getD, List.getElem?_eq_none (by omega)]; rfl
                have hO : OwnsOk w (fun k => μ (nthN L k)) (argOK (ok false)) gs := by
                  refine ⟨fun k => ?_, fun k b hko hb => ?_, fun j k b hj hk hjb hkb => ?_⟩
                  · rcases hown k with ⟨_, s, g, e1, e2, e3, e4⟩ | e
                    · rw [e3]
                      exact renOwn_rel hRen (by show μ (nthN L k) = μ s; rw [nthN_of e1]) (F.owns s) e4
                    · rw [e]; trivial
                  · rcases hown k with ⟨_, s, g, e1, e2, e3, e4⟩ | e
                    · rw [e3, renA_owner e4] at hko
                      simp only [nthN_of e1] at hb
                      have := F.ownB s b hko hb
                      exact ⟨this.1, fun h => this.2.2 h.2⟩
                    · rw [e] at hko; cases hko
                  · rcases hown j with ⟨hjl, s, g, e1, e2, e3, e4⟩ | e
                    · rcases hown k with ⟨hkl, s', g', f1, f2, f3, f4⟩ | e
                      · rw [e3, renA_owner e4] at hj
                        rw [f3, renA_owner f4] at hk
                        simp only [nthN_of e1] at hjb
                        simp only [nthN_of f1] at hkb
                        have hss := F.inj s s' b hj hk hjb hkb
                        subst hss
                        exact nodup_inj hnd e1 f1
                      · rw [e] at hk; cases hk
                    · rw [e] at hj; cases hj
                have hcalls := hgood w (ok false) _ (fun k => μ (nthN L k)) (fun b hb => F.okB b hb) hys' hO
                have hrun : (execOp a.eval o).run P w = .ok (.enter g (args.toList.map a.eval ++ vs).toArray) w := by
                  unfold execOp
                  simp only [ho, resolve, hfe, Deferred.ofValue, Sem.run_bind, Sem.run_pure, Result.andThen_ok, invoke]
                  have : (#[] ++ Array.map a.eval args ++ vs.toArray) = (args.toList.map a.eval ++ vs).toArray := by apply Array.ext'; simp
                  rw [this]
                  exact hcall _ _
                unfold Oper.wp
                rw [hrun, Oper.upon_enter]
                refine hcalls.mono fun e w1 hh => ?_
                obtain ⟨v, rfl, hfr, ok', μ', g1, g2, g3, g4, g5, g6⟩ := hh
                obtain ⟨μ2, ok1, F2, hrv⟩ := io_back F hLt hnd hgs hd.2 hfr g1 g2 g3 g4 g5 g6 hr' hhs hk1 hk2
                cases hdst : o.dst with
                | some d =>
                  rw [hdst] at h
                  simp only [Option.some.injEq, Prod.mk.injEq, true_and] at h
                  subst h
                  exact hn _ _ _ _ (F2.putV d hrv hk3)
                | none =>
                  rw [hdst] at h
                  simp only [Option.some.injEq, Prod.mk.injEq, true_and] at h
                  subst h
                  exact hn _ _ _ _ F2
            · cases h
          · cases h
      · cases h
  · cases h
end

end Go.AM
