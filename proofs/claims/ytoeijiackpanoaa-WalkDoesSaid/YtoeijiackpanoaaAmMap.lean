/- An abstract machine over the model's own code: maps: what is looked up, and what is put in. -/
import Derived.Test.YtoeijiackpanoaaAmOps4
import Derived.Laws.StructEq
set_option linter.unusedVariables false
set_option linter.unusedSimpArgs false
namespace Go.AM

theorem eqD_eq : ∀ {t : Ty} {a b : t.D}, t.flat = true → eqD t a b = true → a = b
  | .int k, a, b, _, h => by
    have h : ((a : Int) == (b : Int)) = true := h
    exact eq_of_beq h
  | .bool, a, b, _, h => by
    have h : ((a : Bool) == (b : Bool)) = true := h
    exact eq_of_beq h
  | .str, a, b, _, h => by
    have h : ((a : ByteArray).toList == (b : ByteArray).toList) = true := h
    exact ByteArray.ext (by
      have := eq_of_beq h
      rw [ByteArray.toList_eq, ByteArray.toList_eq] at this
      exact Array.toList_inj.1 this)
  | .unit, _, _, _, _ => rfl
  | .pair s t, p, q, hf, h => by
    simp only [eqD, Bool.and_eq_true] at h
    simp only [Ty.flat, Bool.and_eq_true] at hf
    exact Prod.ext (eqD_eq hf.1 h.1) (eqD_eq hf.2 h.2)
  | .sl t, _, _, _, h => by cases h

theorem TRel.uniq {w w' : World} {ok ok' : Nat → Prop} : ∀ {t : Ty} {x : t.D} {us vs : List Value}, t.flat = true → TRel w ok t x us → TRel w' ok' t x vs → us = vs
  | .int k, x, us, vs, _, h, h' => by rw [h.1, h'.1]
  | .bool, x, us, vs, _, h, h' => by rw [show us = _ from h, show vs = _ from h']
  | .str, x, us, vs, _, h, h' => by rw [h.1, h'.1]
  | .unit, x, us, vs, _, h, h' => by rw [show us = _ from h, show vs = _ from h']
  | .pair a b, x, us, vs, hf, h, h' => by
    simp only [Ty.flat, Bool.and_eq_true] at hf
    obtain ⟨u1, u2, rfl, h1, h2⟩ := h
    obtain ⟨v1, v2, rfl, h1', h2'⟩ := h'
    rw [TRel.uniq hf.1 h1 h1', TRel.uniq hf.2 h2 h2']
  | .sl t, _, _, _, hf, _, _ => by cases hf
theorem TRel.flat {w w' : World} {ok ok' : Nat → Prop} : ∀ {t : Ty} {x : t.D} {us : List Value}, t.flat = true → TRel w ok t x us → TRel w' ok' t x us
  | .int k, x, us, _, h => h
  | .bool, x, us, _, h => h
  | .str, x, us, _, h => h
  | .unit, x, us, _, h => h
  | .pair a b, x, us, hf, h => by
    simp only [Ty.flat, Bool.and_eq_true] at hf
    obtain ⟨u1, u2, e, h1, h2⟩ := h
    exact ⟨u1, u2, e, TRel.flat hf.1 h1, TRel.flat hf.2 h2⟩
  | .sl t, _, _, hf, _ => by cases hf
theorem VRel.flat {w w' : World} {ok ok' : Nat → Prop} {t : Ty} {x : t.D} {v : Value} (hf : t.flat = true) (h : VRel w ok t x v) : VRel w' ok' t x v := by
  cases ha : t.isAgg with
  | true =>
    rw [VRel.agg ha] at h ⊢
    obtain ⟨us, e, h⟩ := h
    exact ⟨us, e, h.flat hf⟩
  | false => rw [VRel.one ha] at h ⊢; exact h.flat hf
theorem VRel.uniq {w w' : World} {ok ok' : Nat → Prop} {t : Ty} {x : t.D} {u v : Value} (hf : t.flat = true) (h : VRel w ok t x u) (h' : VRel w' ok' t x v) : u = v := by
  cases ha : t.isAgg with
  | true =>
    rw [VRel.agg ha] at h h'
    obtain ⟨us, rfl, h⟩ := h
    obtain ⟨vs, rfl, h'⟩ := h'
    rw [TRel.uniq hf h h']
  | false =>
    rw [VRel.one ha] at h h'
    simpa using TRel.uniq hf h h'

theorem sameBits_cells {w : World} {ok : Nat → Prop} {n : Nat} : ∀ {t : Ty} {x : t.D} {us : List Value}, t.flat = true → TRel w ok t x us → ∀ u ∈ us, Instr.sameBits n u u = true
  | .int k, x, us, _, h => by rw [h.1]; simp [Instr.sameBits]
  | .bool, x, us, _, h => by rw [show us = _ from h]; simp [Instr.sameBits]
  | .str, x, us, _, h => by rw [h.1]; simp only [List.mem_singleton, forall_eq, Instr.sameBits]; rw [beq_toListBytes]; exact beq_self_eq_true _
  | .unit, x, us, _, h => by rw [show us = _ from h]; simp
  | .pair a b, x, us, hf, h => by
    simp only [Ty.flat, Bool.and_eq_true] at hf
    obtain ⟨u1, u2, rfl, h1, h2⟩ := h
    intro u hu
    rcases List.mem_append.1 hu with hu | hu
    · exact sameBits_cells hf.1 h1 u hu
    · exact sameBits_cells hf.2 h2 u hu
  | .sl t, _, _, hf, _ => by cases hf
theorem sameBits_self {w : World} {ok : Nat → Prop} {t : Ty} {x : t.D} {u : Value} (hf : t.flat = true) (h : VRel w ok t x u) : Instr.sameBits 10000 u u = true := by
  cases ha : t.isAgg with
  | true =>
    rw [VRel.agg ha] at h
    obtain ⟨us, rfl, h⟩ := h
    have hall := sameBits_cells (n := 9999) hf h
    clear h
    simp only [Instr.sameBits, List.size_toArray, beq_self_eq_true, Bool.true_and, List.all_eq_true]
    intro p hp
    have h2 : ∀ (l : List Value) (p : Value × Value), p ∈ l.zip l → p.1 ∈ l ∧ p.1 = p.2 := by
      intro l
      induction l with
      | nil => intro p hp; cases hp
      | cons a l ih =>
        intro p hp
        rcases List.mem_cons.1 hp with rfl | hp
        · exact ⟨by simp, rfl⟩
        · exact ⟨by simp [(ih p hp).1], (ih p hp).2⟩
    obtain ⟨a, b⟩ := h2 _ p hp
    rw [← b]; exact hall _ a
  | false =>
    rw [VRel.one ha] at h
    exact sameBits_cells hf h u (by simp)

/-- What a search in a map's entries has found. -/
def Found (w : World) (okf : Nat → Prop) (kt vt : Ty) (x : kt.D) (es : List (kt.D × vt.D)) (arr : List MapEntry) (i0 : Nat) : Option (Nat × Value) → Prop
  | none => mget x es = none ∧ ∀ y, mput x y es = es ++ [(x, y)]
  | some (i, val) => ∃ j e v k0, i = i0 + j ∧ j < es.length ∧ arr[j]? = some e ∧ val = e.val ∧ mget x es = some v ∧ VRel w okf vt v e.val ∧ eqD kt x k0 = true ∧ VRel w okf kt k0 e.key ∧ ∀ y, mput x y es = es.set j (x, y)

section
variable {P : Program} {w : World} {okf : Nat → Prop} {kt vt : Ty} {x : kt.D} {u : Value}

theorem Found.cons {es : List (kt.D × vt.D)} {arr : List MapEntry} {p : kt.D × vt.D} {e : MapEntry} {i0 : Nat} {r : Option (Nat × Value)} (hne : eqD kt x p.1 = false) (h : Found w okf kt vt x es arr (i0 + 1) r) :
    Found w okf kt vt x (p :: es) (e :: arr) i0 r := by
  match r, h with
  | none, h =>
    refine ⟨by simp only [mget, hne, cond_false]; exact h.1, fun y => ?_⟩
    simp only [mput, hne, cond_false, h.2, List.cons_append]
  | some (i, val), h =>
    obtain ⟨j, e', v, k0, rfl, h1, h2, h3, h4, h5, h6, h7, h8⟩ := h
    refine ⟨j + 1, e', v, k0, by omega, by simpa using h1, by simpa using h2, h3, ?_, h5, h6, h7, fun y => ?_⟩
    · simp only [mget, hne, cond_false]; exact h4
    · simp only [mput, hne, cond_false, h8, List.set_cons_succ]
theorem Found.here {es : List (kt.D × vt.D)} {arr : List MapEntry} {p : kt.D × vt.D} {e : MapEntry} {i0 : Nat} (he : eqD kt x p.1 = true) (h1 : VRel w okf kt p.1 e.key) (h2 : VRel w okf vt p.2 e.val) :
    Found w okf kt vt x (p :: es) (e :: arr) i0 (some (i0, e.val)) :=
  ⟨0, e, p.2, p.1, rfl, by simp, rfl, rfl, by simp only [mget, he, cond_true], h2, he, h1, fun y => by simp only [mput, he, cond_true, List.set_cons_zero]⟩

theorem findKey_found {kT : TypeId} (hK : KeyOk P kT kt) (hx : VRel w okf kt x u) {es : List (kt.D × vt.D)} {arr : List MapEntry} (he : EntsRel w okf kt vt es arr) (w' : World) :
    ∃ r, (Instr.findKey kT u arr).run P w' = .ok r w' ∧ Found w okf kt vt x es arr 0 r := by
  obtain ⟨hf, _, kd, hu, hK⟩ := hK
  unfold EntsRel at he
  rcases hK with hK | ⟨hN, hK⟩
  · have now : ∀ (es : List (kt.D × vt.D)) (arr : List MapEntry) (i0 : Nat), All2 (fun p e => VRel w okf kt p.1 e.key ∧ VRel w okf vt p.2 e.val) es arr → ∃ r, Instr.findNow kd u arr i0 = some r ∧ Found w okf kt vt x es arr i0 r := by
      intro es arr i0 h
      induction h generalizing i0 with
      | nil => exact ⟨none, rfl, rfl, fun _ => rfl⟩
      | @cons p e es arr hp _ ih =>
        have hs := hK w okf x p.1 u e.key hx hp.1
        cases hq : eqD kt x p.1 with
        | true => exact ⟨some (i0, e.val), by simp only [Instr.findNow, hs, hq], .here hq hp.1 hp.2⟩
        | false =>
          obtain ⟨r, h1, h2⟩ := ih (i0 + 1)
          exact ⟨r, by simp only [Instr.findNow, hs, hq]; exact h1, h2.cons hq⟩
    obtain ⟨r, h1, h2⟩ := now es arr 0 he
    refine ⟨r, ?_, h2⟩
    simp [Instr.findKey, underlying, hu, h1]
  · have ask : ∀ (es : List (kt.D × vt.D)) (arr : List MapEntry) (i0 : Nat), All2 (fun p e => VRel w okf kt p.1 e.key ∧ VRel w okf vt p.2 e.val) es arr → ∃ r, (Instr.findAsking kT u arr i0).run P w' = .ok r w' ∧ Found w okf kt vt x es arr i0 r := by
      intro es arr i0 h
      induction h generalizing i0 with
      | nil => exact ⟨none, by simp [Instr.findAsking], rfl, fun _ => rfl⟩
      | @cons p e es arr hp _ ih =>
        have hs := hK w w' okf x p.1 u e.key hx hp.1
        cases hq : eqD kt x p.1 with
        | true => exact ⟨some (i0, e.val), by simp [Instr.findAsking, hs, hq], .here hq hp.1 hp.2⟩
        | false =>
          obtain ⟨r, h1, h2⟩ := ih (i0 + 1)
          exact ⟨r, by simp [Instr.findAsking, hs, hq]; exact h1, h2.cons hq⟩
    obtain ⟨r, h1, h2⟩ := ask es arr 0 he
    cases arr with
    | nil =>
      refine ⟨r, ?_, h2⟩
      simp only [Instr.findAsking, Sem.run_pure, Result.ok.injEq, and_true] at h1
      subst h1
      simp [Instr.findKey, underlying, hu, Instr.findNow]
    | cons e arr =>
      refine ⟨r, ?_, h2⟩
      simp only [Instr.findKey, underlying, Sem.run_bind, run_program, Result.andThen_ok, hu, Sem.run_pure, Instr.findNow, hN]
      exact h1
end

section
variable {P : Program} {mine : Cx} {w0 : World} {st : St} {a : Act} {w : World} {μ : Locs} {ok : OK} {tb : Tab}

theorem castM_eq {k v k' v' : Ty} {es : List (k.D × v.D)} {ds : List (k'.D × v'.D)} (h : Ty.castM k v k' v' es = some ds) : ∃ (e : k = k') (g : v = v'), (by subst e; subst g; exact es = ds) := by
  unfold Ty.castM at h
  split at h
  · rename_i e
    split at h
    · rename_i g
      subst e; subst g
      exact ⟨rfl, rfl, by simpa using h⟩
    · cases h
  · cases h

/-- A value, as data. -/
theorem toD_rel (hT : ∀ b, ok true b → ok false b) {t : Ty} {x : AV} {v : Value} {d : t.D} {f : Bool} (h : AVRel w μ ok x v) (hd : toD t x = some (d, f)) : VRel w (ok f) t d v := by
  unfold toD at hd
  split at hd
  · rename_i cs ha
    obtain ⟨vs, e, hh⟩ := h
    rw [VRel.agg ha]
    exact ⟨vs, e, decAll_rel hT hh hd⟩
  · rename_i y ha
    rw [VRel.one ha]
    have hj : y ≠ .junk := by
      intro e; subst e
      cases t with
      | unit => cases ha
      | pair _ _ => cases ha
      | _ => exact absurd hd (by unfold decAll; simp [dec])
    rw [AVRel.eq1 hj] at h
    exact decAll_rel hT (.cons h .nil) hd
  · cases hd

theorem ofD_rel {t : Ty} {f : Bool} {d : t.D} {v : Value} (h : VRel w (ok f) t d v) : compRel w μ ok (t.isAgg, enc t f d) v := by
  cases ha : t.isAgg with
  | true =>
    rw [VRel.agg ha] at h
    obtain ⟨vs, e, h⟩ := h
    exact ⟨vs, e, enc_rel h⟩
  | false =>
    rw [VRel.one ha] at h
    have := enc_rel (μ := μ) h
    cases hl : enc t f d with
    | nil => rw [hl] at this; cases this
    | cons y l =>
      rw [hl] at this
      cases this with
      | cons h1 h2 => cases h2; exact ⟨y, rfl, h1⟩

theorem mapO_of {tm : Array Value} (F : Facts mine w0 st tm w μ ok) {s : Nat} {fr : Bool} {kt vt : Ty} {es : List (kt.D × vt.D)} (h : st.ow s = .mapO fr kt vt es) : ∃ b, (μ s).b = some b ∧ MapRel w (ok fr) kt vt es b := by
  have := F.owns s
  rw [h] at this
  exact this

/-- A map's entries, or none. -/
def MapIs (w : World) (okf : Nat → Prop) (kt vt : Ty) (es : List (kt.D × vt.D)) (v : Value) : Prop :=
  (v = .map none ∧ es = []) ∨ ∃ b, v = .map (some b) ∧ MapRel w okf kt vt es b

theorem getMap_rel {tm : Array Value} (F : Facts mine w0 st tm w μ ok) {m : SV} {v : Value} {kt vt : Ty} {fr : Bool} {es : List (kt.D × vt.D)} (h : SVRel w μ ok m v) (hg : getMap st kt vt m = some (fr, es)) : MapIs w (ok fr) kt vt es v := by
  unfold getMap at hg
  split at hg
  · cases hg; exact .inl ⟨h, rfl⟩
  · rename_i f kt' vt' es'
    split at hg
    · rename_i ds hc
      cases hg
      obtain ⟨rfl, rfl, e⟩ := castM_eq hc
      obtain rfl : es' = es := e
      rcases (h : SVRel0 w μ ok (.sm fr kt' vt' es') v) with h | ⟨b, e, _, h⟩
      · exact .inl h
      · exact .inr ⟨b, e, h⟩
    · cases hg
  · rename_i s
    split at hg
    · rename_i f kt' vt' es' hs
      split at hg
      · rename_i ds hc
        cases hg
        obtain ⟨rfl, rfl, e⟩ := castM_eq hc
        obtain rfl : es' = es := e
        obtain ⟨b, hb, h1⟩ := mapO_of F hs
        obtain ⟨b', hb', rfl⟩ := (h : SVRel0 w μ ok (.mref s) v)
        rw [hb] at hb'; cases hb'
        exact .inr ⟨b, rfl, h1⟩
      · cases hg
    · cases hg
  · cases hg

theorem mgetD_some {kt vt : Ty} {x : kt.D} {es : List (kt.D × vt.D)} {v : vt.D} (h : mget x es = some v) : mgetD x es = v ∧ mhas x es = true := by unfold mgetD mhas; rw [h]; exact ⟨rfl, rfl⟩
theorem mgetD_none {kt vt : Ty} {x : kt.D} {es : List (kt.D × vt.D)} (h : mget x es = none) : mgetD x es = vt.dflt ∧ mhas x es = false := by unfold mgetD mhas; rw [h]; exact ⟨rfl, rfl⟩

theorem lookup_gives (hP : TabOk P tb) (F : Facts mine w0 st a.tmps w μ ok) {T : TypeId} {m k : AV} {mv kv : Value} {c : Bool} {v : AV} (hm : AVRel w μ ok m mv) (hk : AVRel w μ ok k kv)
    (h : evLookup tb st T m k c = some (true, v)) : Gives P mine w0 st a w μ ok (Instr.lookup T mv kv c) v := by
  unfold evLookup at h
  split at h
  · rename_i kt vt m hT
    split at h
    · rename_i fr es x f hg hx
      have hj : m ≠ .junk := by intro e; subst e; cases hg
      rw [AVRel.eq1 hj] at hm
      have hmap := getMap_rel F hm hg
      have hkey := toD_rel F.okT hk hx
      obtain ⟨i, kT, vT, vi, zv, _, _, _, h4, hK, h6, h7, h8⟩ := hP T _ hT
      -- the run
      have hz : (zeroValue vT).run P w = .ok zv w := by simp [zeroValue, typeInfo, h6, h7]
      have hrun : ∃ val, (Instr.lookup T mv kv c).run P w = .ok (if c then .tuple #[val, .bool (mhas x es)] else val) w ∧ VRel w (ok fr) vt (mgetD x es) val := by
        rcases hmap with ⟨rfl, rfl⟩ | ⟨b, rfl, arr, clock, hb, hents⟩
        · have hc := hK.2.1 w w _ x kv true hkey
          obtain ⟨hr0, hr1⟩ := mgetD_none (vt := vt) (x := x) (es := []) rfl
          refine ⟨zv, ?_, by rw [hr0]; exact h8 w _⟩
          obtain ⟨r, g1, g2⟩ := findKey_found (vt := vt) hK hkey (es := []) (arr := []) .nil w
          match r, g2 with
          | none, _ =>
            rw [hr1]
            simp only [Instr.lookup, underlying, Sem.run_bind, run_program, Result.andThen_ok, h4, Sem.run_pure, Array.isEmpty_empty, hc, g1, hz]
            try (cases c <;> rfl)
          | some (i, val), g2 => obtain ⟨j, _, _, _, _, hj, _⟩ := g2; simp at hj
        · have hc := hK.2.1 w w _ x kv arr.isEmpty hkey
          have hkey' : VRel w (ok fr) kt x kv := hkey.flat hK.1
          obtain ⟨r, g1, g2⟩ := findKey_found hK hkey' hents w
          have hget : (getObj b).run P w = .ok (.map arr clock) w := by simp [getObj, Sem.run, hb]
          match r, g2 with
          | none, g2 =>
            obtain ⟨hr0, hr1⟩ := mgetD_none g2.1
            refine ⟨zv, ?_, by rw [hr0]; exact h8 w _⟩
            rw [hr1]
            simp only [Instr.lookup, underlying, Sem.run_bind, run_program, Result.andThen_ok, h4, Sem.run_pure, hget, hc, g1, hz]
            try (cases c <;> rfl)
          | some (i, val), g2 =>
            obtain ⟨j, e, v0, k0, _, hj, he, rfl, hget', hv, _⟩ := g2
            obtain ⟨hr0, hr1⟩ := mgetD_some hget'
            refine ⟨e.val, ?_, ?_⟩
            · rw [hr1]
              simp only [Instr.lookup, underlying, Sem.run_bind, run_program, Result.andThen_ok, h4, Sem.run_pure, hget, hc, g1]
              try (cases c <;> rfl)
            · rw [hr0]; exact hv
      obtain ⟨val, hr, hv⟩ := hrun
      cases c with
      | true =>
        simp only [cond_true, Option.some.injEq, Prod.mk.injEq, true_and] at h
        subst h
        refine Gives.pure F hr rfl ⟨[val, .bool (mhas x es)], rfl, .cons (ofD_rel hv) (.cons ⟨_, rfl, rfl⟩ .nil)⟩
      | false =>
        simp only [cond_false] at h
        split at h
        · rename_i v' hv'
          simp only [Option.some.injEq, Prod.mk.injEq, true_and] at h
          subst h
          have hcomp := ofD_rel (μ := μ) hv
          cases ha : vt.isAgg with
          | true =>
            rw [ha] at hcomp hv'
            obtain ⟨us, e, hh⟩ := hcomp
            cases hv'
            exact Gives.pure F hr rfl ⟨us, e, hh⟩
          | false =>
            rw [ha] at hcomp hv'
            obtain ⟨y, e, hy⟩ := hcomp
            rw [e] at hv'
            cases hv'
            refine Gives.pure F hr rfl ?_
            have hyj : y ≠ .junk := by
              intro hj; subst hj
              cases hvt : vt <;> (subst hvt; simp [enc, Ty.isAgg] at e ha)
            rw [AVRel.eq1 hyj]; exact hy
        · cases h
    · cases h
  · cases h

theorem makeMap_gives (hP : TabOk P tb) (F : Facts mine w0 st a.tmps w μ ok) {T : TypeId} {kt vt : Ty} {r : Option Value} (hT : Tab.get tb T = some (.map kt vt)) (hr : ∀ v, r = some v → ∃ k n, v = .int k n) :
    Gives P mine w0 st a w μ ok (Instr.makeMap T r) (.mapO true kt vt []) := by
  obtain ⟨i, kT, vT, vi, zv, _, _, _, h4, _⟩ := hP T _ hT
  refine ⟨.map (some w.heap.size), w.alloc (.map #[] 0), ok, ?_, F.alloc _, ⟨w.heap.size, rfl, ⟨#[], 0, heap_at_new w _, .nil⟩, F.freshNew _⟩, Grow.alloc _ fun b hb => ?_⟩
  · cases r with
    | none => simp [Instr.makeMap]
    | some v =>
      obtain ⟨k, n, rfl⟩ := hr v rfl
      simp [Instr.makeMap, underlying, h4, asInt, asIntOf]
  · rcases hb with hb | ⟨n, c, hb⟩ | hb
    · cases hb
    · cases hb
    · simpa using hb.symm

/-- AN ENTRY IS WRITTEN. -/
theorem mapUpdate_run {kT vT T : TypeId} {kt vt : Ty} {b : Nat} {fr f g : Bool} {es : List (kt.D × vt.D)} {x : kt.D} {y : vt.D} {kv yv : Value} (hT : ∀ b, ok true b → ok false b) (hu : P.underlying T = some (.map kT vT)) (hK : KeyOk P kT kt) (hm : MapRel w (ok fr) kt vt es b)
    (hk : VRel w (ok f) kt x kv) (hy : VRel w (ok g) vt y yv) (hb : ¬ ok false b) :
    ∃ w1, (Instr.mapUpdate T (.map (some b)) kv yv).run P w = .ok () w1 ∧ (∀ k, k ≠ b → w1.heap[k]? = w.heap[k]?) ∧ w1.heap.size = w.heap.size ∧ w1.os = w.os ∧ w1.tape = w.tape ∧ w1.output = w.output ∧
      MapRel w1 (ok (fr && g)) kt vt (mput x y es) b := by
  obtain ⟨arr, clock, hb0, hents⟩ := hm
  have hc := hK.2.1 w w _ x kv false hk
  obtain ⟨r, g1, g2⟩ := findKey_found hK (hk.flat hK.1) hents w
  have hget : (getObj b).run P w = .ok (.map arr clock) w := by simp [getObj, Sem.run, hb0]
  have hset : ∀ o, (setObj b o).run P w = .ok () { w with heap := w.heap.setIfInBounds b o } := fun o => by simp [setObj, Sem.run, hb0]
  have weak : ∀ (f g : Bool) b, ok f b → ok (f && g) b := by
    intro f g b hb
    cases f with
    | true => cases g with
      | true => exact hb
      | false => exact hT b hb
    | false => exact hb
  have weak' : ∀ (f g : Bool) b, ok g b → ok (f && g) b := by
    intro f g b hb
    cases f with
    | true => exact hb
    | false => cases g with
      | true => exact hT b hb
      | false => exact hb
  have any : ∀ f b, ok f b → ok false b := fun f b h => by cases f with
    | true => exact hT b h
    | false => exact h
  have hblt : b < w.heap.size := by
    rcases Nat.lt_or_ge b w.heap.size with h | h
    · exact h
    · rw [Array.getElem?_eq_none (by omega)] at hb0; cases hb0
  have hother : ∀ (o : Obj) (k : Nat), k ≠ b → (w.heap.setIfInBounds b o)[k]? = w.heap[k]? := fun o k hk => by rw [Array.getElem?_setIfInBounds_ne (Ne.symm hk)]
  have hself : ∀ o : Obj, (w.heap.setIfInBounds b o)[b]? = some o := fun o => by simp [hblt]
  have hents' : ∀ o : Obj, All2 (fun p e => VRel { w with heap := w.heap.setIfInBounds b o } (ok (fr && g)) kt p.1 e.key ∧ VRel { w with heap := w.heap.setIfInBounds b o } (ok (fr && g)) vt p.2 e.val) es arr.toList := fun o =>
    hents.imp fun p e h => ⟨h.1.mono (fun k hk => hother o k fun e => hb (e ▸ any _ _ hk)) (weak fr g), h.2.mono (fun k hk => hother o k fun e => hb (e ▸ any _ _ hk)) (weak fr g)⟩
  have hnew : ∀ o : Obj, VRel { w with heap := w.heap.setIfInBounds b o } (ok (fr && g)) kt x kv ∧ VRel { w with heap := w.heap.setIfInBounds b o } (ok (fr && g)) vt y yv := fun o =>
    ⟨hk.flat hK.1, hy.mono (fun k hk => hother o k fun e => hb (e ▸ any _ _ hk)) (weak' fr g)⟩
  match r, g2 with
  | none, g2 =>
    refine ⟨{ w with heap := w.heap.setIfInBounds b (.map (arr.push { key := kv, val := yv, born := clock }) (clock + 1)) }, ?_, fun k hk => hother (.map (arr.push { key := kv, val := yv, born := clock }) (clock + 1)) k hk, by simp, rfl, rfl, rfl, arr.push { key := kv, val := yv, born := clock }, clock + 1, hself _, ?_⟩
    · simp only [Instr.mapUpdate, underlying, Sem.run_bind, run_program, Result.andThen_ok, hu, Sem.run_pure, hget, hc, g1, hset]
    · unfold EntsRel
      rw [g2.2, Array.toList_push]
      exact (hents' _).append (.cons (hnew _) .nil)
  | some (i, val), g2 =>
    obtain ⟨j, e, v0, k0, rfl, hj, he, rfl, hget', hv, hke, hk0, hput⟩ := g2
    obtain rfl := eqD_eq hK.1 hke
    have hkk : e.key = kv := VRel.uniq hK.1 hk0 hk
    have he' : arr[j]? = some e := by simpa using he
    have hstay : (Instr.keyThatStays kv kv).run P w = .ok kv w := by simp [Instr.keyThatStays, sameBits_self hK.1 hk]
    refine ⟨{ w with heap := w.heap.setIfInBounds b (.map (arr.modify j fun e => { e with key := kv, val := yv }) clock) }, ?_, fun k hk => hother (.map (arr.modify j fun e => { e with key := kv, val := yv }) clock) k hk, by simp, rfl, rfl, rfl, arr.modify j (fun e => { e with key := kv, val := yv }), clock, hself _, ?_⟩
    · simp only [Instr.mapUpdate, underlying, Sem.run_bind, run_program, Result.andThen_ok, hu, Sem.run_pure, hget, hc, g1, Nat.zero_add, he', Option.map_some, Option.getD_some, hkk, hstay, hset]
    · unfold EntsRel
      rw [hput]
      have : ∀ (es : List (kt.D × vt.D)) (l : List MapEntry) (j : Nat) (R : kt.D × vt.D → MapEntry → Prop) (f : MapEntry → MapEntry), All2 R es l → (∀ e, R (x, y) (f e)) → All2 R (es.set j (x, y)) (l.modify j f) := by
        intro es l j R f h hf
        induction h generalizing j with
        | nil => simpa using All2.nil
        | cons h1 h2 ih =>
          cases j with
          | zero => simpa using All2.cons (hf _) h2
          | succ j => simpa using All2.cons h1 (ih j)
      rw [Array.toList_modify]
      exact this _ _ _ _ _ (hents' _) fun e => hnew _
end

end Go.AM
