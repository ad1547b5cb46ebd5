/- An abstract machine over the model's own code: what is handed over at a call, and what comes back. -/
import Derived.Test.YtoeijiackpanoaaAmOps5
set_option linter.unusedVariables false
set_option linter.unusedSimpArgs false
namespace Go.AM

def μ0 : Locs := fun _ => ⟨none, 0, 0⟩
/-- What a call's arguments lead to. -/
def argOK (okA : Nat → Prop) : OK := fun fr b => fr = false ∧ okA b

section
variable {mine : Cx} {w0 : World} {st : St} {a : Act} {w : World} {μ : Locs} {ok : OK}

theorem slv_rel {l : Loc} {t : Ty} {xs : List t.D} {okf okA : Nat → Prop} (h : ArrRel w okf l t xs) (hw : ∀ b, okf b → okA b) (hb : ∀ b, l.b = some b → okA b) (m : Nat) (hm : m ≤ xs.length) :
    TRel w okA (.sl t) (xs.take m) [.slice (l.b.map fun b => ⟨b, 0, none⟩) m l.cap] := by
  obtain ⟨h1, h2, h3, h4⟩ := h
  have hl : (xs.take m).length = m := by simp; omega
  refine ⟨_, l.cap, by rw [hl], by rw [hl]; omega, h3, ?_⟩
  rcases h4 with ⟨k1, rfl, k3⟩ | ⟨b, c, E, k1, k2, k3, k4⟩
  · exact .inl ⟨by rw [k1]; rfl, by simp, k3⟩
  · refine .inr ⟨b, 0, ⟨none, by rw [k1]; rfl, fun _ => rfl⟩, fun _ => hb b k1, fun j hj => ?_⟩
    obtain ⟨cs, g1, g2⟩ := k4 j (by omega)
    refine ⟨cs, by simpa using TRel.mono (fun _ _ => rfl) hw g1, fun q hq => ?_⟩
    rw [cell_block k2, Nat.zero_add]
    exact g2 q hq

theorem arr_of (F : Facts mine w0 st a.tmps w μ ok) {s : Nat} {fr : Bool} {t : Ty} {xs : List t.D} (h : st.ow s = .arr fr t xs) : ArrRel w (ok fr) (μ s) t xs := by
  have := F.owns s
  rw [h] at this
  exact this

theorem expCaps_rel (F : Facts mine w0 st a.tmps w μ ok) {okA : Nat → Prop} (hA : ∀ b, ok false b → okA b) : ∀ {caps cs : List Cap} {vs : List Value}, (caps.any Cap.isRef = true → ∀ b, b < w.heap.size → okA b) →
    All2 (CapRel w μ ok) caps vs → expS.expCaps st caps = some cs → All2 (CapRel w μ0 (argOK okA)) cs vs ∧ cs.any Cap.isRef = false := by
  intro caps
  induction caps with
  | nil => intro cs vs _ h he; simp only [expS.expCaps, Option.some.injEq] at he; subst he; cases h; exact ⟨.nil, rfl⟩
  | cons c caps ih =>
    intro cs vs hR h he
    cases h with
    | @cons _ v _ vs hv hvs =>
      have hR' : caps.any Cap.isRef = true → ∀ b, b < w.heap.size → okA b := fun hh => hR (by simp [List.any_cons, hh])
      cases c with
      | ref s off =>
        simp only [expS.expCaps] at he
        split at he
        · rename_i ocs hs
          split at he
          · rename_i f t x r' h1 h2
            cases he
            obtain ⟨g1, g2⟩ := ih hR' hvs h2
            refine ⟨.cons ?_ g1, by simp [Cap.isRef, g2]⟩
            obtain ⟨b, c, E, k1, k2, k3⟩ := ownCells F hs
            obtain ⟨b', k1', rfl⟩ := hv
            rw [k1] at k1'; cases k1'
            have hlt : b < w.heap.size := (F.ownB s b (by rw [hs]; rfl) k1).1
            have hok := hR (by simp [Cap.isRef]) b hlt
            refine ⟨b, 0, c.toList, rfl, ⟨rfl, hok⟩, TRel.mono (fun _ _ => rfl) (fun b hb => ⟨rfl, hA b (F.ok_any hb)⟩) (tyOf_rel F.okT k3 h1), fun q hq => ?_⟩
            rw [cell_block k2, Nat.zero_add]
            simp only [Array.length_toList] at hq
            simp [hq]
          · cases he
        · cases he
      | ptrD f t x =>
        simp only [expS.expCaps] at he
        split at he
        · rename_i r' h2
          cases he
          obtain ⟨g1, g2⟩ := ih hR' hvs h2
          refine ⟨.cons ?_ g1, by simp [Cap.isRef, g2]⟩
          obtain ⟨b, o, us, e, k1, k2, k3⟩ := hv
          exact ⟨b, o, us, e, ⟨rfl, hA b (F.ok_any k1)⟩, TRel.mono (fun _ _ => rfl) (fun b hb => ⟨rfl, hA b (F.ok_any hb)⟩) k2, k3⟩
        · cases he
      | valD f t x =>
        simp only [expS.expCaps] at he
        split at he
        · rename_i r' h2
          cases he
          obtain ⟨g1, g2⟩ := ih hR' hvs h2
          refine ⟨.cons ?_ g1, by simp [Cap.isRef, g2]⟩
          unfold CapRel at *
          have hlen : ∀ {t : Ty} {x : t.D} (f g : Bool), (enc t f x).length = (enc t g x).length := by
            intro t
            induction t with
            | pair a b iha ihb => intro x f g; simp [enc, iha f g, ihb f g]
            | _ => intro x f g; rfl
          have hcell : ∀ {t : Ty} {x : t.D} {us : List Value}, All2 (SVRel0 w μ ok) (enc t f x) us → All2 (SVRel0 w μ0 (argOK okA)) (enc t false x) us := by
            intro t
            induction t with
            | int k => intro x us hh; cases hh with | cons h1 h2 => cases h2; exact .cons h1 .nil
            | bool => intro x us hh; cases hh with | cons h1 h2 => cases h2; exact .cons h1 .nil
            | str => intro x us hh; cases hh with | cons h1 h2 => cases h2; exact .cons h1 .nil
            | unit => intro x us hh; cases hh; exact .nil
            | sl t _ => intro x us hh; cases hh with | cons h1 h2 => cases h2; exact .cons ⟨TRel.mono (fun _ _ => rfl) (fun b hb => ⟨rfl, hA b (F.ok_any hb)⟩) h1.1, trivial⟩ .nil
            | pair a b iha ihb =>
              intro x us hh
              obtain ⟨u, v, rfl, h1, h2⟩ := hh.split
              exact (iha h1).append (ihb h2)
          simp only [capVal] at *
          split at hv
          · rename_i y hy
            have h1 : All2 (SVRel0 w μ ok) (enc t f x) [v] := by rw [hy]; exact .cons hv .nil
            have h2 := hcell h1
            have hl := hlen (x := x) f false
            rw [hy] at hl
            match hz : enc t false x, hl with
            | [z], _ =>
              rw [hz] at h2
              cases h2 with
              | cons h3 _ => exact h3
          · rename_i hn
            obtain ⟨us, e, hh⟩ := hv
            have h2 := hcell hh
            split
            · rename_i z hz
              have hl := hlen (x := x) f false
              rw [hz] at hl
              match hq : enc t f x, hl with
              | [z'], _ => exact absurd hq (hn z')
            · exact ⟨us, e, h2⟩
        · cases he

theorem expS_rel (F : Facts mine w0 st a.tmps w μ ok) {okA : Nat → Prop} (hA : ∀ b, ok false b → okA b) {x y : SV} {v : Value} (hR : x.isRef = true → ∀ b, b < w.heap.size → okA b)
    (h : SVRel w μ ok x v) (he : expS st x = some y) : SVRel w μ0 (argOK okA) y v ∧ y.isRef = false ∧ y ≠ .junk := by
  have up : ∀ f b, ok f b → argOK okA false b := fun f b hb => ⟨rfl, hA b (F.ok_any hb)⟩
  cases x with
  | junk => cases he
  | bool b => cases he; exact ⟨h, rfl, by simp⟩
  | int k n => cases he; exact ⟨h, rfl, by simp⟩
  | str s => cases he; exact ⟨h, rfl, by simp⟩
  | nilp => cases he; exact ⟨h, rfl, by simp⟩
  | nils => cases he; exact ⟨h, rfl, by simp⟩
  | nilf => cases he; exact ⟨h, rfl, by simp⟩
  | nilm => cases he; exact ⟨h, rfl, by simp⟩
  | sm fr kt vt es =>
    cases he
    refine ⟨?_, rfl, by simp⟩
    rcases h with h | ⟨b, e, hb, h⟩
    · exact .inl h
    · exact .inr ⟨b, e, up fr b hb, h.mono (fun _ _ => rfl) (up fr) rfl⟩
  | mref s =>
    simp only [expS] at he
    split at he
    · rename_i f kt vt es hs
      cases he
      obtain ⟨b, k1, rfl⟩ := h
      have ho := F.owns s
      rw [hs] at ho
      obtain ⟨b', k1', hm⟩ := ho
      rw [k1] at k1'; cases k1'
      exact ⟨.inr ⟨b, rfl, ⟨rfl, hR rfl b (F.ownB s b (by rw [hs]; rfl) k1).1⟩, hm.mono (fun _ _ => rfl) (up f) rfl⟩, rfl, by simp⟩
    · cases he
  | sl fr t nl xs =>
    cases he
    exact ⟨⟨TRel.mono (fun _ _ => rfl) (up fr) h.1, h.2⟩, rfl, by simp⟩
  | rp fr t z off =>
    cases he
    obtain ⟨b, o, cs, e, h1, h2, h3⟩ := h
    exact ⟨⟨b, o, cs, e, up fr b h1, TRel.mono (fun _ _ => rfl) (up fr) h2, h3⟩, rfl, by simp⟩
  | ptr s off =>
    simp only [expS] at he
    split at he
    · rename_i cs hs
      split at he
      · rename_i f t z ht
        cases he
        obtain ⟨b, c, E, k1, k2, k3⟩ := ownCells F hs
        obtain ⟨b', k1', rfl⟩ := h
        rw [k1] at k1'; cases k1'
        have hlt : b < w.heap.size := (F.ownB s b (by rw [hs]; rfl) k1).1
        refine ⟨⟨b, 0, c.toList, by simp, ⟨rfl, hR rfl b hlt⟩, TRel.mono (fun _ _ => rfl) (up f) (tyOf_rel F.okT k3 ht), fun q hq => ?_⟩, rfl, by simp⟩
        rw [cell_block k2, Nat.zero_add]
        simp only [Array.length_toList] at hq
        simp [hq]
      · cases he
    · cases he
  | aptr s base len idx => cases he
  | hot s n =>
    simp only [expS] at he
    split at he
    · rename_i f t xs hs
      cases he
      have hr := arr_of F hs
      obtain ⟨rfl, hm, hb⟩ := h
      have hbl : ∀ b, (μ s).b = some b → argOK okA false b := fun b hb' => ⟨rfl, hR rfl b (F.ownB s b (by rw [hs]; rfl) hb').1⟩
      refine ⟨⟨?_, trivial⟩, rfl, by simp⟩
      cases n with
      | none =>
        have := slv_rel hr (up f) hbl xs.length (Nat.le_refl _)
        rw [List.take_length] at this
        unfold slv
        rw [Option.getD_none, hr.1]; exact this
      | some m =>
        have hml := hm m rfl
        exact slv_rel hr (up f) hbl m (by rw [← hr.1]; exact hml)
    · cases he
  | cut s sz lo hi =>
    simp only [expS] at he
    split at he
    · rename_i f t xs hs
      cases hz : Nat.beq sz t.size with
      | false => rw [hz] at he; cases he
      | true =>
      rw [hz] at he
      obtain rfl := Nat.eq_of_beq_eq_true hz
      cases he
      have hr := arr_of F hs
      obtain ⟨b, hb, rfl, h1, h2⟩ := (h : SVRel0 w μ ok (.cut s t.size lo hi) v)
      have hbl : ∀ b, (μ s).b = some b → argOK okA false b := fun b hb' => ⟨rfl, hR rfl b (F.ownB s b (by rw [hs]; rfl) hb').1⟩
      refine ⟨⟨?_, trivial⟩, rfl, by simp⟩
      have hl : hi ≤ xs.length := by rw [← hr.1]; exact h2
      have := (slv_rel hr (up f) hbl hi hl).drop lo (by simp; omega)
      have hc : ¬ (μ s).cap = lo := by have := hr.2.1; omega
      unfold slv at this
      rw [hb] at this
      simp only [Option.map_some, Option.getD_some, if_neg hc, add_none, Nat.zero_add] at this
      exact this
    · cases he
  | hptr s sz i off =>
    simp only [expS] at he
    split at he
    · rename_i f t xs hs
      cases hz : Nat.beq sz t.size with
      | false => simp [hz] at he
      | true =>
        obtain rfl := Nat.eq_of_beq_eq_true hz
        simp only [hz, cond_true, Option.some.injEq] at he
        subst he
        obtain ⟨g1, g2, g3, g4⟩ := arr_of F hs
        obtain ⟨b, k1, rfl, k3, k4⟩ := h
        rcases g4 with ⟨g4, _⟩ | ⟨b', c, E, e1, e2, e3, e4⟩
        · rw [k1] at g4; cases g4
        · rw [k1] at e1; cases e1
          have hlt : i.toNat < xs.length := by omega
          obtain ⟨cs, t1, t2⟩ := e4 i.toNat hlt
          refine ⟨⟨b, i.toNat * t.size, cs, rfl, ⟨rfl, hR rfl b (F.ownB s b (by rw [hs]; rfl) k1).1⟩, ?_, fun q hq => by rw [cell_block e2]; exact t2 q hq⟩, rfl, by simp⟩
          rw [getD_at _ _ hlt]
          exact TRel.mono (fun _ _ => rfl) (up f) t1
    · cases he
  | fn f caps =>
    simp only [expS] at he
    split at he
    · rename_i cs hc
      cases he
      obtain ⟨vs, e, hh⟩ := h
      obtain ⟨g1, g2⟩ := expCaps_rel F hA hR hh hc
      exact ⟨⟨vs, e, g1⟩, g2, by simp⟩
    · cases he

theorem expL_rel (F : Facts mine w0 st a.tmps w μ ok) {okA : Nat → Prop} (hA : ∀ b, ok false b → okA b) : ∀ {xs ys : List SV} {vs : List Value}, (xs.any SV.isRef = true → ∀ b, b < w.heap.size → okA b) →
    All2 (SVRel w μ ok) xs vs → expL st xs = some ys → All2 (SVRel w μ0 (argOK okA)) ys vs ∧ ys.any SV.isRef = false := by
  intro xs
  induction xs with
  | nil => intro ys vs _ h he; simp only [expL, Option.some.injEq] at he; subst he; cases h; exact ⟨.nil, rfl⟩
  | cons x xs ih =>
    intro ys vs hR h he
    cases h with
    | cons hx hxs =>
      simp only [expL] at he
      split at he
      · rename_i y ys' h1 h2
        cases he
        obtain ⟨g1, g2, _⟩ := expS_rel F hA (fun hh => hR (by simp [List.any_cons, hh])) hx h1
        obtain ⟨g3, g4⟩ := ih (fun hh => hR (by simp [List.any_cons, hh])) hxs h2
        exact ⟨.cons g1 g3, by simp [g2, g4]⟩
      · cases he

theorem expA_rel (F : Facts mine w0 st a.tmps w μ ok) {okA : Nat → Prop} (hA : ∀ b, ok false b → okA b) {x y : AV} {v : Value} (hR : x.isRef = true → ∀ b, b < w.heap.size → okA b)
    (h : AVRel w μ ok x v) (he : expA st x = some y) : AVRel w μ0 (argOK okA) y v ∧ y.isRef = false := by
  cases x with
  | one x =>
    simp only [expA] at he
    split at he
    · rename_i z hz
      cases he
      have hj : x ≠ .junk := by intro e; subst e; simp [expS] at hz
      obtain ⟨g1, g2, g3⟩ := expS_rel F hA hR (one_of hj h) hz
      exact ⟨by rw [AVRel.eq1 g3]; exact g1, g2⟩
    · cases he
  | agg cs =>
    simp only [expA] at he
    split at he
    · rename_i z hz
      cases he
      obtain ⟨vs, e, hh⟩ := h
      obtain ⟨g1, g2⟩ := expL_rel F hA hR hh hz
      exact ⟨⟨vs, e, g1⟩, g2⟩
    · cases he
  | tup l => cases he
  | own cs => cases he
  | arr f t xs => cases he
  | mapO f kt vt es => cases he
  | gho o => cases he

theorem expAs_rel (F : Facts mine w0 st a.tmps w μ ok) {okA : Nat → Prop} (hA : ∀ b, ok false b → okA b) : ∀ {xs ys : List AV} {vs : List Value}, (xs.any AV.isRef = true → ∀ b, b < w.heap.size → okA b) →
    All2 (AVRel w μ ok) xs vs → expAs st xs = some ys → All2 (AVRel w μ0 (argOK okA)) ys vs := by
  intro xs
  induction xs with
  | nil => intro ys vs _ h he; simp only [expAs, Option.some.injEq] at he; subst he; cases h; exact .nil
  | cons x xs ih =>
    intro ys vs hR h he
    cases h with
    | cons hx hxs =>
      simp only [expAs] at he
      split at he
      · rename_i y ys' h1 h2
        cases he
        exact .cons (expA_rel F hA (fun hh => hR (by simp [List.any_cons, hh])) hx h1).1 (ih (fun hh => hR (by simp [List.any_cons, hh])) hxs h2)
      · cases he
end

end Go.AM
