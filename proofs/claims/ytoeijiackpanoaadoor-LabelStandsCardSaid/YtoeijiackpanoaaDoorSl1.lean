/- The seat: contracts and plain laws, in order (cut out of all texts by a program). -/
import Derived.Test.YtoeijiackpanoaaDoorSeTab
import Derived.Test.YtoeijiackpanoaaDoorSeCom
set_option linter.unusedVariables false
set_option linter.unusedSimpArgs false
set_option maxRecDepth 100000
namespace Go.AM.Seat
open Go Go.AM Go.Proofs


def body (f : Func) : Code := f.body.getD .skip
theorem bd {f : Func} (h : f.body.isSome = true) : f.body = some (body f) := by
  unfold body
  cases hb : f.body with
  | none => rw [hb] at h; cases h
  | some c => rfl
def noL : Lam AV := fun _ _ _ => none
theorem noLoops {ρ : Type} [Same ρ] {Γ : Orc} {Λ : Lam ρ} {ms : Lay} {c : Code} (h : loopsOf 0 c = []) : ∀ p ∈ loopsOf 0 c, LoopP tb Γ Λ ms p := by rw [h]; intro p hp; cases hp
theorem oneLoop {ρ : Type} [Same ρ] {Γ : Orc} {Λ : Lam ρ} {ms : Lay} {c : Code} {p0 : Nat × Code} (h : loopsOf 0 c = [p0]) (h0 : LoopP tb Γ Λ ms p0) : ∀ p ∈ loopsOf 0 c, LoopP tb Γ Λ ms p := by
  rw [h]; intro p hp; rw [List.mem_singleton.1 hp]; exact h0
/-- A function's run. -/
noncomputable def run (Γ : Orc) (Λ : Lam AV) (live : List (Nat × List (Nat × Dir))) (f : Func) (args : List AV) (ws : List WK) : Option AV :=
  aexec tb Γ Λ ⟨f.ntmps, 0, live⟩ (body f) 0 (st0 args f.ntmps) (KretW tb f.results.toList ws)
theorem good {Γ : Orc} (hΓ : OrcOk Tryd.prog Γ) {f : FuncId} {fn : Func} (hf : Tryd.prog.funcs[f]? = some fn) (hb : fn.body.isSome = true) (hname : (fn.name == "runtime.NumGoroutine") = false) (Λ : Lam AV) (live : List (Nat × List (Nat × Dir)))
    (hL : ∀ p ∈ loopsOf 0 (body fn), LoopP tb Γ Λ ⟨fn.ntmps, 0, live⟩ p) (ks : List AK) (hk : ks.length ≤ fn.ntmps) (ws : List WK) (g : ADen ks → Bool × AV) (h : ∀ x r, WFA ks x → g x = (true, r) → run Γ Λ live fn (encA ks x) ws = some r) (hlo : LoOk Γ fn.ntmps := by exact lo_none rfl) : GoodS Tryd.prog f (.fn ks g) :=
  goodS_of ws mixed tbOk hΓ hf (bd hb) hname rfl rfl ⟨fn.ntmps, 0, live⟩ rfl Λ hL ks hk g h hlo
def loop1 (f : Func) : Nat × Code := (loopsOf 0 (body f)).headD (0, .skip)
theorem twoLoops {ρ : Type} [Same ρ] {Γ : Orc} {Λ : Lam ρ} {ms : Lay} {c : Code} {p0 p1 : Nat × Code} (h : loopsOf 0 c = [p0, p1]) (h0 : LoopP tb Γ Λ ms p0) (h1 : LoopP tb Γ Λ ms p1) : ∀ p ∈ loopsOf 0 c, LoopP tb Γ Λ ms p := by
  rw [h]; intro p hp
  rcases List.mem_cons.1 hp with rfl | hp
  · exact h0
  · rw [List.mem_singleton.1 hp]; exact h1
theorem wrap64 {n : Int} (h : -9223372036854775808 ≤ n) (h' : n ≤ 9223372036854775807) : IntKind.i64.wrap n = n := i64_in n ⟨h, h'⟩
theorem wrapU_nonneg (n : Int) : 0 ≤ IntKind.u64.wrap n := by
  have := (wrap_has .u64 n).1
  simpa [IntKind.min, IntKind.signed] using this
theorem wrapU {n : Int} (h : 0 ≤ n) (h' : n ≤ 18446744073709551615) : IntKind.u64.wrap n = n := by
  unfold IntKind.wrap; simp [IntKind.signed, IntKind.bits]; omega
/-- Loops that count up. -/
theorem upLoop {α : Type} {n : Nat} {F : Nat → α → Int → Option AV} {G : Nat → α → Option AV} (h1 : ∀ fuel a, F (fuel + 1) a n = G n a)
    (h2 : ∀ a (j : Nat), j < n → (∃ a', (∀ fuel, F (fuel + 1) a j = F fuel a' ((j + 1 : Nat) : Int)) ∧ G j a = G (j + 1) a') ∨ (∀ fuel, F (fuel + 1) a j = G j a)) :
    ∀ (m j : Nat) (a : α) (out : AV), j + m = n → G j a = some out → ∃ fuel, F fuel a j = some out := by
  intro m
  induction m with
  | zero =>
    intro j a out hj h
    obtain rfl : j = n := by omega
    exact ⟨1, (h1 0 a).trans h⟩
  | succ m ih =>
    intro j a out hj h
    rcases h2 a j (by omega) with ⟨a', g1, g2⟩ | g
    · obtain ⟨fuel, hf⟩ := ih (j + 1) a' out (by omega) (g2 ▸ h)
      exact ⟨fuel + 1, (g1 fuel).trans hf⟩
    · exact ⟨1, (g 0).trans h⟩
theorem lt_dec {j n : Nat} (h : j < n) : decide ((j : Int) < (n : Int)) = true := by simp; omega
theorem nlt_dec (n : Nat) : decide ((n : Int) < (n : Int)) = false := by simp
theorem inB_lt {j n : Nat} (h : j < n) : inB (j : Int) n = true := by simp [inB]; omega
/-- A function's run, its rows handed back. -/
noncomputable def runIO (Γ : Orc) (Λ : Lam (AV × List AV)) (g : Nat) (live : List (Nat × List (Nat × Dir))) (f : Func) (args gs : List AV) (p : Nat) (ws : List WK) : Option (AV × List AV) :=
  aexec tb Γ Λ ⟨f.ntmps, g, live⟩ (body f) 0 (st0 args f.ntmps ++ gs.map fun o => .gho o.ov) (KretIO tb f.ntmps p f.results.toList ws)
def noL2 : Lam (AV × List AV) := fun _ _ _ => none
theorem noLoops2 {Γ : Orc} {Λ : Lam (AV × List AV)} {ms : Lay} {c : Code} (h : loopsOf 0 c = []) : ∀ p ∈ loopsOf 0 c, LoopP tb Γ Λ ms p := by rw [h]; intro p hp; cases hp
theorem goodIO0 {Γ : Orc} (hΓ : OrcOk Tryd.prog Γ) {f : FuncId} {fn : Func} (hf : Tryd.prog.funcs[f]? = some fn) (hb : fn.body.isSome = true) (Λ : Lam (AV × List AV)) (g : Nat) (live : List (Nat × List (Nat × Dir)))
    (hL : ∀ p ∈ loopsOf 0 (body fn), LoopP tb Γ Λ ⟨fn.ntmps, g, live⟩ p) (args : List AV) (hys : renAs true (fun k => some (fn.ntmps + k)) args = some args) (hl : args.length ≤ fn.ntmps) (ws : List WK) {r : AV} {gs' : List AV}
    (h : runIO Γ Λ g live fn args [] 0 ws = some (r, gs')) (hlo : LoOk Γ (fn.ntmps + 0) := by exact lo_none rfl) : GoodIO Tryd.prog f args 0 [] r gs' :=
  good_ofIO mixed tbOk hΓ hf (bd hb) rfl rfl args [] 0 hys (hs := []) rfl rfl (Nat.zero_le _) hl ⟨fn.ntmps, g, live⟩ rfl (Nat.zero_le _) Λ hL ws h hlo
/-- With what it is given. -/
theorem goodIO1 {Γ : Orc} (hΓ : OrcOk Tryd.prog Γ) {f : FuncId} {fn : Func} (hf : Tryd.prog.funcs[f]? = some fn) (hb : fn.body.isSome = true) (Λ : Lam (AV × List AV)) (g : Nat) (live : List (Nat × List (Nat × Dir)))
    (hL : ∀ p ∈ loopsOf 0 (body fn), LoopP tb Γ Λ ⟨fn.ntmps, g, live⟩ p) (args gs : List AV) (p : Nat) {ys hs : List AV} (hys : renAs true (fun k => some (fn.ntmps + k)) args = some ys) (hhs : renAs true (fun k => some (fn.ntmps + k)) gs = some hs)
    (hgo : gs.all AV.isOwner = true) (hp : p ≤ gs.length) (hl : args.length ≤ fn.ntmps) (hmg : gs.length ≤ g) (ws : List WK) {r : AV} {gs' : List AV}
    (h : runIO Γ Λ g live fn ys hs p ws = some (r, gs')) (hlo : LoOk Γ (fn.ntmps + p) := by exact lo_none rfl) : GoodIO Tryd.prog f args p gs r gs' :=
  good_ofIO mixed tbOk hΓ hf (bd hb) rfl rfl args gs p hys hhs hgo hp hl ⟨fn.ntmps, g, live⟩ rfl hmg Λ hL ws h hlo
/-- A function's run, with room for rows of those it calls. -/
noncomputable def runG (Γ : Orc) (Λ : Lam AV) (g : Nat) (live : List (Nat × List (Nat × Dir))) (f : Func) (args : List AV) (ws : List WK) : Option AV :=
  aexec tb Γ Λ ⟨f.ntmps, g, live⟩ (body f) 0 (st0 args f.ntmps) (KretW tb f.results.toList ws)
theorem goodG {Γ : Orc} (hΓ : OrcOk Tryd.prog Γ) {f : FuncId} {fn : Func} (hf : Tryd.prog.funcs[f]? = some fn) (hb : fn.body.isSome = true) (hname : (fn.name == "runtime.NumGoroutine") = false) (Λ : Lam AV) (G : Nat) (live : List (Nat × List (Nat × Dir)))
    (hL : ∀ p ∈ loopsOf 0 (body fn), LoopP tb Γ Λ ⟨fn.ntmps, G, live⟩ p) (ks : List AK) (hk : ks.length ≤ fn.ntmps) (ws : List WK) (g : ADen ks → Bool × AV) (h : ∀ x r, WFA ks x → g x = (true, r) → runG Γ Λ G live fn (encA ks x) ws = some r) (hlo : LoOk Γ fn.ntmps := by exact lo_none rfl) : GoodS Tryd.prog f (.fn ks g) :=
  goodS_of ws mixed tbOk hΓ hf (bd hb) hname rfl rfl ⟨fn.ntmps, G, live⟩ rfl Λ hL ks hk g h hlo

theorem log2_eq {n k : Nat} (h1 : 2 ^ k ≤ n) (h2 : n < 2 ^ (k + 1)) : n.log2 = k := by
  have h0 : n ≠ 0 := by have := Nat.two_pow_pos k; omega
  have a : n.log2 < k + 1 := (Nat.log2_lt h0).2 h2
  have b : ¬ n.log2 < k := fun h => by have := (Nat.log2_lt h0).1 h; omega
  omega
theorem log2_le {n : Nat} (h0 : n ≠ 0) : 2 ^ n.log2 ≤ n := Nat.log2_self_le h0
theorem lt_log2 {n : Nat} : n < 2 ^ (n.log2 + 1) := Nat.lt_log2_self
theorem log2_div {n k : Nat} (h0 : n ≠ 0) (h : k ≤ n.log2) : (n / 2 ^ k).log2 = n.log2 - k := by
  have e1 : 2 ^ n.log2 = 2 ^ (n.log2 - k) * 2 ^ k := by rw [← Nat.pow_add]; congr 1; omega
  have e2 : 2 ^ (n.log2 + 1) = 2 ^ (n.log2 - k + 1) * 2 ^ k := by rw [← Nat.pow_add]; congr 1; omega
  apply log2_eq
  · rw [Nat.le_div_iff_mul_le (Nat.two_pow_pos k), ← e1]; exact log2_le h0
  · rw [Nat.div_lt_iff_lt_mul (Nat.two_pow_pos k), ← e2]; exact lt_log2
theorem div_pos {n k : Nat} (h0 : n ≠ 0) (h : k ≤ n.log2) : n / 2 ^ k ≠ 0 := by
  have : 2 ^ k ≤ n := Nat.le_trans (Nat.pow_le_pow_right (by decide) h) (log2_le h0)
  have : 0 < n / 2 ^ k := Nat.div_pos this (Nat.two_pow_pos k)
  omega
theorem div_div_pow (n a b : Nat) : n / 2 ^ a / 2 ^ b = n / 2 ^ (a + b) := by
  rw [Nat.div_div_eq_div_mul, Nat.pow_add]
/-- A leaf's node. -/
def leafN (h i : Nat) : Nat := 2 ^ h + i
theorem leafN_log2 {h i : Nat} (hi : i < 2 ^ h) : (leafN h i).log2 = h := log2_eq (by unfold leafN; omega) (by unfold leafN; rw [Nat.pow_succ]; omega)
theorem leafN_ne {h i : Nat} : leafN h i ≠ 0 := by have := Nat.two_pow_pos h; unfold leafN; omega
/-- May a node be? -/
def okN (h n : Nat) : Bool := decide (1 ≤ h) && decide (h ≤ 32) && decide (1 ≤ n) && decide (n < 2 ^ (h + 1))
theorem okN_iff {h n : Nat} : okN h n = true ↔ 1 ≤ h ∧ h ≤ 32 ∧ 1 ≤ n ∧ n < 2 ^ (h + 1) := by
  simp [okN, and_assoc]
theorem okN_log {h n : Nat} (hn : n ≠ 0) : n < 2 ^ (h + 1) ↔ n.log2 ≤ h := by
  rw [← Nat.log2_lt hn]; omega
/-- Is a above b (or b itself)? -/
def abv (a b : Nat) : Bool := decide (a.log2 ≤ b.log2) && (b / 2 ^ (b.log2 - a.log2) == a)
theorem abv_iff {a b : Nat} : abv a b = true ↔ a.log2 ≤ b.log2 ∧ b / 2 ^ (b.log2 - a.log2) = a := by simp [abv]
/-- May a subset be? -/
def okS (h i j : Nat) : Bool := okN h i && (j == 0 || (okN h j && abv i j && i != j))
theorem okS_iff {h i j : Nat} : okS h i j = true ↔ okN h i = true ∧ (j = 0 ∨ (okN h j = true ∧ abv i j = true ∧ i ≠ j)) := by
  simp [okS, and_assoc]
/-- Is leaf k in it? -/
def hasN (h i j k : Nat) : Bool := abv i (leafN h k) && (j == 0 || !abv j (leafN h k))
theorem xor_one (n : Nat) : (n ^^^ 1) / 2 = n / 2 ∧ n ^^^ 1 ≠ n := by
  constructor
  · have := Nat.xor_div_two (a := n) (b := 1)
    rw [this]; simp
  · intro h
    have : n ^^^ 1 ^^^ n = 0 := by rw [h]; exact Nat.xor_self n
    rw [Nat.xor_comm, ← Nat.xor_assoc, Nat.xor_self, Nat.zero_xor] at this
    exact absurd this (by decide)
theorem xor_one_div {n k : Nat} (hk : 1 ≤ k) : (n ^^^ 1) / 2 ^ k = n / 2 ^ k := by
  obtain ⟨k, rfl⟩ : ∃ m, k = m + 1 := ⟨k - 1, by omega⟩
  rw [Nat.pow_succ', ← Nat.div_div_eq_div_mul, ← Nat.div_div_eq_div_mul, (xor_one n).1]
theorem xor_one_log2 {n : Nat} (hn : 2 ≤ n) : (n ^^^ 1).log2 = n.log2 := by
  have h1 := (xor_one n).1
  have h0 : n.log2 ≠ 0 := by
    intro h
    have := (Nat.log2_lt (show n ≠ 0 by omega) (k := 1)).1 (by omega)
    omega
  have hx : n ^^^ 1 ≠ 0 := by omega
  have a := log2_le (n := n) (by omega)
  have b := lt_log2 (n := n)
  obtain ⟨k, hk⟩ : ∃ m, n.log2 = m + 1 := ⟨n.log2 - 1, by omega⟩
  rw [hk] at a b ⊢
  apply log2_eq
  · rw [Nat.pow_succ] at *; omega
  · have : 2 ^ (k + 1 + 1) = 2 * (2 * 2 ^ k) := by rw [Nat.pow_succ, Nat.pow_succ]; omega
    omega
/-- THE PAIRS of a leaf: each is a subset that has it. -/
theorem pair_has {h i t d : Nat} (h1 : 1 ≤ h) (h2 : h ≤ 32) (hi : i < 2 ^ h) (ht : t < d) (hd : d ≤ h) :
    okS h (leafN h i / 2 ^ (h - t)) ((leafN h i / 2 ^ (h - d)) ^^^ 1) = true ∧ hasN h (leafN h i / 2 ^ (h - t)) ((leafN h i / 2 ^ (h - d)) ^^^ 1) i = true := by
  have hl := leafN_log2 hi
  have hne := leafN_ne (h := h) (i := i)
  unfold hasN
  generalize leafN h i = L at *
  have lt : (L / 2 ^ (h - t)).log2 = t := by rw [log2_div hne (by omega)]; omega
  have ld : (L / 2 ^ (h - d)).log2 = d := by rw [log2_div hne (by omega)]; omega
  have nt : L / 2 ^ (h - t) ≠ 0 := div_pos hne (by omega)
  have nd : L / 2 ^ (h - d) ≠ 0 := div_pos hne (by omega)
  have nd2 : 2 ≤ L / 2 ^ (h - d) := by
    have := log2_le nd
    rw [ld] at this
    have : 2 ^ 1 ≤ 2 ^ d := Nat.pow_le_pow_right (by decide) (by omega)
    omega
  have lx : ((L / 2 ^ (h - d)) ^^^ 1).log2 = d := by rw [xor_one_log2 nd2, ld]
  have nx : (L / 2 ^ (h - d)) ^^^ 1 ≠ 0 := by
    intro h0; rw [h0, Nat.log2_zero] at lx; omega
  have hh : 2 ^ (h + 1) ≤ 2 ^ 33 := Nat.pow_le_pow_right (by decide) (by omega)
  have up : ((L / 2 ^ (h - d)) ^^^ 1) / 2 ^ (d - t) = L / 2 ^ (h - t) := by
    rw [xor_one_div (by omega), div_div_pow]; congr 2; omega
  refine ⟨okS_iff.2 ⟨okN_iff.2 ⟨h1, h2, Nat.pos_of_ne_zero nt, (okN_log nt).2 (by omega)⟩, .inr ⟨okN_iff.2 ⟨h1, h2, Nat.pos_of_ne_zero nx, (okN_log nx).2 (by omega)⟩, abv_iff.2 ⟨by omega, ?_⟩, ?_⟩⟩, ?_⟩
  · rw [lx, lt]; exact up
  · intro he; have := lt.symm.trans ((congrArg Nat.log2 he).trans lx); omega
  · simp only [Bool.and_eq_true, Bool.or_eq_true, Bool.not_eq_true', beq_iff_eq]
    refine ⟨abv_iff.2 ⟨by omega, by rw [lt, hl]⟩, .inr ?_⟩
    cases hb : abv ((L / 2 ^ (h - d)) ^^^ 1) L with
    | false => rfl
    | true =>
      have e := (abv_iff.1 hb).2
      rw [lx, hl] at e
      exact absurd e.symm (xor_one _).2
def shrI (a k : Int) : Int := a.fdiv (2 ^ min k.toNat 64)
def shlI (a k : Int) : Int := IntKind.u64.wrap (a * 2 ^ min k.toNat 64)
def lenI (n : Int) : Int := bif decide (n ≤ 0) then 0 else (n.toNat.log2 : Int) + 1
def lenTab : ByteArray := ⟨((List.range 256).map fun i : Nat => UInt8.ofNat (lenI (i : Int)).toNat).toArray⟩
def lenR4 (n k : Int) : Option AV := bif inB (IntKind.u8.wrap n) lenTab.size then some (.one (.int .i64 (IntKind.i64.wrap (k + IntKind.i64.wrap (byteAt lenTab (IntKind.u8.wrap n).toNat))))) else none
def lenR3 (n k : Int) : Option AV := bif decide (n ≥ 256) then lenR4 (shrI n 8) (IntKind.i64.wrap (k + 8)) else lenR4 n k
def lenR2 (n k : Int) : Option AV := bif decide (n ≥ 65536) then lenR3 (shrI n 16) (IntKind.i64.wrap (k + 16)) else lenR3 n k
def lenR (n : Int) : Option AV := bif decide (n ≥ 4294967296) then lenR2 (shrI n 32) 32 else lenR2 n 0
theorem r119 (n : Int) : run (orc []) noL [] F119 (encA [.v U] n) [] = lenR n := by kernel_rfl
theorem lenTab_at : ((List.range 256).all fun i : Nat => decide (byteAt lenTab i = lenI (i : Int))) = true := by kernel_rfl
theorem lenTab_size : lenTab.size = 256 := by kernel_rfl
theorem shr_nat {a : Int} (h : 0 ≤ a) {k : Int} (hk : k ≤ 64) : shrI a k = ((a.toNat / 2 ^ k.toNat : Nat) : Int) := by
  unfold shrI
  rw [Int.fdiv_eq_ediv_of_nonneg _ (by apply Int.le_of_lt; exact Int.pow_pos (by decide)), Nat.min_eq_left (by omega)]
  obtain ⟨n, rfl⟩ := Int.eq_ofNat_of_zero_le h
  simp
theorem lenI_nat {n : Nat} (h : n ≠ 0) : lenI n = (n.log2 : Int) + 1 := by
  unfold lenI
  have : decide ((n : Int) ≤ 0) = false := by simp; omega
  rw [this]; rfl
theorem lenI_zero : lenI 0 = 0 := rfl
theorem lenI_div {n k : Nat} (h : 2 ^ k ≤ n) : lenI n = (k : Int) + lenI (n / 2 ^ k : Nat) := by
  have h0 : n ≠ 0 := by have := Nat.two_pow_pos k; omega
  have hk : k ≤ n.log2 := by
    rcases Nat.lt_or_ge n.log2 k with h1 | h1
    · have := (Nat.log2_lt h0).1 h1; omega
    · exact h1
  rw [lenI_nat h0, lenI_nat (div_pos h0 hk), log2_div h0 hk]; omega
theorem lenI_bd {n : Nat} {k : Nat} (h : n < 2 ^ k) : 0 ≤ lenI n ∧ lenI n ≤ k := by
  rcases Nat.eq_zero_or_pos n with rfl | h0
  · exact ⟨by decide, by show (0 : Int) ≤ k; omega⟩
  · rw [lenI_nat (by omega)]
    have := (Nat.log2_lt (show n ≠ 0 by omega)).2 h
    omega
theorem lenR4_ok {n : Nat} {k : Int} (hn : n < 256) (h0 : 0 ≤ k) (h1 : k ≤ 64) : lenR4 n k = some (.one (.int .i64 (k + lenI n))) := by
  have hw : IntKind.u8.wrap (n : Int) = n := by unfold IntKind.wrap; simp [IntKind.signed, IntKind.bits]; omega
  have ht := List.all_eq_true.1 lenTab_at n (List.mem_range.2 hn)
  have hb := lenI_bd (k := 8) (n := n) hn
  unfold lenR4
  rw [hw, lenTab_size, inB_lt hn, Int.toNat_natCast, of_decide_eq_true ht, wrap64 (n := lenI n) (by omega) (by omega), wrap64 (by omega) (by omega)]
  rfl
theorem lenR3_ok {n : Nat} {k : Int} (hn : n < 2 ^ 16) (h0 : 0 ≤ k) (h1 : k ≤ 48) : lenR3 n k = some (.one (.int .i64 (k + lenI n))) := by
  unfold lenR3
  cases h : decide ((n : Int) ≥ 256) with
  | true =>
    have h : 2 ^ 8 ≤ n := by have := of_decide_eq_true h; omega
    rw [shr_nat (by omega) (by decide), wrap64 (by omega) (by omega), lenI_div h]
    exact (lenR4_ok (k := k + 8) (n := n / 2 ^ 8) (by omega) (by omega) (by omega)).trans (by rw [Int.add_assoc]; rfl)
  | false => exact lenR4_ok (by have := of_decide_eq_false h; omega) h0 (by omega)
theorem lenR2_ok {n : Nat} {k : Int} (hn : n < 2 ^ 32) (h0 : 0 ≤ k) (h1 : k ≤ 32) : lenR2 n k = some (.one (.int .i64 (k + lenI n))) := by
  unfold lenR2
  cases h : decide ((n : Int) ≥ 65536) with
  | true =>
    have h : 2 ^ 16 ≤ n := by have := of_decide_eq_true h; omega
    rw [shr_nat (by omega) (by decide), wrap64 (by omega) (by omega), lenI_div h]
    exact (lenR3_ok (k := k + 16) (n := n / 2 ^ 16) (by omega) (by omega) (by omega)).trans (by rw [Int.add_assoc]; rfl)
  | false => exact lenR3_ok (by have := of_decide_eq_false h; omega) h0 (by omega)
theorem lenR_ok {n : Nat} (hn : n < 2 ^ 64) : lenR n = some (.one (.int .i64 (lenI n))) := by
  unfold lenR
  cases h : decide ((n : Int) ≥ 4294967296) with
  | true =>
    have h : 2 ^ 32 ≤ n := by have := of_decide_eq_true h; omega
    rw [shr_nat (by omega) (by decide), lenI_div h]
    exact lenR2_ok (k := 32) (n := n / 2 ^ 32) (by omega) (by omega) (by omega)
  | false => exact (lenR2_ok (n := n) (k := 0) (by have := of_decide_eq_false h; omega) (by decide) (by decide)).trans (by rw [Int.zero_add])
theorem hasU {n : Int} (h : IntKind.u64.has n) : 0 ≤ n ∧ n.toNat < 2 ^ 64 ∧ n = (n.toNat : Int) := by
  have h1 : 0 ≤ n := h.1
  have h2 : n ≤ 18446744073709551615 := h.2
  omega
def s119 : Sp := .fn [.v U] fun n => (true, .one (.int .i64 (lenI n)))
theorem g119 : GoodS Tryd.prog N119 s119 := by
  refine good (.nil _) H119 rfl (by kernel_rfl) noL [] (noLoops (by kernel_rfl)) [.v U] (by decide) [] _ fun n r hw h => ?_
  cases h
  obtain ⟨h0, h1, h2⟩ := hasU hw
  rw [r119, h2]
  exact lenR_ok h1
def highB (h : Int) : Bool := bif decide (h ≥ 1) then decide (h ≤ 32) else false
theorem r360 (h : Int) : run (orc []) noL [] F360 (encA [.v I] h) [] = some (.one (.bool (highB h))) := by kernel_rfl
def s360 : Sp := .fn [.v I] fun h => (true, .one (.bool (highB h)))
theorem g360 : GoodS Tryd.prog N360 s360 := by
  refine good (.nil _) H360 rfl (by kernel_rfl) noL [] (noLoops (by kernel_rfl)) [.v I] (by decide) [] _ fun h r hw e => ?_
  cases e
  exact r360 h
def depI (n : Int) : Int := lenI n - 1
theorem r330 (n : Int) : run (orc [(N119, s119)]) noL [] F330 (encA [.v U] n) [] = some (.one (.int .i64 (IntKind.i64.wrap (lenI n - 1)))) := by kernel_rfl
theorem depI_bd {n : Int} (h : IntKind.u64.has n) : -1 ≤ depI n ∧ depI n ≤ 63 := by
  obtain ⟨h0, h1, h2⟩ := hasU h
  have := lenI_bd h1
  rw [← h2] at this
  unfold depI; omega
def s330 : Sp := .fn [.v U] fun n => (true, .one (.int .i64 (depI n)))
theorem g330 : GoodS Tryd.prog N330 s330 := by
  refine good (.cons g119 (.nil _)) H330 rfl (by kernel_rfl) noL [] (noLoops (by kernel_rfl)) [.v U] (by decide) [] _ fun n r hw e => ?_
  cases e
  have := depI_bd hw
  rw [r330, wrap64 (by unfold depI at this; omega) (by unfold depI at this; omega)]
  rfl
def badN (h n : Int) : Bool := bif bif !highB h then true else decide (n < 1) then true else decide (depI n > h)
def chkI (h n : Int) : Int := bif badN h n then 1 else 0
theorem r366 (h n : Int) : run (orc [(N360, s360), (N330, s330)]) noL [] F366 (encA [.v I, .v U] (h, n)) [] = bif badN h n then some (.one (.int .i64 1)) else some (.one (.int .i64 0)) := by kernel_rfl
def s366 : Sp := .fn [.v I, .v U] fun x => (true, .one (.int .i64 (chkI x.1 x.2)))
theorem g366 : GoodS Tryd.prog N366 s366 := by
  refine good (.cons g360 (.cons g330 (.nil _))) H366 rfl (by kernel_rfl) noL [] (noLoops (by kernel_rfl)) [.v I, .v U] (by decide) [] _ fun x r hw e => ?_
  cases e
  rw [r366]; unfold chkI
  cases badN x.1 x.2 <;> rfl
def both (h a b : Int) : Bool := bif chkI h a != 0 then true else chkI h b != 0
def bothI (h a b : Int) : Int := bif both h a b then 1 else 0
theorem r328 (h a b : Int) : run (orc [(N366, s366)]) noL [] F328 (encA [.v I, .v U, .v U] (h, a, b)) [] = bif both h a b then some (.one (.int .i64 1)) else some (.one (.int .i64 0)) := by kernel_rfl
def s328 : Sp := .fn [.v I, .v U, .v U] fun x => (true, .one (.int .i64 (bothI x.1 x.2.1 x.2.2)))
theorem g328 : GoodS Tryd.prog N328 s328 := by
  refine good (.cons g366 (.nil _)) H328 rfl (by kernel_rfl) noL [] (noLoops (by kernel_rfl)) [.v I, .v U, .v U] (by decide) [] _ fun x r hw e => ?_
  cases e
  rw [r328]; unfold bothI
  cases both x.1 x.2.1 x.2.2 <;> rfl
/-- Two results. -/
def re2 (v e : Int) : AV := .tup [(false, [.int .u64 v]), (false, [.int .i64 e])]
def ri2 (v e : Int) : AV := .tup [(false, [.int .i64 v]), (false, [.int .i64 e])]
def rb2 (v : Bool) (e : Int) : AV := .tup [(false, [.bool v]), (false, [.int .i64 e])]
def orU (a b : Int) : Int := IntKind.u64.wrap (BitVec.ofInt 64 a ||| BitVec.ofInt 64 b).toNat
def leafI (h i : Int) : Int × Int := bif !highB h then (0, 1) else bif decide (shrI i h > 0) then (0, 4) else (orU (shlI 1 h) i, 0)
theorem highB_iff {h : Int} : highB h = true ↔ 1 ≤ h ∧ h ≤ 32 := by
  unfold highB
  cases e : decide (h ≥ 1) with
  | true => have := of_decide_eq_true e; simp; omega
  | false => have := of_decide_eq_false e; simp; omega
theorem high0 {h : Int} (hh : highB h = true) : decide (0 ≤ h) = true := by have := highB_iff.1 hh; exact decide_eq_true (by omega)
def s323 : Sp := .fn [.v I, .v U] fun x => (true, re2 (leafI x.1 x.2).1 (leafI x.1 x.2).2)
def depthI (h n : Int) : Int × Int := bif chkI h n != 0 then (0, chkI h n) else (depI n, 0)
theorem r362 (h n : Int) : run (orc [(N366, s366), (N330, s330)]) noL [] F362 (encA [.v I, .v U] (h, n)) [] = bif chkI h n != 0 then some (ri2 0 (chkI h n)) else some (ri2 (depI n) 0) := by kernel_rfl
def s362 : Sp := .fn [.v I, .v U] fun x => (true, ri2 (depthI x.1 x.2).1 (depthI x.1 x.2).2)
theorem g362 : GoodS Tryd.prog N362 s362 := by
  refine good (.cons g366 (.cons g330 (.nil _))) H362 rfl (by kernel_rfl) noL [] (noLoops (by kernel_rfl)) [.v I, .v U] (by decide) [] _ fun x r hw e => ?_
  obtain ⟨h, n⟩ := x
  cases e
  rw [r362]; unfold depthI
  cases chkI h n != 0 <;> rfl
def outUp (n k : Int) : Bool := bif decide (k < 0) then true else decide (k > depI n)
def upI (h n k : Int) : Int × Int := bif chkI h n != 0 then (0, chkI h n) else bif outUp n k then (0, 4) else (shrI n (depI n - k), 0)
theorem outUp_false {n k : Int} (hw : IntKind.u64.has n) (ho : outUp n k = false) : 0 ≤ k ∧ k ≤ depI n ∧ IntKind.i64.wrap (depI n - k) = depI n - k ∧ decide (0 ≤ depI n - k) = true := by
  have hd := depI_bd hw
  unfold outUp at ho
  cases h1 : decide (k < 0) with
  | true => rw [h1] at ho; cases ho
  | false =>
    rw [h1] at ho
    have h1 := of_decide_eq_false h1
    have h2 := of_decide_eq_false ho
    exact ⟨by omega, by omega, wrap64 (by omega) (by omega), decide_eq_true (by omega)⟩
def s363 : Sp := .fn [.v I, .v U, .v I] fun x => (true, re2 (upI x.1 x.2.1 x.2.2).1 (upI x.1 x.2.1 x.2.2).2)
def aboveB (a b : Int) : Bool := bif decide (depI a ≤ depI b) then shrI b (depI b - depI a) == a else false
theorem r329 (a b : Int) : run (orc [(N330, s330)]) noL [] F329 (encA [.v U, .v U] (a, b)) [] =
    bif decide (0 ≤ IntKind.i64.wrap (depI b - depI a)) || !boolBeq (decide (depI a ≤ depI b)) true then
      some (.one (.bool (bif decide (depI a ≤ depI b) then shrI b (IntKind.i64.wrap (depI b - depI a)) == a else false))) else none := by kernel_rfl
def s329 : Sp := .fn [.v U, .v U] fun x => (true, .one (.bool (aboveB x.1 x.2)))
theorem g329 : GoodS Tryd.prog N329 s329 := by
  refine good (.cons g330 (.nil _)) H329 rfl (by kernel_rfl) noL [] (noLoops (by kernel_rfl)) [.v U, .v U] (by decide) [] _ fun x r hw e => ?_
  obtain ⟨a, b⟩ := x
  cases e
  have ha := depI_bd (n := a) hw.1
  have hb := depI_bd (n := b) hw.2
  have e1 : IntKind.i64.wrap (depI b - depI a) = depI b - depI a := wrap64 (by omega) (by omega)
  rw [r329, e1]; unfold aboveB
  cases h : decide (depI a ≤ depI b) with
  | false => cases decide (0 ≤ depI b - depI a) <;> rfl
  | true =>
    have h := of_decide_eq_true h
    have h0 : decide (0 ≤ depI b - depI a) = true := decide_eq_true (by omega)
    rw [h0]; rfl
def aboveI (h a b : Int) : Bool × Int := bif bothI h a b != 0 then (false, bothI h a b) else (aboveB a b, 0)
theorem r375 (h a b : Int) : run (orc [(N328, s328), (N329, s329)]) noL [] F375 (encA [.v I, .v U, .v U] (h, a, b)) [] = bif bothI h a b != 0 then some (rb2 false (bothI h a b)) else some (rb2 (aboveB a b) 0) := by kernel_rfl
def s375 : Sp := .fn [.v I, .v U, .v U] fun x => (true, rb2 (aboveI x.1 x.2.1 x.2.2).1 (aboveI x.1 x.2.1 x.2.2).2)
theorem g375 : GoodS Tryd.prog N375 s375 := by
  refine good (.cons g328 (.cons g329 (.nil _))) H375 rfl (by kernel_rfl) noL [] (noLoops (by kernel_rfl)) [.v I, .v U, .v U] (by decide) [] _ fun x r hw e => ?_
  obtain ⟨h, a, b⟩ := x
  cases e
  rw [r375]; unfold aboveI
  cases bothI h a b != 0 <;> rfl

@[reducible] def Subset : Ty := .pair U U
@[reducible] def Span : Ty := .pair U U
theorem bad_false {h n : Int} (hb : badN h n = false) : highB h = true ∧ 1 ≤ n ∧ depI n ≤ h := by
  unfold badN at hb
  cases h1 : highB h with
  | false => rw [h1] at hb; cases hb
  | true =>
    rw [h1] at hb
    cases h2 : decide (n < 1) with
    | true => rw [h2] at hb; cases hb
    | false =>
      rw [h2] at hb
      have h2 := of_decide_eq_false h2
      have h3 := of_decide_eq_false hb
      exact ⟨rfl, by omega, by omega⟩
theorem chk_zero {h n : Int} (hc : (chkI h n != 0) = false) : highB h = true ∧ 1 ≤ n ∧ depI n ≤ h := by
  refine bad_false ?_
  cases hb : badN h n with
  | false => rfl
  | true => unfold chkI at hc; rw [hb] at hc; cases hc
theorem dep_wrap {h n : Int} (hw : IntKind.u64.has n) (hc : (chkI h n != 0) = false) : IntKind.i64.wrap (h - depI n) = h - depI n ∧ decide (0 ≤ h - depI n) = true ∧ decide (0 ≤ h) = true := by
  obtain ⟨h1, h2, h3⟩ := chk_zero hc
  have h4 := highB_iff.1 h1
  have h5 := depI_bd hw
  exact ⟨wrap64 (by omega) (by omega), decide_eq_true (by omega), decide_eq_true (by omega)⟩
def rs2 (p : Int × Int) (e : Int) : AV := .tup [(true, [.int .u64 p.1, .int .u64 p.2]), (false, [.int .i64 e])]
def lowI (h n d : Int) : Int := IntKind.u64.wrap (shlI n d - shlI 1 h)
def topI (h n d : Int) : Int := IntKind.u64.wrap (IntKind.u64.wrap (lowI h n d + shlI 1 d) - 1)
def leavesI (h n : Int) : (Int × Int) × Int := bif chkI h n != 0 then ((0, 0), chkI h n) else ((lowI h n (h - depI n), topI h n (h - depI n)), 0)
def s368 : Sp := .fn [.v I, .v U] fun x => (true, rs2 (leavesI x.1 x.2).1 (leavesI x.1 x.2).2)
def xorI (a b : Int) : Int := IntKind.u64.wrap (BitVec.ofInt 64 a ^^^ BitVec.ofInt 64 b).toNat
def meetF (x y : Int) : Option AV := bif decide (0 ≤ lenI (xorI x y)) then some (re2 (shrI x (lenI (xorI x y))) 0) else none
def meetP (a b m : Int) : Option AV := bif decide (0 ≤ IntKind.i64.wrap (depI a - m)) then bif decide (0 ≤ IntKind.i64.wrap (depI b - m)) then meetF (shrI a (IntKind.i64.wrap (depI a - m))) (shrI b (IntKind.i64.wrap (depI b - m))) else none else none
def meetQ (a b m : Int) : Option AV := bif decide (0 ≤ IntKind.i64.wrap (depI b - m)) then bif decide (0 ≤ IntKind.i64.wrap (depI a - m)) then meetF (shrI a (IntKind.i64.wrap (depI a - m))) (shrI b (IntKind.i64.wrap (depI b - m))) else none else none
theorem minI_le (a b : Int) : minI a b ≤ a ∧ minI a b ≤ b ∧ (minI a b = a ∨ minI a b = b) := by
  unfold minI; split <;> omega
theorem lenI_nonneg (n : Int) : 0 ≤ lenI n := by
  unfold lenI
  cases decide (n ≤ 0) with
  | true => exact Int.le_refl 0
  | false => show (0 : Int) ≤ (n.toNat.log2 : Int) + 1; omega
def meetI (h a b : Int) : Int × Int := bif bothI h a b != 0 then (0, bothI h a b) else
  (shrI (shrI a (depI a - minI (depI a) (depI b))) (lenI (xorI (shrI a (depI a - minI (depI a) (depI b))) (shrI b (depI b - minI (depI a) (depI b))))), 0)
def s361 : Sp := .fn [.v I, .v U, .v U] fun x => (true, re2 (meetI x.1 x.2.1 x.2.2).1 (meetI x.1 x.2.1 x.2.2).2)
theorem meet_guard {a b : Int} (ha : IntKind.u64.has a) (hb : IntKind.u64.has b) : IntKind.i64.wrap (depI a - minI (depI a) (depI b)) = depI a - minI (depI a) (depI b) ∧
    IntKind.i64.wrap (depI b - minI (depI a) (depI b)) = depI b - minI (depI a) (depI b) ∧ decide (0 ≤ depI a - minI (depI a) (depI b)) = true ∧ decide (0 ≤ depI b - minI (depI a) (depI b)) = true := by
  have h1 := depI_bd ha
  have h2 := depI_bd hb
  obtain ⟨m1, m2, m3⟩ := minI_le (depI a) (depI b)
  generalize minI (depI a) (depI b) = m at *
  exact ⟨wrap64 (by omega) (by omega), wrap64 (by omega) (by omega), decide_eq_true (by omega), decide_eq_true (by omega)⟩
def subE (h : Int) (s : Subset.D) : Int := bif s.2 == 0 then chkI h s.1 else bif (bif bif (aboveI h s.1 s.2).2 != 0 then true else !(aboveI h s.1 s.2).1 then true else s.1 == s.2) then 1 else 0
theorem r341 (h : Int) (s : Subset.D) : run (orc [(N366, s366), (N375, s375)]) noL [] F341 (encA [.v I, .v Subset] (h, s)) [] =
    bif s.2 == 0 then some (.one (.int .i64 (chkI h s.1))) else bif (bif bif (aboveI h s.1 s.2).2 != 0 then true else !(aboveI h s.1 s.2).1 then true else s.1 == s.2) then some (.one (.int .i64 1)) else some (.one (.int .i64 0)) := by kernel_rfl
def s341 : Sp := .fn [.v I, .v Subset] fun x => (true, .one (.int .i64 (subE x.1 x.2)))
theorem g341 : GoodS Tryd.prog N341 s341 := by
  refine good (.cons g366 (.cons g375 (.nil _))) H341 rfl (by kernel_rfl) noL [] (noLoops (by kernel_rfl)) [.v I, .v Subset] (by decide) [] _ fun x r hw e => ?_
  obtain ⟨h, s⟩ := x
  cases e
  rw [r341]; unfold subE
  cases s.2 == 0 with
  | true => rfl
  | false => cases (bif bif (aboveI h s.1 s.2).2 != 0 then true else !(aboveI h s.1 s.2).1 then true else s.1 == s.2) <;> rfl
def rss (p q : Int × Int) (e : Int) : AV := .tup [(true, [.int .u64 p.1, .int .u64 p.2]), (true, [.int .u64 q.1, .int .u64 q.2]), (false, [.int .i64 e])]
def bothS (h : Int) (s : Subset.D) : (Int × Int) × (Int × Int) × Int := bif subE h s != 0 then ((0, 0), (0, 0), subE h s) else
  bif (bif (leavesI h s.1).2 == 0 then s.2 != 0 else false) then ((leavesI h s.1).1, (leavesI h s.2).1, (leavesI h s.2).2) else ((leavesI h s.1).1, (0, 0), (leavesI h s.1).2)
def s331 : Sp := .fn [.v I, .v Subset] fun x => (true, rss (bothS x.1 x.2).1 (bothS x.1 x.2).2.1 (bothS x.1 x.2).2.2)
def within (x : Int × Int) (i : Int) : Bool := bif decide (x.1 ≤ i) then decide (i ≤ x.2) else false
def s333 : Sp := .fn [.v Span, .raw] fun x => match x.2 with
  | .one (.rp false (.int .u64) i 0) => (true, .one (.bool (within x.1 i)))
  | _ => (false, AV.junk)
def s401 : Sp := .fn [.v I, .v U] fun x => (true, .one (.bool ((leafI x.1 x.2).2 == 0)))
abbrev live400 : List (Nat × Dir) := [(16, .keep), (17, .keep)]
def Λ400 : Lam AV := fun cur vs K =>
  match cur, vs with
  | 0, [.one (.int .i64 0), .one (.int .i64 0)] => K (.exit 0) [.one (.int .i64 0), .one (.int .i64 0)]
  | _, _ => none
def lchk (h : Int) : Int := bif chkI h 1 != 0 then 1 else 0
def s400 : Sp := .fn [.v I, .v (.sl U)] fun x => (x.2.isEmpty, .one (.int .i64 (lchk x.1)))
def rib (k : Int) (b : Bool) : AV := .tup [(false, [.int .i64 k]), (false, [.bool b])]
def s423 : Sp := .fn [.v U] fun x => (true, .one (.bool false))
abbrev live402 : List (Nat × Dir) := [(0, .keep), (1, .keep), (6, .keep), (7, .keep), (8, .keep)]
def Λ402 : Lam AV := fun cur vs K =>
  match cur, vs with
  | 0, [.one (.sl false (.int .u64) none []), .one (.int .u64 x), .one (.int .i64 0), .one (.int .i64 0), .one (.int .i64 0)] =>
    K (.exit 0) [.one (.sl false U none []), .one (.int .u64 x), .one (.int .i64 0), .one (.int .i64 0), .one (.int .i64 0)]
  | _, _ => none
def s402 : Sp := .fn [.v (.sl U), .v U] fun x => (x.1.isEmpty, rib 0 false)
def rif (k : Int) (b : Bool) (e : Int) : AV := .tup [(false, [.int .i64 k]), (false, [.bool b]), (false, [.int .i64 e])]
def noLeaf (h i : Int) : Bool := bif lchk h != 0 then true else !((leafI h i).2 == 0)
def s369 : Sp := .fn [.v I, .v (.sl U), .v U] fun x => (x.2.1.isEmpty, rif 0 false (bif noLeaf x.1 x.2.2 then 1 else 0))
def s332 : Sp := .fn [.v I, .v (.sl U), .v U] fun x => (x.2.1.isEmpty, rb2 false (bif noLeaf x.1 x.2.2 then 1 else 0))
def badH (h : Int) (s : Subset.D) (i : Int) : Bool := bif (bothS h s).2.2 != 0 then true else (bif noLeaf h i then 1 else 0 : Int) != 0
def inS (h : Int) (s : Subset.D) (i : Int) : Bool := bif within (bothS h s).1 i then bif s.2 == 0 then true else !within (bothS h s).2.1 i else false
def hasI (h : Int) (s : Subset.D) (i : Int) : Bool × Int := bif badH h s i then (false, 1) else (inS h s i, 0)
def s312 : Sp := .fn [.v I, .v Subset, .v U] fun x => (true, rb2 (hasI x.1 x.2.1 x.2.2).1 (hasI x.1 x.2.1 x.2.2).2)
abbrev live399 : List (Nat × Dir) := [(0, .keep), (5, .keep)]
def stepK (h : Int) (K : Int → Option AV) : Option AV :=
  bif decide (1 < h) then bif decide (4 < h) then bif decide (9 < h) then bif decide (16 < h) then bif decide (25 < h) then bif decide (36 < h) then none else K 6 else K 5 else K 4 else K 3 else K 2 else K 1
def Λ399 : Lam AV := fun cur vs K =>
  match cur, vs with
  | 0, [.one (.int .i64 h), .one (.int .i64 1)] => stepK h fun n => K (.exit 0) [.one (.int .i64 h), .one (.int .i64 n)]
  | _, _ => none
theorem loop399 : LoopP tb (orc [(N366, s366)]) Λ399 ⟨19, 0, [(0, live399)]⟩ (loop1 F399) := by
  intro vs K out h
  have hcur : (loop1 F399).1 = 0 := by kernel_rfl
  rw [hcur] at h ⊢
  unfold Λ399 at h
  split at h
  · rename_i x _
    refine ⟨6, ?_⟩
    have e : loopN (aexec tb (orc [(N366, s366)]) Λ399 ⟨19, 0, [(0, live399)]⟩ (loop1 F399).2 0) 19 0 live399 K 6 [.one (.int .i64 x), .one (.int .i64 1)] =
      stepK x fun n => K (.exit 0) [.one (.int .i64 x), .one (.int .i64 n)] := by kernel_rfl
    exact e.trans h
  · cases h
def stepN (h : Int) : Int := bif decide (1 < h) then bif decide (4 < h) then bif decide (9 < h) then bif decide (16 < h) then bif decide (25 < h) then 6 else 5 else 4 else 3 else 2 else 1
def stepI (h : Int) : Int × Int := bif chkI h 1 != 0 then (0, chkI h 1) else (stepN h, 0)
theorem r399 (h : Int) : run (orc [(N366, s366)]) Λ399 [(0, live399)] F399 (encA [.v I] h) [] = bif chkI h 1 != 0 then some (ri2 0 (chkI h 1)) else stepK h fun n => some (ri2 n 0) := by kernel_rfl
def s399 : Sp := .fn [.v I] fun h => (true, ri2 (stepI h).1 (stepI h).2)
theorem stepK_eq {h : Int} (h1 : h ≤ 32) (K : Int → Option AV) : stepK h K = K (stepN h) := by
  unfold stepK stepN
  rw [decide_eq_false (show ¬ 36 < h by omega)]
  cases decide (1 < h) <;> cases decide (4 < h) <;> cases decide (9 < h) <;> cases decide (16 < h) <;> cases decide (25 < h) <;> rfl
theorem g399 : GoodS Tryd.prog N399 s399 := by
  refine good (.cons g366 (.nil _)) H399 rfl (by kernel_rfl) Λ399 [(0, live399)] (oneLoop (p0 := loop1 F399) (by kernel_rfl) loop399) [.v I] (by decide) [] _ fun h r hw e => ?_
  cases e
  rw [r399]; unfold stepI
  cases hc : chkI h 1 != 0 with
  | true => rfl
  | false =>
    have := highB_iff.1 (chk_zero hc).1
    simp only [cond_false]
    exact stepK_eq this.2 _
theorem stepN_pos (h : Int) : 1 ≤ stepN h ∧ stepN h ≤ 6 := by
  unfold stepN
  cases decide (1 < h) <;> cases decide (4 < h) <;> cases decide (9 < h) <;> cases decide (16 < h) <;> cases decide (25 < h) <;> decide
def dpV (i j n h e : Int) : AV := .tup [(false, [.int .i64 i]), (false, [.int .i64 j]), (false, [.int .i64 (minI (IntKind.i64.wrap (IntKind.i64.wrap (IntKind.i64.wrap (i.tdiv n) + 1) * n)) h)]), (false, [.bool (bif i.tmod n == 0 then true else i == h)]), (false, [.int .i64 e])]
noncomputable def dpA (b : Bool) (i j n h e : Int) : Option AV :=
  allSame (List.replicate 3 (some (.tup [(false, [.int .i64 i]), (false, [.int .i64 j]), (false, [.int .i64 (minI (IntKind.i64.wrap (IntKind.i64.wrap (IntKind.i64.wrap (i.tdiv n) + 1) * n)) h)]), (false, [.bool b]), (false, [.int .i64 e])])))
noncomputable def dpR (i j n h e : Int) : Option AV := bif !decide (n = 0) then bif !decide (n = 0) then bif i.tmod n == 0 then dpA true i j n h e else dpA (i == h) i j n h e else none else none
theorem r365 (h : Int) (s : Subset.D) : run (orc [(N399, s399), (N362, s362)]) noL [] F365 (encA [.v I, .v Subset] (h, s)) [] =
    bif (stepI h).2 != 0 then some (.tup [(false, [.int .i64 0]), (false, [.int .i64 0]), (false, [.int .i64 0]), (false, [.bool false]), (false, [.int .i64 (stepI h).2])]) else
    bif (bif (depthI h s.1).2 == 0 then s.2 != 0 else false) then dpR (depthI h s.1).1 (depthI h s.2).1 (stepI h).1 h (depthI h s.2).2 else dpR (depthI h s.1).1 0 (stepI h).1 h (depthI h s.1).2 := by kernel_rfl
def nxI (i n h : Int) : Int := minI (IntKind.i64.wrap (IntKind.i64.wrap (IntKind.i64.wrap (i.tdiv n) + 1) * n)) h
def spB (i n h : Int) : Bool := bif i.tmod n == 0 then true else i == h
def rd5 (i j x : Int) (b : Bool) (e : Int) : AV := .tup [(false, [.int .i64 i]), (false, [.int .i64 j]), (false, [.int .i64 x]), (false, [.bool b]), (false, [.int .i64 e])]
def depB (h : Int) (s : Subset.D) : Bool := bif (depthI h s.1).2 == 0 then s.2 != 0 else false
def depJ (h : Int) (s : Subset.D) : Int := bif depB h s then (depthI h s.2).1 else 0
def depE (h : Int) (s : Subset.D) : Int := bif depB h s then (depthI h s.2).2 else (depthI h s.1).2
def depsV (h : Int) (s : Subset.D) : AV := bif (stepI h).2 != 0 then rd5 0 0 0 false (stepI h).2 else
  rd5 (depthI h s.1).1 (depJ h s) (nxI (depthI h s.1).1 (stepI h).1 h) (spB (depthI h s.1).1 (stepI h).1 h) (depE h s)
def s365 : Sp := .fn [.v I, .v Subset] fun x => (true, depsV x.1 x.2)
theorem dpR_eq {i j n h e : Int} (hn : n ≠ 0) : dpR i j n h e = some (rd5 i j (nxI i n h) (spB i n h) e) := by
  unfold dpR dpA
  rw [decide_eq_false hn]
  unfold spB
  cases i.tmod n == 0 with
  | true => exact allSame_rep _ 2
  | false => exact allSame_rep _ 2
theorem stepI_ok {h : Int} (he : ((stepI h).2 != 0) = false) : (stepI h).1 = stepN h ∧ (chkI h 1 != 0) = false := by
  unfold stepI at he ⊢
  cases hc : chkI h 1 != 0 with
  | true => rw [hc] at he; simp only [cond_true] at he; rw [hc] at he; cases he
  | false => exact ⟨rfl, rfl⟩
theorem stepI_ne {h : Int} (he : ((stepI h).2 != 0) = false) : (stepI h).1 ≠ 0 := by
  rw [(stepI_ok he).1]
  have := stepN_pos h
  omega
theorem g365 : GoodS Tryd.prog N365 s365 := by
  refine good (.cons g399 (.cons g362 (.nil _))) H365 rfl (by kernel_rfl) noL [] (noLoops (by kernel_rfl)) [.v I, .v Subset] (by decide) [] _ fun x r hw e => ?_
  obtain ⟨h, s⟩ := x
  cases e
  rw [r365]
  show _ = some (depsV h s)
  unfold depsV depJ depE
  cases hs : (stepI h).2 != 0 with
  | true => rfl
  | false =>
    rw [dpR_eq (stepI_ne hs), dpR_eq (stepI_ne hs)]
    show (bif depB h s then _ else _) = _
    cases depB h s <;> rfl
def useB (h : Int) (s : Subset.D) : Bool := bif (bif (stepI h).2 != 0 then (stepI h).2 else depE h s) == 0 then (bif (bif (stepI h).2 != 0 then false else spB (depthI h s.1).1 (stepI h).1 h) then true else decide ((bif (stepI h).2 != 0 then 0 else depJ h s) ≤ (bif (stepI h).2 != 0 then 0 else nxI (depthI h s.1).1 (stepI h).1 h))) else false
def useI (h : Int) (s : Subset.D) : Bool × Int := bif subE h s != 0 then (false, subE h s) else bif s.2 == 0 then (s.1 == 1, 0) else
  (useB h s, bif (stepI h).2 != 0 then (stepI h).2 else depE h s)
def use5 (i j x : Int) (b : Bool) (e : Int) : Option AV := some (rb2 (bif e == 0 then (bif b then true else decide (j ≤ x)) else false) e)
def s365' : Sp := .fn [.v I, .v Subset] fun x => (true, rd5 (bif (stepI x.1).2 != 0 then 0 else (depthI x.1 x.2.1).1) (bif (stepI x.1).2 != 0 then 0 else depJ x.1 x.2) (bif (stepI x.1).2 != 0 then 0 else nxI (depthI x.1 x.2.1).1 (stepI x.1).1 x.1)
  (bif (stepI x.1).2 != 0 then false else spB (depthI x.1 x.2.1).1 (stepI x.1).1 x.1) (bif (stepI x.1).2 != 0 then (stepI x.1).2 else depE x.1 x.2))
theorem s365_eq : s365 = s365' := by
  unfold s365 s365'
  congr 1
  funext x
  obtain ⟨h, s⟩ := x
  show (true, depsV h s) = _
  unfold depsV
  simp only
  cases (stepI h).2 != 0 <;> rfl
theorem r327 (h : Int) (s : Subset.D) : run (orc [(N341, s341), (N365, s365')]) noL [] F327 (encA [.v I, .v Subset] (h, s)) [] =
    bif subE h s != 0 then some (rb2 false (subE h s)) else bif s.2 == 0 then some (rb2 (s.1 == 1) 0) else some (rb2 (useB h s) (bif (stepI h).2 != 0 then (stepI h).2 else depE h s)) := by kernel_rfl
def s327 : Sp := .fn [.v I, .v Subset] fun x => (true, rb2 (useI x.1 x.2).1 (useI x.1 x.2).2)
theorem g327 : GoodS Tryd.prog N327 s327 := by
  refine good (.cons g341 (.cons (s365_eq ▸ g365) (.nil _))) H327 rfl (by kernel_rfl) noL [] (noLoops (by kernel_rfl)) [.v I, .v Subset] (by decide) [] _ fun x r hw e => ?_
  obtain ⟨h, s⟩ := x
  cases e
  rw [r327]; unfold useI
  cases subE h s != 0 with
  | true => rfl
  | false => cases s.2 == 0 <;> rfl
def schE (h k : Int) : Int := bif (bif decide (k < 1) then true else decide (k > 3)) then 1 else chkI h 1
theorem r348 (h k : Int) : run (orc [(N366, s366)]) noL [] F348 (encA [.v I, .v I] (h, k)) [] = bif (bif decide (k < 1) then true else decide (k > 3)) then some (.one (.int .i64 1)) else some (.one (.int .i64 (chkI h 1))) := by kernel_rfl
def s348 : Sp := .fn [.v I, .v I] fun x => (true, .one (.int .i64 (schE x.1 x.2)))
theorem g348 : GoodS Tryd.prog N348 s348 := by
  refine good (.cons g366 (.nil _)) H348 rfl (by kernel_rfl) noL [] (noLoops (by kernel_rfl)) [.v I, .v I] (by decide) [] _ fun x r hw e => ?_
  obtain ⟨h, k⟩ := x
  cases e
  rw [r348]; unfold schE
  cases (bif decide (k < 1) then true else decide (k > 3)) <;> rfl
def mayB3 (h k : Int) (s : Subset.D) : Bool := bif schE h k != 0 then true else subE h s != 0
def mayI (h k : Int) (s : Subset.D) : Bool × Int := bif mayB3 h k s then (false, 1) else bif k == 1 then (s.2 == 0, 0) else bif k == 2 then (bif s.2 != 0 then true else s.1 == 1, 0) else useI h s
theorem r318 (h k : Int) (s : Subset.D) : run (orc [(N348, s348), (N341, s341), (N327, s327)]) noL [] F318 (encA [.v I, .v I, .v Subset] (h, k, s)) [] =
    bif mayB3 h k s then some (rb2 false 1) else bif k == 1 then some (rb2 (s.2 == 0) 0) else bif k == 2 then some (rb2 (bif s.2 != 0 then true else s.1 == 1) 0) else some (rb2 (useI h s).1 (useI h s).2) := by kernel_rfl
def s318 : Sp := .fn [.v I, .v I, .v Subset] fun x => (true, rb2 (mayI x.1 x.2.1 x.2.2).1 (mayI x.1 x.2.1 x.2.2).2)
theorem g318 : GoodS Tryd.prog N318 s318 := by
  refine good (.cons g348 (.cons g341 (.cons g327 (.nil _)))) H318 rfl (by kernel_rfl) noL [] (noLoops (by kernel_rfl)) [.v I, .v I, .v Subset] (by decide) [] _ fun x r hw e => ?_
  obtain ⟨h, k, s⟩ := x
  cases e
  rw [r318]; unfold mayI
  cases mayB3 h k s with
  | true => rfl
  | false =>
    cases k == 1 with
    | true => rfl
    | false => cases k == 2 <;> rfl
abbrev live364 : List (Nat × Dir) := [(0, .keep), (2, .keep), (4, .keep), (16, .keep), (17, .keep)]
def vs364 (h n st i : Int) : List AV := [.one (.int .i64 h), .one (.int .i64 n), .one (.int .i64 st), .one (.int .i64 h), .one (.int .i64 i)]
def prS (h st i n : Int) : Int := bif i.tmod st == 0 then IntKind.i64.wrap (n + IntKind.i64.wrap (h - i)) else IntKind.i64.wrap (n + IntKind.i64.wrap (nxI i st h - i))
def prG (h st : Int) : Nat → Nat → Int → Int
  | 0, _, n => n
  | m + 1, j, n => prG h st m (j + 1) (prS h st j n)
def pairsN (h : Int) : Int := prG h (stepN h) h.toNat 0 0
def Λ364 : Lam AV := fun cur vs K =>
  match cur, vs with
  | 0, [.one (.int .i64 h), .one (.int .i64 0), .one (.int .i64 st), .one (.int .i64 h'), .one (.int .i64 0)] =>
    bif decide (h' = h) && decide (1 ≤ h) && decide (h ≤ 32) && decide (st ≠ 0) then K (.exit 0) (vs364 h (prG h st h.toNat 0 0) st h) else none
  | _, _ => none
def pairsI (h : Int) : Int × Int := bif (stepI h).2 != 0 then (0, (stepI h).2) else (pairsN h, 0)
def s364 : Sp := .fn [.v I] fun h => (true, ri2 (pairsI h).1 (pairsI h).2)
theorem pairsN_all : ((List.range 33).all fun h : Nat => decide (0 ≤ pairsN (h : Int)) && decide (pairsN (h : Int) ≤ 1000)) = true := by kernel_rfl
theorem pairsN_bd {h : Int} (h1 : 1 ≤ h) (h2 : h ≤ 32) : 0 ≤ pairsN h ∧ pairsN h ≤ 1000 := by
  obtain ⟨H, rfl⟩ := Int.eq_ofNat_of_zero_le (show 0 ≤ h by omega)
  have := List.all_eq_true.1 pairsN_all H (List.mem_range.2 (by omega))
  simpa using this
def manyV (h k : Int) : Int × Int := bif (pairsI h).2 != 0 then (0, (pairsI h).2) else bif k == 1 then (IntKind.i64.wrap (h + 1), 0) else
  bif k == 2 then (IntKind.i64.wrap (IntKind.i64.wrap ((IntKind.i64.wrap (h * IntKind.i64.wrap (h + 1))).tdiv 2) + 1), 0) else bif k == 3 then (IntKind.i64.wrap ((pairsI h).1 + 1), 0) else (0, 1)
def s326 : Sp := .fn [.v I, .v I] fun x => (true, ri2 (manyV x.1 x.2).1 (manyV x.1 x.2).2)

abbrev lv310 : List (Nat × Dir) := [(0, .keep), (1, .keep), (10, .keep), (12, .arr Subset)]
abbrev live310 : List (Nat × List (Nat × Dir)) := [(0, lv310 ++ [(42, .keep), (43, .keep)]), (2, lv310 ++ [(61, .keep), (62, .keep)]), (4, lv310 ++ [(14, .keep), (15, .keep), (61, .keep), (62, .keep)])]
def loopK (f : Func) (k : Nat) : Nat × Code := (loopsOf 0 (body f)).getD k (0, .skip)
def vsA (h k leaf : Int) (out : List Subset.D) : List AV := [.one (.int .i64 h), .one (.int .i64 k), .one (.int .u64 leaf), .arr true Subset out]
theorem threeLoops {Γ : Orc} {Λ : Lam AV} {ms : Lay} {c : Code} {p0 p1 p2 : Nat × Code} (h : loopsOf 0 c = [p0, p1, p2]) (h0 : LoopP tb Γ Λ ms p0) (h1 : LoopP tb Γ Λ ms p1) (h2 : LoopP tb Γ Λ ms p2) : ∀ p ∈ loopsOf 0 c, LoopP tb Γ Λ ms p := by
  rw [h]; intro p hp
  rcases List.mem_cons.1 hp with rfl | hp
  · exact h0
  · rcases List.mem_cons.1 hp with rfl | hp
    · exact h1
    · rw [List.mem_singleton.1 hp]; exact h2
def wG (h leaf : Int) : Nat → Nat → List Subset.D → List Subset.D
  | 0, _, out => out
  | m + 1, j, out => wG h leaf m (j + 1) (out ++ [(shrI leaf (h - j), 0)])
def prP (h leaf t d : Int) : Int × Int := (shrI leaf (h - t), xorI (shrI leaf (h - d)) 1)
def keepB (h k : Int) (s : Int × Int) : Bool := bif k == 3 then !(bif (useI h s).2 != 0 then true else !(useI h s).1) else true
def inG (h k leaf : Int) (t : Nat) : Nat → Nat → List Subset.D → List Subset.D
  | 0, _, out => out
  | m + 1, d, out => inG h k leaf t m (d + 1) (bif keepB h k (prP h leaf t d) then out ++ [prP h leaf t d] else out)
def outG (h k leaf : Int) : Nat → Nat → List Subset.D → List Subset.D
  | 0, _, out => out
  | m + 1, t, out => outG h k leaf m (t + 1) (inG h k leaf t (h.toNat - t) (t + 1) out)
def c4 (h t d : Int) (out : List Subset.D) : Bool := decide (1 ≤ h) && decide (h ≤ 32) && decide (0 ≤ t) && decide (t < h) && decide (d = t + 1) && decide (out.length ≤ 2000)
def vs0 (h k leaf n i : Int) (out : List Subset.D) : List AV := vsA h k leaf out ++ [.one (.int .i64 n), .one (.int .i64 i)]
def vs4' (h k leaf t d n i : Int) (out : List Subset.D) : List AV := vsA h k leaf out ++ [.one (.int .i64 t), .one (.int .i64 d), .one (.int .i64 n), .one (.int .i64 i)]
def Λ310 : Lam AV := fun cur vs K =>
  match cur, vs with
  | 0, [.one (.int .i64 h), .one (.int .i64 k), .one (.int .u64 leaf), .arr true (.pair (.int .u64) (.int .u64)) [], .one (.int .i64 n), .one (.int .i64 0)] =>
    bif decide (1 ≤ h) && decide (h ≤ 32) && decide (n = h + 1) then K (.exit 0) (vs0 h k leaf n n (wG h leaf (h.toNat + 1) 0 [])) else none
  | 2, [.one (.int .i64 h), .one (.int .i64 k), .one (.int .u64 leaf), .arr true (.pair (.int .u64) (.int .u64)) out, .one (.int .i64 n), .one (.int .i64 0)] =>
    bif decide (1 ≤ h) && decide (h ≤ 32) && decide (n = h) && decide (out.length ≤ 1) then K (.exit 2) (vs0 h k leaf n n (outG h k leaf h.toNat 0 out)) else none
  | 4, [.one (.int .i64 h), .one (.int .i64 k), .one (.int .u64 leaf), .arr true (.pair (.int .u64) (.int .u64)) out, .one (.int .i64 t), .one (.int .i64 d), .one (.int .i64 n), .one (.int .i64 i)] =>
    bif c4 h t d out then K (.exit 4) (vs4' h k leaf t (h + 1) n i (inG h k leaf t.toNat (h.toNat - t.toNat) d.toNat out)) else none
  | _, _ => none
def prW (h leaf t d : Int) : Int × Int := (shrI leaf (IntKind.i64.wrap (h - t)), xorI (shrI leaf (IntKind.i64.wrap (h - d))) 1)
/-- Loops that count up, with what holds at each place. -/
theorem upLoopI {α : Type} {n : Nat} {F : Nat → α → Int → Option AV} {G : Nat → α → Option AV} {Inv : Nat → α → Prop} (h1 : ∀ fuel a, F (fuel + 1) a n = G n a)
    (h2 : ∀ a (j : Nat), j < n → Inv j a → (∃ a', Inv (j + 1) a' ∧ (∀ fuel, F (fuel + 1) a j = F fuel a' ((j + 1 : Nat) : Int)) ∧ G j a = G (j + 1) a') ∨ (∀ fuel, F (fuel + 1) a j = G j a)) :
    ∀ (m j : Nat) (a : α) (out : AV), j + m = n → Inv j a → G j a = some out → ∃ fuel, F fuel a j = some out := by
  intro m
  induction m with
  | zero =>
    intro j a out hj _ h
    obtain rfl : j = n := by omega
    exact ⟨1, (h1 0 a).trans h⟩
  | succ m ih =>
    intro j a out hj hi h
    rcases h2 a j (by omega) hi with ⟨a', g0, g1, g2⟩ | g
    · obtain ⟨fuel, hf⟩ := ih (j + 1) a' out (by omega) g0 (g2 ▸ h)
      exact ⟨fuel + 1, (g1 fuel).trans hf⟩
    · exact ⟨1, (g 0).trans h⟩
theorem len_ok {n : Nat} (h : n ≤ 5000) : decide ((n + 1) * 16 ≤ 140737488355328) = true := decide_eq_true (by omega)
theorem sub_wrap {H j : Nat} (h1 : H ≤ 32) (h2 : j ≤ H) : IntKind.i64.wrap ((H : Int) - (j : Int)) = (H : Int) - (j : Int) ∧ decide (0 ≤ (H : Int) - (j : Int)) = true := ⟨wrap64 (by omega) (by omega), decide_eq_true (by omega)⟩
theorem inG_len (h k leaf : Int) (t : Nat) : ∀ (m d : Nat) (out : List Subset.D), (inG h k leaf t m d out).length ≤ out.length + m := by
  intro m
  induction m with
  | zero => intro d out; exact Nat.le_refl _
  | succ m ih =>
    intro d out
    refine Nat.le_trans (ih _ _) ?_
    cases keepB h k (prP h leaf t d) <;> simp <;> omega
def rls (l : List Subset.D) (e : Int) : AV := .tup [(false, [.sl true Subset none l]), (false, [.int .i64 e])]
def noPr (h k i : Int) : Bool := bif (manyV h k).2 != 0 then true else (leafI h i).2 != 0
def pairsL (h k i : Int) : List Subset.D × Int := bif noPr h k i then ([], 1) else bif k == 1 then (wG h (leafI h i).1 (h.toNat + 1) 0 [], 0) else (outG h k (leafI h i).1 h.toNat 0 [(1, 0)], 0)
theorem many_all : ((List.range 33).all fun h : Nat => ([1, 2, 3] : List Int).all fun k => decide (0 ≤ (manyV (h : Int) k).1) && decide ((manyV (h : Int) k).1 ≤ 2000)) = true := by kernel_rfl
theorem many_ok {h k : Int} (e : ((manyV h k).2 != 0) = false) : 1 ≤ h ∧ h ≤ 32 ∧ (k = 1 ∨ k = 2 ∨ k = 3) ∧ 0 ≤ (manyV h k).1 ∧ (manyV h k).1 ≤ 2000 := by
  have hp : ((pairsI h).2 != 0) = false := by
    cases hp : (pairsI h).2 != 0 with
    | false => rfl
    | true => unfold manyV at e; rw [hp] at e; simp only [cond_true] at e; rw [hp] at e; cases e
  have hs : ((stepI h).2 != 0) = false := by
    cases hs : (stepI h).2 != 0 with
    | false => rfl
    | true => unfold pairsI at hp; rw [hs] at hp; simp only [cond_true] at hp; rw [hs] at hp; cases hp
  have h1 := highB_iff.1 (chk_zero (stepI_ok hs).2).1
  have hk : k = 1 ∨ k = 2 ∨ k = 3 := by
    unfold manyV at e
    rw [hp] at e
    cases k1 : k == 1 with
    | true => exact .inl (by simpa using k1)
    | false =>
      cases k2 : k == 2 with
      | true => exact .inr (.inl (by simpa using k2))
      | false =>
        cases k3 : k == 3 with
        | true => exact .inr (.inr (by simpa using k3))
        | false => rw [k1, k2, k3] at e; cases e
  obtain ⟨H, rfl⟩ := Int.eq_ofNat_of_zero_le (show 0 ≤ h by omega)
  have ha := List.all_eq_true.1 (List.all_eq_true.1 many_all H (List.mem_range.2 (by omega))) k (by rcases hk with rfl | rfl | rfl <;> simp)
  simp only [Bool.and_eq_true, decide_eq_true_eq] at ha
  exact ⟨h1.1, h1.2, hk, ha.1, ha.2⟩
def s310 : Sp := .fn [.v I, .v I, .v U] fun x => (true, rls (pairsL x.1 x.2.1 x.2.2).1 (pairsL x.1 x.2.1 x.2.2).2)
theorem noPr_ok {h k i : Int} (e : noPr h k i = false) : ((manyV h k).2 != 0) = false ∧ ((leafI h i).2 != 0) = false := by
  unfold noPr at e
  cases hm : (manyV h k).2 != 0 with
  | true => rw [hm] at e; cases e
  | false => rw [hm] at e; exact ⟨rfl, e⟩
theorem manyGuard {n : Int} (h1 : 0 ≤ n) (h2 : n ≤ 2000) : (decide ((0 : Int) ≤ 0) && decide (0 ≤ n) && decide ((16 : Int) * n ≤ 281474976710656)) = true := by
  rw [decide_eq_true (show (0 : Int) ≤ 0 from Int.le_refl 0), decide_eq_true h1, decide_eq_true (by omega)]; rfl
theorem hWrap {h : Int} (h1 : 1 ≤ h) (h2 : h ≤ 32) : IntKind.i64.wrap (h + 1) = h + 1 := wrap64 (by omega) (by omega)
abbrev live311 : List (Nat × Dir) := [(2, .keep), (8, .keep), (9, .arr I), (29, .keep), (30, .keep)]
def vs311 (b n : Int) (l : List Int) (i : Int) : List AV := [.one (.int .u64 b), .one (.int .i64 n), .arr true I l, .one (.int .i64 n), .one (.int .i64 i)]
def Γ311 : Orc := orc [(N328, s328), (N329, s329), (N330, s330)]
def bitI (b j : Int) : Int := IntKind.i64.wrap (IntKind.u64.wrap (BitVec.ofInt 64 (shrI b j) &&& BitVec.ofInt 64 1).toNat)
def setG (b : Int) (n : Nat) : Nat → Nat → List Int → List Int
  | 0, _, l => l
  | m + 1, j, l => setG b n m (j + 1) (l.set (n - 1 - j) (bitI b j))
theorem step311 (b n i : Int) (l : List Int) (Λ : Lam AV) (fuel : Nat) (K : AE → List AV → Option AV) : loopN (aexec tb Γ311 Λ ⟨46, 0, [(1, live311)]⟩ (loopK F311 0).2 1) 46 0 live311 K (fuel + 1) (vs311 b n l i) =
    bif decide (i < n) then bif decide (0 ≤ i) then bif inB (IntKind.i64.wrap (IntKind.i64.wrap (n - 1) - i)) l.length then
      loopN (aexec tb Γ311 Λ ⟨46, 0, [(1, live311)]⟩ (loopK F311 0).2 1) 46 0 live311 K fuel (vs311 b n (l.set (IntKind.i64.wrap (IntKind.i64.wrap (n - 1) - i)).toNat (bitI b i)) (IntKind.i64.wrap (i + 1)))
    else none else none else K (.exit 1) (vs311 b n l i) := by kernel_rfl
def Λ311 : Lam AV := fun cur vs K =>
  match cur, vs with
  | 1, [.one (.int .u64 b), .one (.int .i64 n), .arr true (.int .i64) l, .one (.int .i64 n'), .one (.int .i64 0)] =>
    bif decide (n' = n) && decide (n = l.length) && decide (n ≤ 64) then K (.exit 1) (vs311 b n (setG b n.toNat n.toNat 0 l) n) else none
  | _, _ => none
theorem loop311 : LoopP tb Γ311 Λ311 ⟨46, 0, [(1, live311)]⟩ (loopK F311 0) := by
  intro vs K out e
  have hcur : (loopK F311 0).1 = 1 := by kernel_rfl
  rw [hcur] at e ⊢
  unfold Λ311 at e
  split at e
  · rename_i b n l0 n' _
    cases hc : (decide (n' = n) && decide (n = l0.length) && decide (n ≤ 64)) with
    | false => rw [hc] at e; cases e
    | true =>
      rw [hc] at e
      simp only [cond_true] at e
      simp only [Bool.and_eq_true, decide_eq_true_eq] at hc
      obtain ⟨⟨rfl, hn⟩, h64⟩ := hc
      obtain ⟨N, rfl⟩ := Int.eq_ofNat_of_zero_le (show 0 ≤ n' by omega)
      refine upLoopI (α := List Int) (n := N) (F := fun fuel l i => loopN (aexec tb Γ311 Λ311 ⟨46, 0, [(1, live311)]⟩ (loopK F311 0).2 1) 46 0 live311 K fuel (vs311 b N l i))
        (G := fun j l => K (.exit 1) (vs311 b N (setG b N (N - j) j l) N)) (Inv := fun j l => l.length = N) (fun fuel l => ?_) (fun l j hj hi => ?_) N 0 l0 out (by omega) (by omega) e
      · simp only [step311, nlt_dec, cond_false, Nat.sub_self, setG]
      · left
        refine ⟨l.set (N - 1 - j) (bitI b j), by simpa using hi, fun fuel => ?_, ?_⟩
        · have e1 : IntKind.i64.wrap (IntKind.i64.wrap ((N : Int) - 1) - (j : Int)) = ((N - 1 - j : Nat) : Int) := by
            rw [wrap64 (n := (N : Int) - 1) (by omega) (by omega), wrap64 (by omega) (by omega)]; omega
          simp only [step311, lt_dec hj, cond_true, e1, inB_lt (show N - 1 - j < l.length by omega), Int.toNat_natCast]
          rw [decide_eq_true (show (0 : Int) ≤ (j : Int) by omega), wrap64 (n := (j : Int) + 1) (by omega) (by omega)]; rfl
        · have : N - j = (N - (j + 1)) + 1 := by omega
          rw [this, setG]
  · cases e
def pathN (a b : Int) : Int := depI b - depI a
def pathI (h a b : Int) : List Int × Int := bif bothI h a b != 0 then ([], 1) else bif !aboveB a b then ([], 4) else (setG b (pathN a b).toNat (pathN a b).toNat 0 (List.replicate (pathN a b).toNat 0), 0)
def rli (l : List Int) (e : Int) : AV := .tup [(false, [.sl true I none l]), (false, [.int .i64 e])]
def pathR (b n : Int) : Option AV := bif decide (0 ≤ n) && decide (n ≤ n) && decide ((8 : Int) * n ≤ 281474976710656) then
  bif decide (n = n) && decide (n = (List.replicate n.toNat (0 : Int)).length) && decide (n ≤ 64) then some (rli (setG b n.toNat n.toNat 0 (List.replicate n.toNat 0)) 0) else none else none
theorem r311 (h a b : Int) : run Γ311 Λ311 [(1, live311)] F311 (encA [.v I, .v U, .v U] (h, a, b)) [.sl true I] =
    bif bothI h a b != 0 then some (rli [] 1) else bif !aboveB a b then some (rli [] 4) else pathR b (IntKind.i64.wrap (depI b - depI a)) := by kernel_rfl
theorem above_le {a b : Int} (h : aboveB a b = true) : depI a ≤ depI b := by
  unfold aboveB at h
  cases hd : decide (depI a ≤ depI b) with
  | true => exact of_decide_eq_true hd
  | false => rw [hd] at h; cases h
theorem pathR_ok {b n : Int} (h1 : 0 ≤ n) (h2 : n ≤ 64) : pathR b n = some (rli (setG b n.toNat n.toNat 0 (List.replicate n.toNat 0)) 0) := by
  unfold pathR
  rw [decide_eq_true h1, decide_eq_true (Int.le_refl n), decide_eq_true (show (8 : Int) * n ≤ 281474976710656 by omega), decide_eq_true (show n = n from rfl), decide_eq_true h2,
    decide_eq_true (show n = (List.replicate n.toNat (0 : Int)).length by rw [List.length_replicate]; omega)]
  rfl
theorem pathN_bd {a b : Int} (ha : IntKind.u64.has a) (hb : IntKind.u64.has b) (h : aboveB a b = true) : 0 ≤ pathN a b ∧ pathN a b ≤ 64 ∧ IntKind.i64.wrap (depI b - depI a) = pathN a b := by
  have h1 := depI_bd ha
  have h2 := depI_bd hb
  have h3 := above_le h
  unfold pathN
  exact ⟨by omega, by omega, wrap64 (by omega) (by omega)⟩
def s311 : Sp := .fn [.v I, .v U, .v U] fun x => (true, rli (pathI x.1 x.2.1 x.2.2).1 (pathI x.1 x.2.1 x.2.2).2)
theorem g311 : GoodS Tryd.prog N311 s311 := by
  refine good (.cons g328 (.cons g329 (.cons g330 (.nil _)))) H311 rfl (by kernel_rfl) Λ311 [(1, live311)] (oneLoop (p0 := loopK F311 0) (by kernel_rfl) loop311) [.v I, .v U, .v U] (by decide) [.sl true I] _ fun x r hw e => ?_
  obtain ⟨h, a, b⟩ := x
  cases e
  refine (r311 h a b).trans ?_
  show _ = some (rli (pathI h a b).1 (pathI h a b).2)
  unfold pathI
  cases bothI h a b != 0 with
  | true => rfl
  | false =>
    cases ha : aboveB a b with
    | false => rfl
    | true =>
      obtain ⟨p1, p2, p3⟩ := pathN_bd hw.2.1 hw.2.2 ha
      rw [p3, pathR_ok p1 p2]; rfl
abbrev live325 : List (Nat × Dir) := [(0, .keep), (3, .keep), (4, .keep), (7, .keep), (8, .keep)]
def vs325 (l : List Subset.D) (s : Subset.D) (r n i : Int) : List AV := [.one (.sl false Subset none l), .own [.int .u64 s.1, .int .u64 s.2], .one (.int .i64 r), .one (.int .i64 n), .one (.int .i64 i)]
def idxS (s : Subset.D) : List Subset.D → Int → Int
  | [], _ => -1
  | x :: xs, i => bif s.1 == x.1 && s.2 == x.2 then i else idxS s xs (i + 1)
def sAt (l : List Subset.D) (i : Int) : Subset.D := l.getD i.toNat (0, 0)
def Λ325 : Lam AV := fun cur vs K =>
  match cur, vs with
  | 0, [.one (.sl false (.pair (.int .u64) (.int .u64)) none l), .own [.int .u64 a, .int .u64 b], .one (.int .i64 r), .one (.int .i64 n), .one (.int .i64 0)] =>
    bif decide (n = l.length) && decide (n ≤ 9223372036854775807) then
      bif decide (idxS (a, b) l 0 < 0) then K (.exit 0) (vs325 l (a, b) r n n) else K .ret (vs325 l (a, b) (idxS (a, b) l 0) n (idxS (a, b) l 0))
    else none
  | _, _ => none
theorem sAt_drop {l : List Subset.D} {j : Nat} (h : j < l.length) : l.drop j = sAt l j :: l.drop (j + 1) := by
  rw [List.drop_eq_getElem_cons h]
  simp [sAt, h]
theorem idxS_ge (s : Subset.D) : ∀ (xs : List Subset.D) (i : Int), idxS s xs i = -1 ∨ i ≤ idxS s xs i := by
  intro xs
  induction xs with
  | nil => intro i; exact .inl rfl
  | cons x xs ih =>
    intro i
    simp only [idxS]
    cases s.1 == x.1 && s.2 == x.2 with
    | true => exact .inr (Int.le_refl i)
    | false => rcases ih (i + 1) with h | h
               · exact .inl h
               · exact .inr (by simp only [cond_false]; omega)
theorem lenMax {α : Type} {l : List α} (hw : l.length ≤ 9223372036854775807) : (decide ((l.length : Int) = l.length) && decide ((l.length : Int) ≤ 9223372036854775807)) = true := by
  have hmax : (l.length : Int) ≤ 9223372036854775807 := by omega
  simp [hmax]
def s325 : Sp := .fn [.v (.sl Subset), .v Subset] fun x => (true, .one (.int .i64 (idxS x.2 x.1 0)))
def besI (h a b : Int) : Int × Int := bif (meetI h a b).2 != 0 then (0, (meetI h a b).2) else bif (depthI h (meetI h a b).1).2 != 0 then (0, (depthI h (meetI h a b).1).2) else upI h b (IntKind.i64.wrap ((depthI h (meetI h a b).1).1 + 1))
def s324 : Sp := .fn [.v I, .v U, .v U] fun x => (true, re2 (besI x.1 x.2.1 x.2.2).1 (besI x.1 x.2.1 x.2.2).2)
def ren (k : Int) (l : List Int) (e : Int) : AV := .tup [(false, [.int .i64 k]), (false, [.sl true I none l]), (false, [.int .i64 e])]
def noEn (h k i : Int) (s : Subset.D) : Bool := bif bif bif (pairsL h k i).2 != 0 then true else (leafI h i).2 != 0 then true else (mayI h k s).2 != 0 then true else !(mayI h k s).1
def atI (l : List Subset.D) (s : Subset.D) (sides : List Int) : Int × List Int × Int := bif decide (idxS s l 0 < 0) then (0, [], 4) else (idxS s l 0, sides, 0)
def fromJ (h i : Int) (s : Subset.D) : Int := (besI h (leafI h i).1 s.2).1
def entryI (h k i : Int) (s : Subset.D) : Int × List Int × Int := bif noEn h k i s then (0, [], 1) else bif (hasI h s i).2 != 0 then (0, [], (hasI h s i).2) else bif !(hasI h s i).1 then (0, [], 4) else
  bif s.2 != 0 then bif (besI h (leafI h i).1 s.2).2 != 0 then (0, [], (besI h (leafI h i).1 s.2).2) else bif (pathI h (fromJ h i s) s.2).2 != 0 then (0, [], (pathI h (fromJ h i s) s.2).2) else
    atI (pairsL h k i).1 (s.1, fromJ h i s) (pathI h (fromJ h i s) s.2).1
  else atI (pairsL h k i).1 s []
def reE (x : Int × List Int × Int) : AV := ren x.1 x.2.1 x.2.2
def s309 : Sp := .fn [.v I, .v I, .v U, .v Subset] fun x => (true, reE (entryI x.1 x.2.1 x.2.2.1 x.2.2.2))
abbrev live31 : List (Nat × Dir) := [(0, .keep), (1, .keep), (4, .keep), (12, .keep), (13, .keep)]
def vs31 (a b : List Int) (r : Bool) (n i : Int) : List AV := [.one (.sl false I none a), .one (.sl false I none b), .one (.bool r), .one (.int .i64 n), .one (.int .i64 i)]
def iAt (l : List Int) (i : Int) : Int := l.getD i.toNat 0
def cmpK (R : Nat → Option AV) (E : Option AV) (a b : List Int) : Nat → Nat → Option AV
  | 0, _ => E
  | m + 1, j => bif iAt a j != iAt b j then R j else cmpK R E a b m (j + 1)
def Λ31 : Lam AV := fun cur vs K =>
  match cur, vs with
  | 0, [.one (.sl false (.int .i64) none a), .one (.sl false (.int .i64) none b), .one (.bool r), .one (.int .i64 n), .one (.int .i64 0)] =>
    bif decide (n = a.length) && decide (n = b.length) && decide (n ≤ 9223372036854775807) then cmpK (fun j => K .ret (vs31 a b false n j)) (K (.exit 0) (vs31 a b r n n)) a b n.toNat 0 else none
  | _, _ => none
def sameI (a b : List Int) : Bool := decide (a = b)
theorem cmpK_eq {a b : List Int} (X Y : AV) (hl : a.length = b.length) : ∀ (m j : Nat), j + m = a.length → cmpK (fun j => some X) (some Y) a b m j = some (bif decide (a.drop j = b.drop j) then Y else X) := by
  intro m
  induction m with
  | zero =>
    intro j hj
    rw [List.drop_of_length_le (by omega), List.drop_of_length_le (by omega)]
    rfl
  | succ m ih =>
    intro j hj
    have h1 : j < a.length := by omega
    have h2 : j < b.length := by omega
    rw [cmpK, ih (j + 1) (by omega), List.drop_eq_getElem_cons h1, List.drop_eq_getElem_cons h2]
    have e1 : iAt a j = a[j] := by simp [iAt, h1]
    have e2 : iAt b j = b[j] := by simp [iAt, h2]
    rw [e1, e2]
    by_cases he : a[j] = b[j]
    · rw [he, show (b[j] != b[j]) = false from bne_self_eq_false b[j]]
      rw [decide_eq_decide.2 (show a.drop (j + 1) = b.drop (j + 1) ↔ b[j] :: a.drop (j + 1) = b[j] :: b.drop (j + 1) by rw [List.cons.injEq]; exact ⟨fun h => ⟨rfl, h⟩, And.right⟩)]
      rfl
    · rw [show (a[j] != b[j]) = true by simpa using he, decide_eq_false (fun h => he (List.cons.inj h).1)]
      rfl
def s31 : Sp := .fn [.v (.sl I), .v (.sl I)] fun x => (true, .one (.bool (sameI x.1 x.2)))
def lv (x : Int × List Int × Int) : Bool := bif bif x.2.2 == 0 then x.1 == 1 else false then sameI x.2.1 [0] else false
theorem live_eq : entryI 2 2 0 (1, 6) = (1, [0], 0) := by kernel_rfl
def s308 : Sp := .fn [] fun _ => (true, .one (.bool true))
def oB (b : Bool) : Option AV := some (.one (.bool b))
def sides3 (h i : Int) (s p : Subset.D) (e : Int × List Int × Int) : Bool :=
  bif bif bif (pathI h p.2 s.2).2 == 0 then (hasI h p i).2 == 0 else false then (hasI h p i).1 else false then sameI e.2.1 (pathI h p.2 s.2).1 else false
def sides2 (h k i : Int) (s : Subset.D) (e : Int × List Int × Int) (l : List Subset.D) (p : Subset.D) : Option AV :=
  bif inB e.1 l.length then bif p.1 != s.1 then oB false else
    bif s.2 == 0 then bif inB e.1 l.length then bif p.1 == s.1 && p.2 == s.2 then oB ((e.2.1.length : Int) == 0) else oB false else none
    else bif inB e.1 l.length then bif inB e.1 l.length then oB (sides3 h i s p e) else none else none
  else none
def sides1 (h k i : Int) (s : Subset.D) (e : Int × List Int × Int) (l : List Subset.D) : Option AV :=
  bif e.2.2 != 0 then oB ((e.2.1.length : Int) == 0) else bif (pairsL h k i).2 != 0 then oB false else bif decide (e.1 < 0) then oB false else bif decide (e.1 ≥ (l.length : Int)) then oB false else
  sides2 h k i s e l (sAt l e.1)

def badS (h : Int) (s : Subset.D) : Bool := subE h s != 0
def hasS (h i : Int) (s : Subset.D) : Bool := bif (hasI h s i).2 == 0 then (hasI h s i).1 else false
def s340 : Sp := .fn [.v Subset, .raw] fun x => match x.2 with
  | .one (.rp false (.int .i64) h 0) => (true, .one (.bool (badS h x.1)))
  | _ => (false, AV.junk)
def s343 : Sp := .fn [.v Subset, .raw, .raw] fun x => match x.2.1, x.2.2 with
  | .one (.rp false (.int .i64) h 0), .one (.rp false (.int .u64) i 0) => (true, .one (.bool (hasS h i x.1)))
  | _, _ => (false, AV.junk)
def idxP (f : Subset.D → Bool) : List Subset.D → Int → Int
  | [], _ => -1
  | x :: xs, i => bif f x then i else idxP f xs (i + 1)
theorem idxP_ge (p : Subset.D → Bool) : ∀ (xs : List Subset.D) (i : Int), idxP p xs i = -1 ∨ i ≤ idxP p xs i := by
  intro xs
  induction xs with
  | nil => intro i; exact .inl rfl
  | cons x xs ih =>
    intro i
    simp only [idxP]
    cases p x with
    | true => exact .inr (Int.le_refl i)
    | false => rcases ih (i + 1) with h | h
               · exact .inl h
               · exact .inr (by simp only [cond_false]; omega)
abbrev live342 : List (Nat × Dir) := [(0, .keep), (1, .keep), (4, .keep), (7, .keep), (8, .keep)]
def vs342 (l : List Subset.D) (c : AV) (r n i : Int) : List AV := [.one (.sl false Subset none l), c, .one (.int .i64 r), .one (.int .i64 n), .one (.int .i64 i)]
def idxR (p : Subset.D → Bool) (l : List Subset.D) : Option AV :=
  bif decide ((l.length : Int) = l.length) && decide ((l.length : Int) ≤ 9223372036854775807) then bif decide (idxP p l 0 < 0) then some (.one (.int .i64 (-1))) else some (.one (.int .i64 (idxP p l 0))) else none
def firstI (h i : Int) (l : List Subset.D) : Int × Int := bif (leafI h i).2 != 0 then (0, 1) else bif decide (idxP (badS h) l 0 ≥ 0) then (0, 1) else bif decide (idxP (hasS h i) l 0 < 0) then (0, 4) else (idxP (hasS h i) l 0, 0)
def s315 : Sp := .fn [.v I, .v U, .v (.sl Subset)] fun x => (true, ri2 (firstI x.1 x.2.1 x.2.2).1 (firstI x.1 x.2.1 x.2.2).2)
abbrev live305 : List (Nat × Dir) := [(0, .keep), (1, .keep), (8, .keep), (9, .keep), (10, .keep), (85, .keep), (86, .keep), (87, .keep)]
def vs305 (h i : Int) (r : Bool) (up : Bool) (k : Int) (f : Bool) (nl : Option Bool) (l : List Subset.D) (n j : Int) : List AV := [.one (.int .i64 h), .one (.int .u64 i), .one (.bool r), .one (.bool up), .one (.int .i64 k), .one (.sl f Subset nl l), .one (.int .i64 n), .one (.int .i64 j)]
def badF (h i k : Int) (l : List Subset.D) (j : Int) : Bool := bif (hasI h (sAt l j) i).2 != 0 then true else (hasI h (sAt l j) i).1 != (j == k)
/-- A loop that stops at the first bad one. -/
def allK (R : Nat → Option AV) (E : Option AV) (bad : Nat → Bool) : Nat → Nat → Option AV
  | 0, _ => E
  | m + 1, j => bif bad j then R j else allK R E bad m (j + 1)
theorem allK_ok {R : Nat → Option AV} {E : Option AV} {bad : Nat → Bool} : ∀ {m j : Nat}, (∀ i, j ≤ i → i < j + m → bad i = false) → allK R E bad m j = E := by
  intro m
  induction m with
  | zero => intro j _; rfl
  | succ m ih =>
    intro j h
    rw [allK, h j (Nat.le_refl j) (by omega)]
    exact ih fun i h1 h2 => h i (by omega) (by omega)
def Λ305 : Lam AV := fun cur vs K =>
  match cur, vs with
  | 0, [.one (.int .i64 h), .one (.int .u64 i), .one (.bool r), .one (.bool up), .one (.int .i64 k), .one (.sl f (.pair (.int .u64) (.int .u64)) nl l), .one (.int .i64 n), .one (.int .i64 0)] =>
    bif decide (n = l.length) && decide (n ≤ 9223372036854775807) then allK (fun j => K .ret (vs305 h i false up k f nl l n j)) (K (.exit 0) (vs305 h i r up k f nl l n n)) (fun j => badF h i k l j) n.toNat 0 else none
  | _, _ => none
def oB' (b : Bool) : Option AV := some (.one (.bool b))
def lastF (h i k : Int) (l : List Subset.D) : Option AV :=
  bif decide (0 ≤ IntKind.i64.wrap (k + 1)) && decide (IntKind.i64.wrap (k + 1) ≤ (l.length : Int)) then
    bif decide (((l.take (IntKind.i64.wrap (k + 1)).toNat).length : Int) = (l.take (IntKind.i64.wrap (k + 1)).toNat).length) && decide (((l.take (IntKind.i64.wrap (k + 1)).toNat).length : Int) ≤ 9223372036854775807) then
      allK (fun _ => oB' false) (oB' true) (fun j => badF h i k (l.take (IntKind.i64.wrap (k + 1)).toNat) j) (((l.take (IntKind.i64.wrap (k + 1)).toNat).length : Int)).toNat 0
    else none
  else none
def lawF (h i : Int) (l : List Subset.D) (x y : Int × Int) : Option AV :=
  bif x.2 == 1 then oB' (y.2 == x.2) else bif y.2 == 1 then oB' true else bif x.2 != 0 then oB' (bif y.2 != 0 then true else decide (y.1 ≥ (l.length : Int))) else
  bif (bif bif y.2 != 0 then true else y.1 != x.1 then true else decide (x.1 ≥ (l.length : Int))) then oB' false else lastF h i x.1 l

theorem bad_iff {h n : Int} : badN h n = false ↔ highB h = true ∧ 1 ≤ n ∧ depI n ≤ h := by
  refine ⟨bad_false, fun ⟨h1, h2, h3⟩ => ?_⟩
  unfold badN
  rw [h1, decide_eq_false (show ¬ n < 1 by omega)]
  exact decide_eq_false (by omega)
theorem dep_nat {n : Int} (h : 1 ≤ n) : depI n = (n.toNat.log2 : Int) := by
  obtain ⟨m, rfl⟩ := Int.eq_ofNat_of_zero_le (show 0 ≤ n by omega)
  unfold depI
  rw [lenI_nat (by omega)]
  show ((m.log2 : Int) + 1) - 1 = _
  rw [Int.toNat_natCast]; omega
theorem chk_nat {h n : Int} (h0 : 0 ≤ n) : chkI h n = bif okN h.toNat n.toNat then 0 else 1 := by
  have key : badN h n = !okN h.toNat n.toNat := by
    cases ho : okN h.toNat n.toNat with
    | true =>
      obtain ⟨h1, h2, h3, h4⟩ := okN_iff.1 ho
      refine bad_iff.2 ⟨highB_iff.2 (by omega), by omega, ?_⟩
      rw [dep_nat (by omega)]
      have := (okN_log (h := h.toNat) (n := n.toNat) (by omega)).1 h4
      omega
    | false =>
      cases hb : badN h n with
      | true => rfl
      | false =>
        obtain ⟨h1, h2, h3⟩ := bad_iff.1 hb
        have h1 := highB_iff.1 h1
        rw [dep_nat h2] at h3
        have : okN h.toNat n.toNat = true := okN_iff.2 ⟨by omega, by omega, by omega, (okN_log (by omega)).2 (by omega)⟩
        rw [this] at ho; cases ho
  unfold chkI; rw [key]
  cases okN h.toNat n.toNat <;> rfl
theorem shl_nat {a k : Nat} (hk : k ≤ 64) (h : a * 2 ^ k < 2 ^ 64) : shlI a k = ((a * 2 ^ k : Nat) : Int) := by
  unfold shlI
  rw [Int.toNat_natCast, Nat.min_eq_left hk, wrapU]
  · simp
  · exact Int.mul_nonneg (by omega) (Int.le_of_lt (Int.pow_pos (by decide)))
  · have : ((a * 2 ^ k : Nat) : Int) < 18446744073709551616 := by omega
    have e : ((a * 2 ^ k : Nat) : Int) = (a : Int) * 2 ^ k := by simp
    rw [← e]; omega
theorem pow32 {h : Nat} (h1 : h ≤ 32) : 2 ^ h ≤ 2 ^ 32 := Nat.pow_le_pow_right (by decide) h1
theorem or_nat {a b : Nat} (ha : a < 2 ^ 64) (hb : b < 2 ^ 64) : orU a b = ((a ||| b : Nat) : Int) := by
  unfold orU
  have e1 : (BitVec.ofInt 64 (a : Int)).toNat = a := by rw [BitVec.toNat_ofInt]; omega
  have e2 : (BitVec.ofInt 64 (b : Int)).toNat = b := by rw [BitVec.toNat_ofInt]; omega
  rw [BitVec.toNat_or, e1, e2, wrapU]
  · omega
  · have := Nat.or_lt_two_pow ha hb; omega
def leafV (h i : Nat) : Int × Int := bif decide (1 ≤ h) && decide (h ≤ 32) then bif decide (i < 2 ^ h) then ((leafN h i : Nat), 0) else (0, 4) else (0, 1)
theorem leaf_nat {h i : Int} (h0 : 0 ≤ i) (h1 : i.toNat < 2 ^ 64) : leafI h i = leafV h.toNat i.toNat := by
  unfold leafI leafV
  cases hh : highB h with
  | false =>
    have : ¬ (1 ≤ h ∧ h ≤ 32) := fun h => by rw [highB_iff.2 h] at hh; cases hh
    have e : (decide (1 ≤ h.toNat) && decide (h.toNat ≤ 32)) = false := by
      cases h2 : decide (1 ≤ h.toNat) with
      | false => rfl
      | true => exact decide_eq_false (by have := of_decide_eq_true h2; omega)
    rw [e]; rfl
  | true =>
    have h2 := highB_iff.1 hh
    have e : (decide (1 ≤ h.toNat) && decide (h.toNat ≤ 32)) = true := by simp; omega
    rw [e]
    simp only [Bool.not_true, cond_true, cond_false]
    have e2 : h = (h.toNat : Int) := by omega
    rw [shr_nat h0 (by omega)]
    have hp := pow32 (h := h.toNat) (by omega)
    have hp0 := Nat.two_pow_pos h.toNat
    cases hi : decide (i.toNat < 2 ^ h.toNat) with
    | false =>
      have hi := of_decide_eq_false hi
      have : 0 < i.toNat / 2 ^ h.toNat := Nat.div_pos (by omega) hp0
      rw [decide_eq_true (by omega)]; rfl
    | true =>
      have hi := of_decide_eq_true hi
      have : i.toNat / 2 ^ h.toNat = 0 := Nat.div_eq_of_lt hi
      rw [this, decide_eq_false (by omega)]
      simp only [cond_false, cond_true]
      have e3 : shlI 1 h = ((2 ^ h.toNat : Nat) : Int) := by
        have := shl_nat (a := 1) (k := h.toNat) (by omega) (by omega)
        rw [← e2, Nat.one_mul] at this; exact this
      have e4 : i = (i.toNat : Int) := by omega
      have e5 : orU (shlI 1 h) i = ((leafN h.toNat i.toNat : Nat) : Int) := by
        rw [e3, e4, or_nat (by omega) (by omega)]
        have := Nat.two_pow_add_eq_or_of_lt hi 1
        rw [Nat.mul_one] at this
        rw [Int.toNat_natCast, ← this]; rfl
      rw [e5]
theorem above_nat {a b : Int} (ha : 1 ≤ a) (hb : 1 ≤ b) (h64 : b.toNat < 2 ^ 64) : aboveB a b = abv a.toNat b.toNat := by
  unfold aboveB abv
  rw [dep_nat ha, dep_nat hb]
  have hl : b.toNat.log2 < 64 := (Nat.log2_lt (by omega)).2 h64
  cases h : decide (a.toNat.log2 ≤ b.toNat.log2) with
  | false =>
    rw [decide_eq_false (by have := of_decide_eq_false h; omega)]; rfl
  | true =>
    have h := of_decide_eq_true h
    rw [decide_eq_true (by omega), shr_nat (by omega) (by omega)]
    simp only [cond_true, Bool.true_and]
    have e : ((b.toNat.log2 : Int) - (a.toNat.log2 : Int)).toNat = b.toNat.log2 - a.toNat.log2 := by omega
    rw [e]
    apply Bool.eq_iff_iff.2
    simp only [beq_iff_eq]
    omega
theorem okN_pow {h n : Nat} (hk : okN h n = true) : 2 ^ h ≤ n * 2 ^ (h - n.log2) ∧ n * 2 ^ (h - n.log2) + 2 ^ (h - n.log2) ≤ 2 ^ (h + 1) ∧ n.log2 ≤ h := by
  obtain ⟨h1, h2, h3, h4⟩ := okN_iff.1 hk
  have hl := (okN_log (h := h) (n := n) (by omega)).1 h4
  have a := log2_le (n := n) (by omega)
  have b := lt_log2 (n := n)
  have e1 : 2 ^ h = 2 ^ n.log2 * 2 ^ (h - n.log2) := by rw [← Nat.pow_add]; congr 1; omega
  have e2 : 2 ^ (h + 1) = 2 ^ (n.log2 + 1) * 2 ^ (h - n.log2) := by rw [← Nat.pow_add]; congr 1; omega
  refine ⟨?_, ?_, hl⟩
  · rw [e1]; exact Nat.mul_le_mul_right _ a
  · rw [e2, ← Nat.succ_mul]; exact Nat.mul_le_mul_right _ b
theorem within_nat {h n i : Int} (h0 : 0 ≤ n) (hi0 : 0 ≤ i) (hk : okN h.toNat n.toNat = true) (hi : i.toNat < 2 ^ h.toNat) : (leavesI h n).2 = 0 ∧ within (leavesI h n).1 i = abv n.toNat (leafN h.toNat i.toNat) := by
  have hc : (chkI h n != 0) = false := by rw [chk_nat h0, hk]; rfl
  obtain ⟨h1, h2, h3⟩ := chk_zero hc
  have h1 := highB_iff.1 h1
  obtain ⟨p1, p2, p3⟩ := okN_pow hk
  have hp := pow32 (h := h.toNat) (by omega)
  have hp1 : 2 ^ (h.toNat + 1) = 2 * 2 ^ h.toNat := by rw [Nat.pow_succ]; omega
  unfold leavesI
  rw [hc, dep_nat h2]
  refine ⟨rfl, ?_⟩
  simp only [cond_false]
  have ed : h - (n.toNat.log2 : Int) = ((h.toNat - n.toNat.log2 : Nat) : Int) := by omega
  rw [ed]
  have hll := leafN_log2 hi
  have ell : leafN h.toNat i.toNat = 2 ^ h.toNat + i.toNat := rfl
  generalize hD : h.toNat - n.toNat.log2 = d at *
  have hd0 := Nat.two_pow_pos d
  have e1 : shlI n d = ((n.toNat * 2 ^ d : Nat) : Int) := by
    have := shl_nat (a := n.toNat) (k := d) (by omega) (by omega)
    rw [← this]; congr 1; omega
  have e2 : shlI 1 h = ((2 ^ h.toNat : Nat) : Int) := by
    have := shl_nat (a := 1) (k := h.toNat) (by omega) (by omega)
    rw [Nat.one_mul] at this
    rw [← this]; congr 1; omega
  have e3 : shlI 1 d = ((2 ^ d : Nat) : Int) := by
    have hd : 2 ^ d ≤ 2 ^ 32 := pow32 (by omega)
    have := shl_nat (a := 1) (k := d) (by omega) (by omega)
    rw [Nat.one_mul] at this
    exact this
  have hlow : lowI h n d = ((n.toNat * 2 ^ d - 2 ^ h.toNat : Nat) : Int) := by
    unfold lowI
    rw [e1, e2, wrapU (by omega) (by omega)]; omega
  have htop : topI h n d = ((n.toNat * 2 ^ d - 2 ^ h.toNat + 2 ^ d - 1 : Nat) : Int) := by
    have hd0 := Nat.two_pow_pos d
    unfold topI
    rw [hlow, e3, wrapU (n := _ + _) (by omega) (by omega), wrapU (by omega) (by omega)]; omega
  rw [hlow, htop]
  have hd0 := Nat.two_pow_pos d
  unfold within abv
  rw [hll, hD, decide_eq_true p3, Bool.true_and]
  apply Bool.eq_iff_iff.2
  simp only [beq_iff_eq]
  rw [Nat.div_eq_iff hd0, ell]
  constructor
  · intro hx
    cases hy : decide (((n.toNat * 2 ^ d - 2 ^ h.toNat : Nat) : Int) ≤ i) with
    | false => rw [hy] at hx; cases hx
    | true =>
      rw [hy] at hx
      have hx := of_decide_eq_true hx
      have hy := of_decide_eq_true hy
      constructor <;> omega
  · rintro ⟨ha, hb⟩
    rw [decide_eq_true (by omega)]
    exact decide_eq_true (by omega)
def leafOk (h i : Nat) : Bool := decide (1 ≤ h) && decide (h ≤ 32) && decide (i < 2 ^ h)
theorem leafOk_iff {h i : Nat} : leafOk h i = true ↔ 1 ≤ h ∧ h ≤ 32 ∧ i < 2 ^ h := by simp [leafOk, and_assoc]
theorem leafV_err {h i : Nat} : ((leafV h i).2 == 0) = leafOk h i := by
  unfold leafV leafOk
  cases decide (1 ≤ h) && decide (h ≤ 32) with
  | false => rfl
  | true => cases decide (i < 2 ^ h) <;> rfl
theorem leaf_err {h i : Int} (h0 : 0 ≤ i) (h1 : i.toNat < 2 ^ 64) : ((leafI h i).2 == 0) = leafOk h.toNat i.toNat := by rw [leaf_nat h0 h1]; exact leafV_err
theorem okN_one {h : Nat} : okN h 1 = (decide (1 ≤ h) && decide (h ≤ 32)) := by
  apply Bool.eq_iff_iff.2
  rw [okN_iff]
  simp only [Bool.and_eq_true, decide_eq_true_eq]
  constructor
  · rintro ⟨a, b, _, _⟩; exact ⟨a, b⟩
  · rintro ⟨a, b⟩
    have : 2 ^ 1 ≤ 2 ^ (h + 1) := Nat.pow_le_pow_right (by decide) (by omega)
    exact ⟨a, b, Nat.le_refl 1, by omega⟩
theorem chk_ne {h n : Int} (h0 : 0 ≤ n) : (chkI h n != 0) = !okN h.toNat n.toNat := by
  rw [chk_nat h0]; cases okN h.toNat n.toNat <;> rfl
theorem noLeaf_nat {h i : Int} (h0 : 0 ≤ i) (h1 : i.toNat < 2 ^ 64) : noLeaf h i = !leafOk h.toNat i.toNat := by
  unfold noLeaf lchk
  rw [leaf_err h0 h1, chk_ne (by decide)]
  show (bif (bif !okN h.toNat 1 then (1 : Int) else 0) != 0 then true else !leafOk h.toNat i.toNat) = _
  rw [okN_one]
  unfold leafOk
  cases decide (1 ≤ h.toNat) && decide (h.toNat ≤ 32) <;> cases decide (i.toNat < 2 ^ h.toNat) <;> rfl
theorem subE_nat {h : Int} {s : Int × Int} (h1 : IntKind.u64.has s.1) (h2 : IntKind.u64.has s.2) : subE h s = bif okS h.toNat s.1.toNat s.2.toNat then 0 else 1 := by
  obtain ⟨i, j⟩ := s
  obtain ⟨a0, a1, a2⟩ := hasU h1
  obtain ⟨b0, b1, b2⟩ := hasU h2
  simp only at a0 a1 a2 b0 b1 b2 ⊢
  unfold subE okS
  simp only
  have e0 : (j == 0) = (j.toNat == 0) := by apply Bool.eq_iff_iff.2; simp; omega
  rw [e0]
  cases hj : j.toNat == 0 with
  | true =>
    simp only [cond_true, Bool.true_or, Bool.and_true]
    exact chk_nat a0
  | false =>
    simp only [cond_false, Bool.false_or]
    have hj : j.toNat ≠ 0 := by simpa using hj
    have e1 : (aboveI h i j) = bif okN h.toNat i.toNat && okN h.toNat j.toNat then (aboveB i j, 0) else (false, 1) := by
      unfold aboveI bothI both
      rw [chk_ne a0, chk_ne b0]
      cases okN h.toNat i.toNat <;> cases okN h.toNat j.toNat <;> rfl
    rw [e1]
    cases ho : okN h.toNat i.toNat with
    | false => rfl
    | true =>
      cases hp : okN h.toNat j.toNat with
      | false => rfl
      | true =>
        have hi := (okN_iff.1 ho).2.2.1
        rw [above_nat (by omega) (by omega) b1]
        have e2 : (i == j) = (i.toNat == j.toNat) := by apply Bool.eq_iff_iff.2; simp; omega
        show (bif bif !(abv i.toNat j.toNat) then true else i == j then (1 : Int) else 0) = bif abv i.toNat j.toNat && i.toNat != j.toNat then 0 else 1
        rw [e2]
        unfold bne
        cases abv i.toNat j.toNat <;> cases i.toNat == j.toNat <;> rfl
theorem subE_ne {h : Int} {s : Int × Int} (h1 : IntKind.u64.has s.1) (h2 : IntKind.u64.has s.2) : (subE h s != 0) = !okS h.toNat s.1.toNat s.2.toNat := by
  rw [subE_nat h1 h2]; cases okS h.toNat s.1.toNat s.2.toNat <;> rfl
/-- HAS: what the code reckons is the plain one. -/
theorem has_nat {h i : Int} {s : Int × Int} (h1 : IntKind.u64.has s.1) (h2 : IntKind.u64.has s.2) (hi : IntKind.u64.has i) :
    hasI h s i = bif okS h.toNat s.1.toNat s.2.toNat && leafOk h.toNat i.toNat then (hasN h.toNat s.1.toNat s.2.toNat i.toNat, 0) else (false, 1) := by
  obtain ⟨c0, c1, c2⟩ := hasU hi
  obtain ⟨a0, a1, a2⟩ := hasU h1
  obtain ⟨b0, b1, b2⟩ := hasU h2
  unfold hasI badH inS bothS
  rw [noLeaf_nat c0 c1, subE_ne h1 h2]
  cases hk : okS h.toNat s.1.toNat s.2.toNat with
  | false =>
    rw [show subE h s = 1 by rw [subE_nat h1 h2, hk]; rfl]; rfl
  | true =>
    obtain ⟨k1, k2⟩ := okS_iff.1 hk
    simp only [Bool.not_true, cond_false, Bool.true_and]
    have e0 : (s.2 == 0) = (s.2.toNat == 0) := by apply Bool.eq_iff_iff.2; simp; omega
    cases hl : leafOk h.toNat i.toNat with
    | false =>
      simp only [Bool.not_false, cond_true]
      have : ∀ b : Bool, (bif b then true else (1 : Int) != 0) = true := by intro b; cases b <;> rfl
      rw [this]; rfl
    | true =>
      have hl := (leafOk_iff.1 hl).2.2
      obtain ⟨w1, w2⟩ := within_nat a0 c0 k1 hl
      have w1' : ((leavesI h s.1).2 == 0) = true := by rw [w1]; rfl
      simp only [Bool.not_true, cond_false, cond_true, w1']
      unfold hasN
      cases hj : s.2.toNat == 0 with
      | true =>
        have : (s.2 != 0) = false := by unfold bne; rw [e0, hj]; rfl
        rw [this, e0, hj]
        simp only [cond_false, cond_true, w1, w2, Bool.true_or, Bool.and_true]
        cases abv s.1.toNat (leafN h.toNat i.toNat) <;> rfl
      | false =>
        have : (s.2 != 0) = true := by unfold bne; rw [e0, hj]; rfl
        rw [this, e0, hj]
        have hj : s.2.toNat ≠ 0 := by simpa using hj
        obtain ⟨j1, j2, j3⟩ := k2.resolve_left hj
        obtain ⟨x1, x2⟩ := within_nat b0 c0 j1 hl
        simp only [cond_false, cond_true, x1, x2, w2, Bool.false_or]
        cases abv s.1.toNat (leafN h.toNat i.toNat) <;> cases abv s.2.toNat (leafN h.toNat i.toNat) <;> rfl

/-- Loops that count up, with what holds at each place, the end too. -/
theorem upLoopJ {α : Type} {n : Nat} {F : Nat → α → Int → Option AV} {G : Nat → α → Option AV} {Inv : Nat → α → Prop} (h1 : ∀ fuel a, Inv n a → F (fuel + 1) a n = G n a)
    (h2 : ∀ a (j : Nat), j < n → Inv j a → (∃ a', Inv (j + 1) a' ∧ (∀ fuel, F (fuel + 1) a j = F fuel a' ((j + 1 : Nat) : Int)) ∧ G j a = G (j + 1) a') ∨ (∀ fuel, F (fuel + 1) a j = G j a)) :
    ∀ (m j : Nat) (a : α) (out : AV), j + m = n → Inv j a → G j a = some out → ∃ fuel, F fuel a j = some out := by
  intro m
  induction m with
  | zero =>
    intro j a out hj hi h
    obtain rfl : j = n := by omega
    exact ⟨1, (h1 0 a hi).trans h⟩
  | succ m ih =>
    intro j a out hj hi h
    rcases h2 a j (by omega) hi with ⟨a', g0, g1, g2⟩ | g
    · obtain ⟨fuel, hf⟩ := ih (j + 1) a' out (by omega) g0 (g2 ▸ h)
      exact ⟨fuel + 1, (g1 fuel).trans hf⟩
    · exact ⟨1, (g 0).trans h⟩
abbrev live376 : List (Nat × Dir) := [(3, .keep), (4, .keep), (5, .keep)]
def vs376 (n k i : Int) : List AV := [.one (.int .u64 n), .one (.int .i64 k), .one (.int .i64 i)]
noncomputable abbrev lp376 (Λ : Lam AV) (K : AE → List AV → Option AV) (fuel : Nat) (vs : List AV) : Option AV := loopN (aexec tb (orc []) Λ ⟨11, 0, [(0, live376)]⟩ (loopK F376 0).2 0) 11 0 live376 K fuel vs
theorem step376 (n k i : Int) (Λ : Lam AV) (fuel : Nat) (K : AE → List AV → Option AV) : lp376 Λ K (fuel + 1) (vs376 n k i) =
    bif decide (i < k) then lp376 Λ K fuel (vs376 (IntKind.u64.wrap (2 * n)) k (IntKind.i64.wrap (i + 1))) else K (.exit 0) (vs376 n k i) := by kernel_rfl
def powI (k : Int) : Int := ((2 ^ k.toNat : Nat) : Int)
def Λ376 : Lam AV := fun cur vs K =>
  match cur, vs with
  | 0, [.one (.int .u64 1), .one (.int .i64 k), .one (.int .i64 0)] => bif decide (0 ≤ k) && decide (k ≤ 33) then K (.exit 0) (vs376 (powI k) k k) else none
  | _, _ => none
theorem loop376 : LoopP tb (orc []) Λ376 ⟨11, 0, [(0, live376)]⟩ (loopK F376 0) := by
  intro vs K out e
  have hcur : (loopK F376 0).1 = 0 := by kernel_rfl
  rw [hcur] at e ⊢
  unfold Λ376 at e
  split at e
  · rename_i k _
    cases hc : (decide (0 ≤ k) && decide (k ≤ 33)) with
    | false => rw [hc] at e; cases e
    | true =>
      rw [hc] at e
      simp only [cond_true] at e
      simp only [Bool.and_eq_true, decide_eq_true_eq] at hc
      obtain ⟨N, rfl⟩ := Int.eq_ofNat_of_zero_le hc.1
      refine upLoopJ (α := Int) (n := N) (F := fun fuel n i => lp376 Λ376 K fuel (vs376 n N i))
        (G := fun j _ => K (.exit 0) (vs376 (powI N) N N)) (Inv := fun j n => n = ((2 ^ j : Nat) : Int)) (fun fuel n hi => ?_) (fun n j hj hi => ?_) N 0 1 out (by omega) rfl e
      · rw [step376, nlt_dec, cond_false, hi]; rfl
      · left
        subst hi
        have hp : 2 ^ j ≤ 2 ^ 33 := Nat.pow_le_pow_right (by decide) (by omega)
        have hp0 := Nat.two_pow_pos j
        refine ⟨((2 ^ (j + 1) : Nat) : Int), rfl, fun fuel => ?_, rfl⟩
        rw [step376, lt_dec hj, cond_true, wrap64 (n := (j : Int) + 1) (by omega) (by omega), wrapU (by omega) (by omega), Nat.pow_succ]
        congr 2; omega
  · cases e
theorem r376 (k : Int) : run (orc []) Λ376 [(0, live376)] F376 (encA [.v I] k) [] = bif decide (0 ≤ k) && decide (k ≤ 33) then some (.one (.int .u64 (powI k))) else none := by kernel_rfl
def s376 : Sp := .fn [.v I] fun k => (decide (0 ≤ k) && decide (k ≤ 33), .one (.int .u64 (powI k)))
theorem g376 : GoodS Tryd.prog N376 s376 := by
  refine good (.nil _) H376 rfl (by kernel_rfl) Λ376 [(0, live376)] (oneLoop (p0 := loopK F376 0) (by kernel_rfl) loop376) [.v I] (by decide) [] _ fun k r hw e => ?_
  have e1 := congrArg Prod.fst e
  have e2 := congrArg Prod.snd e
  simp only at e1 e2
  rw [r376, e1, ← e2]; rfl
theorem powI_nat {h : Int} (h0 : 0 ≤ h) : powI (h + 1) = ((2 ^ (h.toNat + 1) : Nat) : Int) := by unfold powI; rw [show (h + 1).toNat = h.toNat + 1 by omega]
def hn1 (h n : Int) : Bool := bif bif decide (h ≥ 1) then decide (h ≤ 32) else false then decide (n ≥ 1) else false
theorem r374 (h n : Int) : run (orc [(N376, s376)]) noL [] F374 (encA [.v I, .v U] (h, n)) [] =
    bif decide (0 ≤ IntKind.i64.wrap (h + 1)) && decide (IntKind.i64.wrap (h + 1) ≤ 33) || !boolBeq (hn1 h n) true then some (.one (.bool (bif hn1 h n then decide (n < powI (IntKind.i64.wrap (h + 1))) else false))) else none := by kernel_rfl
def mayN (h n : Int) : Bool := okN h.toNat n.toNat
theorem hn1_iff {h n : Int} : hn1 h n = true ↔ 1 ≤ h ∧ h ≤ 32 ∧ 1 ≤ n := by
  unfold hn1
  cases h1 : decide (h ≥ 1) with
  | false => have := of_decide_eq_false h1; simp; omega
  | true =>
    cases h2 : decide (h ≤ 32) with
    | false => have := of_decide_eq_false h2; simp; omega
    | true =>
      have := of_decide_eq_true h1; have := of_decide_eq_true h2
      simp; omega
theorem may_guard {h n : Int} : (decide (0 ≤ IntKind.i64.wrap (h + 1)) && decide (IntKind.i64.wrap (h + 1) ≤ 33) || !boolBeq (hn1 h n) true) = true := by
  cases e : hn1 h n with
  | false => cases (decide (0 ≤ IntKind.i64.wrap (h + 1)) && decide (IntKind.i64.wrap (h + 1) ≤ 33)) <;> rfl
  | true =>
    obtain ⟨a, b, _⟩ := hn1_iff.1 e
    rw [wrap64 (by omega) (by omega), decide_eq_true (by omega), decide_eq_true (by omega)]; rfl
theorem may_val {h n : Int} (h0 : 0 ≤ n) : (bif hn1 h n then decide (n < powI (IntKind.i64.wrap (h + 1))) else false) = mayN h n := by
  unfold mayN
  cases e : hn1 h n with
  | false =>
    cases ho : okN h.toNat n.toNat with
    | false => rfl
    | true =>
      obtain ⟨a, b, c, _⟩ := okN_iff.1 ho
      rw [hn1_iff.2 ⟨by omega, by omega, by omega⟩] at e; cases e
  | true =>
    obtain ⟨a, b, c⟩ := hn1_iff.1 e
    rw [wrap64 (by omega) (by omega), powI_nat (by omega)]
    apply Bool.eq_iff_iff.2
    rw [okN_iff]
    simp only [cond_true, decide_eq_true_eq]
    constructor
    · intro hx; exact ⟨by omega, by omega, by omega, by omega⟩
    · rintro ⟨_, _, _, hx⟩; omega
def s374 : Sp := .fn [.v I, .v U] fun x => (true, .one (.bool (mayN x.1 x.2)))
theorem g374 : GoodS Tryd.prog N374 s374 := by
  refine good (.cons g376 (.nil _)) H374 rfl (by kernel_rfl) noL [] (noLoops (by kernel_rfl)) [.v I, .v U] (by decide) [] _ fun x r hw e => ?_
  obtain ⟨h, n⟩ := x
  cases e
  rw [r374, may_guard, may_val (hasU hw.2).1]; rfl
theorem leaf_run {h n : Int} (h0 : 0 ≤ n) (h1 : n.toNat < 2 ^ 64) : (bif (bif decide (h < 1) then true else decide (h > 32)) then some (re2 0 1) else bif decide (0 ≤ h) && decide (h ≤ 33) then
      bif decide (n ≥ powI h) then some (re2 0 4) else bif decide (0 ≤ h) && decide (h ≤ 33) then some (re2 (IntKind.u64.wrap (powI h + n)) 0) else none else none) = some (re2 (leafI h n).1 (leafI h n).2) := by
  rw [leaf_nat h0 h1]
  unfold leafV
  by_cases hh : 1 ≤ h ∧ h ≤ 32
  · rw [decide_eq_false (show ¬ h < 1 by omega), decide_eq_false (show ¬ h > 32 by omega), decide_eq_true (show 0 ≤ h by omega), decide_eq_true (show h ≤ 33 by omega),
      decide_eq_true (show 1 ≤ h.toNat by omega), decide_eq_true (show h.toNat ≤ 32 by omega)]
    have hp := pow32 (h := h.toNat) (by omega)
    by_cases hn : n.toNat < 2 ^ h.toNat
    · have : ¬ n ≥ powI h := by unfold powI; omega
      rw [decide_eq_false this, decide_eq_true hn]
      have e : IntKind.u64.wrap (powI h + n) = ((leafN h.toNat n.toNat : Nat) : Int) := by
        unfold powI leafN
        rw [wrapU (by omega) (by omega)]; omega
      rw [e]; rfl
    · have : n ≥ powI h := by unfold powI; omega
      rw [decide_eq_true this, decide_eq_false hn]; rfl
  · have e1 : (decide (1 ≤ h.toNat) && decide (h.toNat ≤ 32)) = false := by
      cases e : decide (1 ≤ h.toNat) with
      | false => rfl
      | true => have := of_decide_eq_true e; exact decide_eq_false (by omega)
    have e2 : (bif decide (h < 1) then true else decide (h > 32)) = true := by
      cases e : decide (h < 1) with
      | true => rfl
      | false => have := of_decide_eq_false e; exact decide_eq_true (by omega)
    rw [e1, e2]; rfl
def s344 : Sp := .fn [.v I, .v U] fun x => (true, re2 (leafI x.1 x.2).1 (leafI x.1 x.2).2)
def chainN (n : Nat) : List Int := (List.range (n.log2 + 1)).map fun d => ((n / 2 ^ (n.log2 - d) : Nat) : Int)
theorem chainN_one : chainN 1 = [1] := by decide
theorem chainN_half {n : Nat} (h : 2 ≤ n) : chainN n = chainN (n / 2) ++ [(n : Int)] := by
  have hl : 1 ≤ n.log2 := by
    rcases Nat.lt_or_ge n.log2 1 with h1 | h1
    · have := (Nat.log2_lt (show n ≠ 0 by omega)).1 h1; omega
    · exact h1
  have e1 : (n / 2).log2 = n.log2 - 1 := by
    have := log2_div (n := n) (k := 1) (by omega) hl
    rwa [Nat.pow_one] at this
  unfold chainN
  rw [e1, show n.log2 - 1 + 1 = n.log2 by omega, List.range_succ, List.map_append]
  congr 1
  · apply List.map_congr_left
    intro d hd
    have hd := List.mem_range.1 hd
    congr 1
    rw [show n.log2 - d = 1 + (n.log2 - 1 - d) by omega, ← div_div_pow, Nat.pow_one]
  · simp
theorem chainN_len (n : Nat) : (chainN n).length = n.log2 + 1 := by unfold chainN; simp
def s370a (N : Int) : Sp := .fn [.v U] fun n => (decide (1 ≤ n) && decide (n < N), .arr true U (chainN n.toNat))
def s370 : Sp := .fn [.v U] fun n => (decide (1 ≤ n), .one (.sl true U none (chainN n.toNat)))
def chainR (mk : List Int → AV) (N n : Int) : Option AV := bif n == 1 then some (mk [1]) else bif decide (1 ≤ IntKind.u64.wrap (n.tdiv 2)) && decide (IntKind.u64.wrap (n.tdiv 2) < N) then
    bif decide (((chainN (IntKind.u64.wrap (n.tdiv 2)).toNat).length + 1) * 8 ≤ 140737488355328) then some (mk (chainN (IntKind.u64.wrap (n.tdiv 2)).toNat ++ [n])) else none else none
theorem r370a (N n : Int) : run (orc [(N370, s370a N)]) noL [] F370 (encA [.v U] n) [.arr U] = chainR (fun l => .arr true U l) N n := by kernel_rfl
theorem r370 (N n : Int) : run (orc [(N370, s370a N)]) noL [] F370 (encA [.v U] n) [.sl true U] = chainR (fun l => .one (.sl true U none l)) N n := by kernel_rfl
theorem chainR_ok {mk : List Int → AV} {N n : Int} (h1 : 1 ≤ n) (h2 : n < N + 1) (h3 : n.toNat < 2 ^ 64) : chainR mk N n = some (mk (chainN n.toNat)) := by
  unfold chainR
  by_cases e : n = 1
  · subst e; rfl
  · rw [show (n == 1) = false by simpa using e]
    have e1 : n.tdiv 2 = ((n.toNat / 2 : Nat) : Int) := by
      rw [Int.tdiv_eq_ediv_of_nonneg (by omega)]; omega
    have e2 : IntKind.u64.wrap (n.tdiv 2) = ((n.toNat / 2 : Nat) : Int) := by rw [e1, wrapU (by omega) (by omega)]
    have hl : (chainN (n.toNat / 2)).length ≤ 64 := by
      rw [chainN_len]
      have := (Nat.log2_lt (show n.toNat / 2 ≠ 0 by omega) (k := 63)).2 (by omega)
      omega
    rw [e2, Int.toNat_natCast, decide_eq_true (by omega), decide_eq_true (by omega), decide_eq_true (by omega), chainN_half (show 2 ≤ n.toNat by omega)]
    have e3 : ((n.toNat : Nat) : Int) = n := by omega
    rw [e3]; rfl
theorem g370a : ∀ N : Nat, GoodS Tryd.prog N370 (s370a (N : Int))
  | 0 => by
    refine good (.nil _) H370 rfl (by kernel_rfl) noL [] (noLoops (by kernel_rfl)) [.v U] (by decide) [.arr U] _ fun n r hw e => ?_
    have e1 := congrArg Prod.fst e
    simp only [Bool.and_eq_true, decide_eq_true_eq] at e1
    have a := e1.1
    have b := e1.2
    exact absurd (Int.lt_of_le_of_lt a b) (by decide)
  | N + 1 => by
    refine good (.cons (g370a N) (.nil _)) H370 rfl (by kernel_rfl) noL [] (noLoops (by kernel_rfl)) [.v U] (by decide) [.arr U] _ fun n r hw e => ?_
    have e1 := congrArg Prod.fst e
    have e2 := congrArg Prod.snd e
    simp only [Bool.and_eq_true, decide_eq_true_eq] at e1 e2
    rw [r370a, chainR_ok e1.1 (by simpa using e1.2) (hasU hw).2.1, ← e2]
theorem natLt (n : Int) : decide (n < ((n.toNat : Nat) : Int) + 1) = true := decide_eq_true (by omega)
theorem g370 : GoodS Tryd.prog N370 s370 := by
  refine .fn (callable_of H370 (bd rfl) (by kernel_rfl)) fun n r hw e => ?_
  have g : GoodS Tryd.prog N370 (.fn [.v U] fun x => (decide (1 ≤ x) && decide (x < ((n.toNat : Nat) : Int) + 1), .one (.sl true U none (chainN x.toNat)))) := by
    refine good (.cons (g370a n.toNat) (.nil _)) H370 rfl (by kernel_rfl) noL [] (noLoops (by kernel_rfl)) [.v U] (by decide) [.sl true U] _ fun n' r' hw' e' => ?_
    have e1 := congrArg Prod.fst e'
    have e2 := congrArg Prod.snd e'
    simp only [Bool.and_eq_true, decide_eq_true_eq] at e1 e2
    rw [r370, chainR_ok e1.1 e1.2 (hasU hw').2.1, ← e2]
  have e1 := congrArg Prod.fst e
  have e2 := congrArg Prod.snd e
  simp only at e2
  refine g.2.1 (encA [.v U] n) r ?_
  have hlt : decide (n < ((n.toNat : Nat) : Int) + 1) = true := natLt n
  show some (decide (1 ≤ n) && decide (n < ((n.toNat : Nat) : Int) + 1), (AV.one (.sl true U none (chainN n.toNat)))) = some (true, r)
  rw [hlt, show decide (1 ≤ n) = true from e1, ← e2]; rfl
theorem chain_any {a b : Nat} (hb : b ≠ 0) : (chainN b).any (fun x => x == (a : Int)) = abv a b := by
  apply Bool.eq_iff_iff.2
  rw [List.any_eq_true, abv_iff]
  unfold chainN
  constructor
  · rintro ⟨x, hx, he⟩
    obtain ⟨d, hd, rfl⟩ := List.mem_map.1 hx
    have hd := List.mem_range.1 hd
    have he : b / 2 ^ (b.log2 - d) = a := by have := eq_of_beq he; omega
    have hl := log2_div (n := b) (k := b.log2 - d) hb (by omega)
    rw [he] at hl
    exact ⟨by omega, by rw [show b.log2 - a.log2 = b.log2 - d by omega]; exact he⟩
  · rintro ⟨h1, h2⟩
    exact ⟨_, List.mem_map.2 ⟨a.log2, List.mem_range.2 (by omega), rfl⟩, by rw [h2]; simp⟩
theorem allK_any {X E : Option AV} {p : Int → Bool} (l : List Int) : ∀ (m j : Nat), j + m = l.length → allK (fun _ => X) E (fun j => p (iAt l j)) m j = bif (l.drop j).any p then X else E := by
  intro m
  induction m with
  | zero => intro j hj; rw [List.drop_of_length_le (by omega)]; rfl
  | succ m ih =>
    intro j hj
    have h1 : j < l.length := by omega
    rw [allK, ih (j + 1) (by omega), List.drop_eq_getElem_cons h1, List.any_cons]
    have e1 : iAt l j = l[j] := by simp [iAt, h1]
    rw [e1]
    cases p l[j] <;> rfl
abbrev live337 : List (Nat × Dir) := [(0, .keep), (4, .keep), (8, .keep), (9, .keep), (10, .keep)]
def vs337 (a : Int) (r : Bool) (l : List Int) (n i : Int) : List AV := [.one (.int .u64 a), .one (.bool r), .one (.sl true U none l), .one (.int .i64 n), .one (.int .i64 i)]
noncomputable abbrev lp337 (Λ : Lam AV) (K : AE → List AV → Option AV) (fuel : Nat) (vs : List AV) : Option AV := loopN (aexec tb (orc [(N370, s370)]) Λ ⟨18, 0, [(0, live337)]⟩ (loopK F337 0).2 0) 18 0 live337 K fuel vs
theorem step337 (a : Int) (r : Bool) (l : List Int) (n i : Int) (Λ : Lam AV) (fuel : Nat) (K : AE → List AV → Option AV) : lp337 Λ K (fuel + 1) (vs337 a r l n i) =
    bif decide (i < n) then bif inB i l.length then bif iAt l i == a then K .ret (vs337 a true l n i) else lp337 Λ K fuel (vs337 a r l n (IntKind.i64.wrap (i + 1))) else none else K (.exit 0) (vs337 a r l n i) := by kernel_rfl
def Λ337 : Lam AV := fun cur vs K =>
  match cur, vs with
  | 0, [.one (.int .u64 a), .one (.bool r), .one (.sl true (.int .u64) none l), .one (.int .i64 n), .one (.int .i64 0)] =>
    bif decide (n = l.length) && decide (n ≤ 9223372036854775807) then allK (fun j => K .ret (vs337 a true l n j)) (K (.exit 0) (vs337 a r l n n)) (fun j => iAt l j == a) n.toNat 0 else none
  | _, _ => none
theorem loop337 : LoopP tb (orc [(N370, s370)]) Λ337 ⟨18, 0, [(0, live337)]⟩ (loopK F337 0) := by
  intro vs K out e
  have hcur : (loopK F337 0).1 = 0 := by kernel_rfl
  rw [hcur] at e ⊢
  unfold Λ337 at e
  split at e
  · rename_i a r l n _
    cases hc : (decide (n = l.length) && decide (n ≤ 9223372036854775807)) with
    | false => rw [hc] at e; cases e
    | true =>
      rw [hc] at e
      simp only [cond_true] at e
      simp only [Bool.and_eq_true, decide_eq_true_eq] at hc
      obtain ⟨rfl, hmax⟩ := hc
      refine upLoop (α := Unit) (n := l.length) (F := fun fuel _ j => lp337 Λ337 K fuel (vs337 a r l l.length j))
        (G := fun j _ => allK (fun j => K .ret (vs337 a true l l.length j)) (K (.exit 0) (vs337 a r l l.length l.length)) (fun j => iAt l j == a) (l.length - j) j)
        (fun fuel _ => ?_) (fun _ j hj => ?_) l.length 0 () out (by omega) e
      · simp only [step337, nlt_dec, cond_false, Nat.sub_self, allK]
      · have hm : l.length - j = (l.length - (j + 1)) + 1 := by omega
        cases hx : iAt l j == a with
        | true => right; intro fuel; simp only [step337, lt_dec hj, inB_lt hj, hx, cond_true, hm, allK]
        | false =>
          left; refine ⟨(), fun fuel => ?_, ?_⟩
          · simp only [step337, lt_dec hj, inB_lt hj, hx, cond_true, cond_false]
            rw [wrap64 (by omega) (by omega)]; rfl
          · simp only [hm, allK, hx, cond_false]
  · cases e
theorem r337 (a b : Int) : run (orc [(N370, s370)]) Λ337 [(0, live337)] F337 (encA [.v U, .v U] (a, b)) [] =
    bif decide (1 ≤ b) then bif decide (((chainN b.toNat).length : Int) = (chainN b.toNat).length) && decide (((chainN b.toNat).length : Int) ≤ 9223372036854775807) then
      allK (fun _ => oB true) (oB false) (fun j => iAt (chainN b.toNat) j == a) ((chainN b.toNat).length : Int).toNat 0 else none else none := by kernel_rfl
def isI (a b : Int) : Bool := abv a.toNat b.toNat
def s337 : Sp := .fn [.v U, .v U] fun x => (decide (1 ≤ x.2), .one (.bool (isI x.1 x.2)))
theorem chain_small {n : Nat} (h : n < 2 ^ 64) (h0 : n ≠ 0) : (chainN n).length ≤ 64 := by
  rw [chainN_len]
  have := (Nat.log2_lt h0).2 h
  omega
theorem is_run {a b : Int} (a0 : 0 ≤ a) (h1 : decide (1 ≤ b) = true) (b1 : b.toNat < 2 ^ 64) : (bif decide (1 ≤ b) then bif decide (((chainN b.toNat).length : Int) = (chainN b.toNat).length) && decide (((chainN b.toNat).length : Int) ≤ 9223372036854775807) then
      allK (fun _ => oB true) (oB false) (fun j => iAt (chainN b.toNat) j == a) ((chainN b.toNat).length : Int).toNat 0 else none else none) = oB (isI a b) := by
  have hb := of_decide_eq_true h1
  have hl := chain_small b1 (by omega)
  rw [h1, lenMax (l := chainN b.toNat) (by omega), Int.toNat_natCast]
  simp only [cond_true]
  rw [allK_any (p := fun x => x == a) (chainN b.toNat) _ _ (by omega), List.drop_zero]
  have := chain_any (a := a.toNat) (b := b.toNat) (by omega)
  rw [show ((a.toNat : Nat) : Int) = a by omega] at this
  rw [this]
  unfold isI
  cases abv a.toNat b.toNat <;> rfl
theorem g337 : GoodS Tryd.prog N337 s337 := by
  refine good (.cons g370 (.nil _)) H337 rfl (by kernel_rfl) Λ337 [(0, live337)] (oneLoop (p0 := loopK F337 0) (by kernel_rfl) loop337) [.v U, .v U] (by decide) [] _ fun x r hw e => ?_
  obtain ⟨a, b⟩ := x
  have e1 := congrArg Prod.fst e
  have e2 := congrArg Prod.snd e
  simp only at e2
  refine (r337 a b).trans ((is_run (hasU hw.1).1 e1 (hasU hw.2).2.1).trans ?_)
  rw [← e2]; rfl
theorem r404 (n : Int) : run (orc [(N370, s370)]) noL [] F404 (encA [.v U] n) [] = bif decide (1 ≤ n) then some (.one (.int .i64 (IntKind.i64.wrap (((chainN n.toNat).length : Int) - 1)))) else none := by kernel_rfl
def s404 : Sp := .fn [.v U] fun n => (decide (1 ≤ n), .one (.int .i64 (depI n)))
theorem dep_run {n : Int} (h1 : decide (1 ≤ n) = true) (b1 : n.toNat < 2 ^ 64) : IntKind.i64.wrap (((chainN n.toNat).length : Int) - 1) = depI n := by
  have hb := of_decide_eq_true h1
  have hl := chain_small b1 (by omega)
  rw [wrap64 (by omega) (by omega), chainN_len, dep_nat hb]; omega
theorem g404 : GoodS Tryd.prog N404 s404 := by
  refine good (.cons g370 (.nil _)) H404 rfl (by kernel_rfl) noL [] (noLoops (by kernel_rfl)) [.v U] (by decide) [] _ fun n r hw e => ?_
  have e1 := congrArg Prod.fst e
  have e2 := congrArg Prod.snd e
  simp only at e2
  refine (r404 n).trans ?_
  rw [show decide (1 ≤ n) = true from e1, dep_run e1 (hasU hw).2.1, ← e2]; rfl
def othI (h n : Int) : Int × Int := bif !mayN h n then (0, 1) else bif n == 1 then (0, 4) else (xorI n 1, 0)
theorem xor_one_eq {n : Nat} : n ^^^ 1 = if n % 2 = 0 then n + 1 else n - 1 := by
  have h1 := (xor_one n).1
  have h2 : (n ^^^ 1) % 2 = (n % 2 + 1) % 2 := by
    have := @Nat.xor_mod_two_eq_one n 1
    rcases Nat.mod_two_eq_zero_or_one n with h | h
    · have := this.2 (fun hx => by have := hx.2 rfl; omega)
      omega
    · have : ¬ (n ^^^ 1) % 2 = 1 := fun hx => (this.1 hx) ⟨fun _ => rfl, fun _ => h⟩
      omega
  split <;> omega
theorem xor_nat' {a : Nat} (ha : a < 2 ^ 64) : xorI a 1 = ((a ^^^ 1 : Nat) : Int) := by
  unfold xorI
  have e1 : (BitVec.ofInt 64 (a : Int)).toNat = a := by rw [BitVec.toNat_ofInt]; omega
  have e2 : (BitVec.ofInt 64 (1 : Int)).toNat = 1 := by decide
  rw [BitVec.toNat_xor, e1, e2, wrapU]
  · omega
  · have := Nat.xor_lt_two_pow ha (show 1 < 2 ^ 64 by decide); omega
def s371 : Sp := .fn [.v I, .v U] fun x => (true, re2 (othI x.1 x.2).1 (othI x.1 x.2).2)
theorem two_le {n : Int} (h1 : 1 ≤ n.toNat) (h : (n == 1) = false) : 2 ≤ n := by 
  have : n ≠ 1 := by simpa using h
  omega
theorem oth_run {n : Int} (h0 : 2 ≤ n) (h1 : n.toNat < 2 ^ 64) : (bif n.tmod 2 == 0 then some (re2 (IntKind.u64.wrap (n + 1)) 0) else some (re2 (IntKind.u64.wrap (n - 1)) 0)) = some (re2 (xorI n 1) 0) := by
  obtain ⟨m, rfl⟩ := Int.eq_ofNat_of_zero_le (show 0 ≤ n by omega)
  rw [Int.toNat_natCast] at h1
  rw [xor_nat' h1, xor_one_eq]
  have e : (m : Int).tmod 2 = ((m % 2 : Nat) : Int) := by rw [Int.tmod_eq_emod_of_nonneg (by omega)]; omega
  rw [e]
  by_cases hm : m % 2 = 0
  · rw [if_pos hm, hm, wrapU (by omega) (by omega)]; rfl
  · rw [if_neg hm, show (((m % 2 : Nat) : Int) == 0) = false by simp; omega, wrapU (n := (m : Int) - 1) (by omega) (by omega), show ((m - 1 : Nat) : Int) = (m : Int) - 1 by omega]; rfl
theorem eq0_nat {n : Int} (h : 0 ≤ n) : (n == 0) = (n.toNat == 0) := by apply Bool.eq_iff_iff.2; simp; omega
theorem ne0_nat {n : Int} (h : 0 ≤ n) : (n != 0) = !(n.toNat == 0) := by unfold bne; rw [eq0_nat h]
theorem one_le {n : Int} (h : n.toNat ≠ 0) : decide (1 ≤ n) = true := decide_eq_true (by omega)
theorem eq_nat {a b : Int} (ha : 0 ≤ a) (hb : 0 ≤ b) : (b == a) = (a.toNat == b.toNat) := by apply Bool.eq_iff_iff.2; simp; omega
def c45 (h : Int) (s : Subset.D) : Bool := bif !mayN h s.2 then true else s.2 == s.1
def gd45 (h : Int) (s : Subset.D) : Bool := decide (1 ≤ s.2) || !(boolBeq (s.2 != 0) true && boolBeq (c45 h s) false)
theorem r345 (h : Int) (s : Subset.D) : run (orc [(N374, s374), (N337, s337)]) noL [] F345 (encA [.v I, .v Subset] (h, s)) [] =
    bif !mayN h s.1 then some (.one (.int .i64 1)) else bif gd45 h s then
      bif (bif s.2 != 0 then bif c45 h s then true else !isI s.1 s.2 else false) then some (.one (.int .i64 1)) else some (.one (.int .i64 0)) else none := by kernel_rfl
theorem check_run {h : Int} {s : Subset.D} (h1 : IntKind.u64.has s.1) (h2 : IntKind.u64.has s.2) : (bif !mayN h s.1 then some (AV.one (.int .i64 1)) else bif gd45 h s then
      bif (bif s.2 != 0 then bif c45 h s then true else !isI s.1 s.2 else false) then some (.one (.int .i64 1)) else some (.one (.int .i64 0)) else none) = some (.one (.int .i64 (subE h s))) := by
  rw [subE_nat h1 h2]
  obtain ⟨b0, b1, b2⟩ := hasU h2
  unfold okS gd45 c45 mayN isI
  have e0 : (s.2 != 0) = !(s.2.toNat == 0) := ne0_nat b0
  cases h3 : okN h.toNat s.1.toNat with
  | false => rfl
  | true =>
    rw [e0]
    cases h4 : s.2.toNat == 0 with
    | true =>
      simp only [Bool.not_true, cond_false, boolBeq, cond_true, Bool.false_and, Bool.not_false, Bool.or_true, Bool.true_or, Bool.and_self]
    | false =>
      have h4 : s.2.toNat ≠ 0 := by simpa using h4
      rw [one_le h4]
      have e1 : (s.2 == s.1) = (s.1.toNat == s.2.toNat) := by
        exact eq_nat (hasU h1).1 b0
      rw [e1]
      simp only [Bool.not_true, Bool.not_false, cond_false, cond_true, Bool.true_or, Bool.false_or, Bool.true_and]
      unfold bne
      cases okN h.toNat s.2.toNat <;> cases s.1.toNat == s.2.toNat <;> cases abv s.1.toNat s.2.toNat <;> rfl
def s345 : Sp := .fn [.v I, .v Subset] fun x => (true, .one (.int .i64 (subE x.1 x.2)))
theorem g345 : GoodS Tryd.prog N345 s345 := by
  refine good (.cons g374 (.cons g337 (.nil _))) H345 rfl (by kernel_rfl) noL [] (noLoops (by kernel_rfl)) [.v I, .v Subset] (by decide) [] _ fun x r hw e => ?_
  obtain ⟨h, s⟩ := x
  cases e
  exact (r345 h s).trans (check_run hw.2.1 hw.2.2)
def g36 (s : Subset.D) (v : Int) : Bool := decide (1 ≤ v) || !(boolBeq (isI s.1 v) true && boolBeq (s.2 == 0) false)
theorem leaf_val {h i : Int} (c0 : 0 ≤ i) (c1 : i.toNat < 2 ^ 64) (hl : leafOk h.toNat i.toNat = true) : (leafI h i).1 = ((leafN h.toNat i.toNat : Nat) : Int) := by
  obtain ⟨l1, l2, l3⟩ := leafOk_iff.1 hl
  rw [leaf_nat c0 c1]; unfold leafV
  rw [decide_eq_true l1, decide_eq_true l2, decide_eq_true l3]; rfl
theorem leaf_ne {h i : Int} (c0 : 0 ≤ i) (c1 : i.toNat < 2 ^ 64) : ((leafI h i).2 != 0) = !leafOk h.toNat i.toNat := by unfold bne; rw [leaf_err c0 c1]
theorem hasr_run {h i : Int} {s : Subset.D} (h1 : IntKind.u64.has s.1) (h2 : IntKind.u64.has s.2) (hi : IntKind.u64.has i) : (bif (bif subE h s != 0 then true else (leafI h i).2 != 0) then some (rb2 false 1) else bif decide (1 ≤ (leafI h i).1) then bif g36 s (leafI h i).1 then
      some (rb2 (bif isI s.1 (leafI h i).1 then bif s.2 == 0 then true else !isI s.2 (leafI h i).1 else false) 0) else none else none) = some (rb2 (hasI h s i).1 (hasI h s i).2) := by
  obtain ⟨c0, c1, c2⟩ := hasU hi
  rw [has_nat h1 h2 hi, subE_ne h1 h2, leaf_ne c0 c1]
  cases hk : okS h.toNat s.1.toNat s.2.toNat with
  | false => rfl
  | true =>
    cases hl : leafOk h.toNat i.toNat with
    | false => rfl
    | true =>
      rw [leaf_val c0 c1 hl]
      have hp := leafN_ne (h := h.toNat) (i := i.toNat)
      unfold g36 isI hasN
      rw [decide_eq_true (show (1 : Int) ≤ ((leafN h.toNat i.toNat : Nat) : Int) by omega), Int.toNat_natCast]
      obtain ⟨b0, b1, b2⟩ := hasU h2
      have e0 : (s.2 == 0) = (s.2.toNat == 0) := eq0_nat b0
      rw [e0]
      simp only [Bool.not_true, cond_false, cond_true, Bool.true_or, Bool.and_self]
      cases abv s.1.toNat (leafN h.toNat i.toNat) <;> cases s.2.toNat == 0 <;> cases abv s.2.toNat (leafN h.toNat i.toNat) <;> rfl
abbrev live424 : List (Nat × Dir) := [(0, .keep), (4, .keep)]
def Λ399' : Lam AV := fun cur vs K =>
  match cur, vs with
  | 0, [.one (.int .i64 h), .one (.int .i64 1)] => stepK h fun n => K (.exit 0) [.one (.int .i64 h), .one (.int .i64 n)]
  | _, _ => none
theorem le32 {h : Int} (hd : decide (h > 32) = false) : h ≤ 32 := by have := of_decide_eq_false hd; omega
theorem stepN_ne (h : Int) : stepN h ≠ 0 := by have := stepN_pos h; omega
theorem loop424 : LoopP tb (orc []) Λ399' ⟨19, 0, [(0, live424)]⟩ (loopK F424 0) := by
  intro vs K out h
  have hcur : (loopK F424 0).1 = 0 := by kernel_rfl
  rw [hcur] at h ⊢
  unfold Λ399' at h
  split at h
  · rename_i x _
    refine ⟨6, ?_⟩
    have e : loopN (aexec tb (orc []) Λ399' ⟨19, 0, [(0, live424)]⟩ (loopK F424 0).2 0) 19 0 live424 K 6 [.one (.int .i64 x), .one (.int .i64 1)] =
      stepK x fun n => K (.exit 0) [.one (.int .i64 x), .one (.int .i64 n)] := by kernel_rfl
    exact e.trans h
  · cases h
def stepV (h : Int) : Int × Int := bif (bif decide (h < 1) then true else decide (h > 32)) then (0, 1) else (stepN h, 0)
theorem r424 (h : Int) : run (orc []) Λ399' [(0, live424)] F424 (encA [.v I] h) [] = bif (bif decide (h < 1) then true else decide (h > 32)) then some (ri2 0 1) else stepK h fun n => some (ri2 n 0) := by kernel_rfl
def s424 : Sp := .fn [.v I] fun h => (true, ri2 (stepV h).1 (stepV h).2)
theorem g424 : GoodS Tryd.prog N424 s424 := by
  refine good (.nil _) H424 rfl (by kernel_rfl) Λ399' [(0, live424)] (oneLoop (p0 := loopK F424 0) (by kernel_rfl) loop424) [.v I] (by decide) [] _ fun h r hw e => ?_
  cases e
  rw [r424]; unfold stepV
  cases hc : decide (h < 1) with
  | true => rfl
  | false =>
    cases hd : decide (h > 32) with
    | true => rfl
    | false =>
      show stepK h (fun n => some (ri2 n 0)) = some (ri2 (stepN h) 0)
      exact stepK_eq (le32 hd) _
theorem r403 (h d : Int) : run (orc [(N424, s424)]) noL [] F403 (encA [.v I, .v I] (h, d)) [] = bif !decide ((stepV h).1 = 0) then some (.one (.bool (bif d.tmod (stepV h).1 == 0 then true else d == h))) else none := by kernel_rfl
def s403 : Sp := .fn [.v I, .v I] fun x => (highB x.1, .one (.bool (spB x.2 (stepN x.1) x.1)))
theorem stepV_high {h : Int} (e : highB h = true) : stepV h = (stepN h, 0) := by
  have := highB_iff.1 e
  unfold stepV
  rw [decide_eq_false (show ¬ h < 1 by omega), decide_eq_false (show ¬ h > 32 by omega)]; rfl
theorem g403 : GoodS Tryd.prog N403 s403 := by
  refine good (.cons g424 (.nil _)) H403 rfl (by kernel_rfl) noL [] (noLoops (by kernel_rfl)) [.v I, .v I] (by decide) [] _ fun x r hw e => ?_
  obtain ⟨h, d⟩ := x
  have e1 := congrArg Prod.fst e
  have e2 := congrArg Prod.snd e
  simp only at e1 e2
  refine (r403 h d).trans ?_
  rw [stepV_high e1, ← e2, decide_eq_false (stepN_ne h)]; rfl
abbrev live405 : List (Nat × Dir) := [(0, .keep), (1, .keep)]
def vs405 (h d : Int) : List AV := [.one (.int .i64 h), .one (.int .i64 d)]
noncomputable abbrev lp405 (Λ : Lam AV) (K : AE → List AV → Option AV) (fuel : Nat) (vs : List AV) : Option AV := loopN (aexec tb (orc [(N403, s403)]) Λ ⟨14, 0, [(0, live405)]⟩ (loopK F405 0).2 0) 14 0 live405 K fuel vs
theorem step405 (h d : Int) (Λ : Lam AV) (fuel : Nat) (K : AE → List AV → Option AV) : lp405 Λ K (fuel + 1) (vs405 h d) =
    bif highB h then bif !spB d (stepN h) h then lp405 Λ K fuel (vs405 h (IntKind.i64.wrap (d + 1))) else K (.exit 0) (vs405 h d) else none := by kernel_rfl
def nxOk (h d : Int) : Bool := decide (d < nxI d (stepN h) h) && decide (nxI d (stepN h) h ≤ h) && spB (nxI d (stepN h) h) (stepN h) h
theorem nx_all : ((List.range 33).all fun h : Nat => (List.range h).all fun d : Nat => nxOk h d && (List.range h).all fun y : Nat => !(decide (d < y) && decide ((y : Int) < nxI d (stepN h) h)) || !spB y (stepN h) h) = true := by kernel_rfl
def Λ405 : Lam AV := fun cur vs K =>
  match cur, vs with
  | 0, [.one (.int .i64 h), .one (.int .i64 d)] => bif highB h && decide (1 ≤ d) && decide (d ≤ h) then K (.exit 0) (vs405 h (nxI (d - 1) (stepN h) h)) else none
  | _, _ => none
theorem nx_spec {h d : Nat} (h2 : h ≤ 32) (hd : d < h) : (d : Int) < nxI d (stepN h) h ∧ nxI d (stepN h) h ≤ h ∧ spB (nxI d (stepN h) h) (stepN h) h = true ∧ ∀ y : Nat, d < y → (y : Int) < nxI d (stepN h) h → spB y (stepN h) h = false := by
  have h1 := List.all_eq_true.1 (List.all_eq_true.1 nx_all h (List.mem_range.2 (by omega))) d (List.mem_range.2 hd)
  simp only [Bool.and_eq_true, nxOk, decide_eq_true_eq] at h1
  obtain ⟨⟨⟨a, b⟩, c⟩, e⟩ := h1
  refine ⟨a, b, c, fun y hy hx => ?_⟩
  have := List.all_eq_true.1 e y (List.mem_range.2 (by omega))
  simp only [hy, hx, decide_true, Bool.and_self, Bool.not_true, Bool.false_or, Bool.not_eq_true'] at this
  exact this
theorem loop405 : LoopP tb (orc [(N403, s403)]) Λ405 ⟨14, 0, [(0, live405)]⟩ (loopK F405 0) := by
  intro vs K out e
  have hcur : (loopK F405 0).1 = 0 := by kernel_rfl
  rw [hcur] at e ⊢
  unfold Λ405 at e
  split at e
  · rename_i h d _
    cases hc : (highB h && decide (1 ≤ d) && decide (d ≤ h)) with
    | false => rw [hc] at e; cases e
    | true =>
      rw [hc] at e
      simp only [cond_true] at e
      simp only [Bool.and_eq_true, decide_eq_true_eq] at hc
      obtain ⟨⟨hh, h1⟩, h2⟩ := hc
      have h3 := highB_iff.1 hh
      obtain ⟨H, rfl⟩ := Int.eq_ofNat_of_zero_le (show 0 ≤ h by omega)
      obtain ⟨D, rfl⟩ : ∃ D : Nat, d = ((D + 1 : Nat) : Int) := ⟨(d - 1).toNat, by omega⟩
      rw [show ((D + 1 : Nat) : Int) - 1 = (D : Int) by omega] at e
      obtain ⟨a, b, c, f⟩ := nx_spec (h := H) (d := D) (by omega) (by omega)
      generalize hX : nxI (D : Int) (stepN H) H = X at *
      obtain ⟨X, rfl⟩ := Int.eq_ofNat_of_zero_le (show 0 ≤ X by omega)
      refine upLoopI (α := Unit) (n := X) (F := fun fuel _ i => lp405 Λ405 K fuel (vs405 H i)) (G := fun _ _ => K (.exit 0) (vs405 H X)) (Inv := fun j _ => D < j) (fun fuel _ => ?_) (fun _ j hj hi => ?_) (X - (D + 1)) (D + 1) () out (by omega) (by omega) e
      · simp only [step405, hh, c, cond_true, Bool.not_true, cond_false]
      · left
        refine ⟨(), by omega, fun fuel => ?_, rfl⟩
        simp only [step405, hh, f j hi (by omega), cond_true, Bool.not_false]
        rw [wrap64 (by omega) (by omega)]; rfl
  · cases e
theorem r405 (h d : Int) : run (orc [(N403, s403)]) Λ405 [(0, live405)] F405 (encA [.v I, .v I] (h, d)) [] =
    bif highB h && decide (1 ≤ IntKind.i64.wrap (d + 1)) && decide (IntKind.i64.wrap (d + 1) ≤ h) then some (.one (.int .i64 (nxI (IntKind.i64.wrap (d + 1) - 1) (stepN h) h))) else none := by kernel_rfl
def s405 : Sp := .fn [.v I, .v I] fun x => (highB x.1 && decide (0 ≤ x.2) && decide (x.2 < x.1), .one (.int .i64 (nxI x.2 (stepN x.1) x.1)))
theorem next_run {h d : Int} (e : (highB h && decide (0 ≤ d) && decide (d < h)) = true) : (bif highB h && decide (1 ≤ IntKind.i64.wrap (d + 1)) && decide (IntKind.i64.wrap (d + 1) ≤ h) then some (AV.one (.int .i64 (nxI (IntKind.i64.wrap (d + 1) - 1) (stepN h) h))) else none) = some (.one (.int .i64 (nxI d (stepN h) h))) := by
  simp only [Bool.and_eq_true, decide_eq_true_eq] at e
  obtain ⟨⟨e1, e2⟩, e3⟩ := e
  have h3 := highB_iff.1 e1
  rw [wrap64 (by omega) (by omega), e1, decide_eq_true (show 1 ≤ d + 1 by omega), decide_eq_true (show d + 1 ≤ h by omega), show d + 1 - 1 = d by omega]; rfl
theorem g405 : GoodS Tryd.prog N405 s405 := by
  refine good (.cons g403 (.nil _)) H405 rfl (by kernel_rfl) Λ405 [(0, live405)] (oneLoop (p0 := loopK F405 0) (by kernel_rfl) loop405) [.v I, .v I] (by decide) [] _ fun x r hw e => ?_
  obtain ⟨h, d⟩ := x
  have e1 := congrArg Prod.fst e
  have e2 := congrArg Prod.snd e
  simp only at e1 e2
  rw [← e2]
  exact (r405 h d).trans (next_run e1)
def Γ372 : Orc := orc [(N345, s345), (N404, s404), (N403, s403), (N405, s405)]
theorem sp_lt {i n h : Int} (hs : spB i n h = false) (hi : i ≤ h) : i < h := by
  rcases Int.lt_or_eq_of_le hi with h1 | rfl
  · exact h1
  · unfold spB at hs
    cases hc : i.tmod n == 0 with
    | true => rw [hc] at hs; cases hs
    | false => rw [hc] at hs; simp at hs
def us2 (h : Int) (s : Subset.D) : Option AV :=
  bif decide (1 ≤ s.1) then bif highB h then bif spB (depI s.1) (stepN h) h then some (rb2 true 0) else
    bif decide (1 ≤ s.1) then bif highB h && decide (0 ≤ depI s.1) && decide (depI s.1 < h) then bif decide (1 ≤ s.2) then some (rb2 (decide (nxI (depI s.1) (stepN h) h ≥ depI s.2)) 0) else none else none else none
  else none else none
theorem r372 (h : Int) (s : Subset.D) : run Γ372 noL [] F372 (encA [.v I, .v Subset] (h, s)) [] = bif subE h s != 0 then some (rb2 false 1) else bif s.2 == 0 then some (rb2 (s.1 == 1) 0) else us2 h s := by kernel_rfl
theorem use_ok {h : Int} {s : Subset.D} (h1 : IntKind.u64.has s.1) (h2 : IntKind.u64.has s.2) (hk : okS h.toNat s.1.toNat s.2.toNat = true) (hj : (s.2 == 0) = false) :
    highB h = true ∧ 1 ≤ s.1 ∧ 1 ≤ s.2 ∧ 0 ≤ depI s.1 ∧ depI s.1 ≤ h ∧ useI h s = (bif spB (depI s.1) (stepN h) h then true else decide (depI s.2 ≤ nxI (depI s.1) (stepN h) h), 0) := by
  obtain ⟨a0, a1, a2⟩ := hasU h1
  obtain ⟨b0, b1, b2⟩ := hasU h2
  obtain ⟨k1, k2⟩ := okS_iff.1 hk
  have hj' : s.2.toNat ≠ 0 := by rw [eq0_nat b0] at hj; simpa using hj
  obtain ⟨j1, _, _⟩ := k2.resolve_left hj'
  have c1 : (chkI h s.1 != 0) = false := by rw [chk_ne a0, k1]; rfl
  have c2 : (chkI h s.2 != 0) = false := by rw [chk_ne b0, j1]; rfl
  obtain ⟨p1, p2, p3⟩ := chk_zero c1
  obtain ⟨_, q2, _⟩ := chk_zero c2
  have c0 : (chkI h 1 != 0) = false := by
    obtain ⟨o1, o2, _⟩ := okN_iff.1 k1
    rw [chk_ne (by decide)]
    show (!okN h.toNat 1) = false
    rw [okN_one, decide_eq_true o1, decide_eq_true o2]; rfl
  have e0 : stepI h = (stepN h, 0) := by unfold stepI; rw [c0]; rfl
  have e1 : depthI h s.1 = (depI s.1, 0) := by unfold depthI; rw [c1]; rfl
  have e2 : depthI h s.2 = (depI s.2, 0) := by unfold depthI; rw [c2]; rfl
  refine ⟨p1, p2, q2, by rw [dep_nat p2]; exact Int.natCast_nonneg _, p3, ?_⟩
  have eB : depB h s = true := by unfold depB; rw [e1]; unfold bne; rw [hj]; rfl
  unfold useI useB depJ depE
  rw [subE_ne h1 h2, hk, hj, eB, e0, e1, e2]
  rfl
theorem use_run {h : Int} {s : Subset.D} (h1 : IntKind.u64.has s.1) (h2 : IntKind.u64.has s.2) : (bif subE h s != 0 then some (rb2 false 1) else bif s.2 == 0 then some (rb2 (s.1 == 1) 0) else us2 h s) = some (rb2 (useI h s).1 (useI h s).2) := by
  cases hk : okS h.toNat s.1.toNat s.2.toNat with
  | false =>
    have e : subE h s = 1 := by rw [subE_nat h1 h2, hk]; rfl
    unfold useI; rw [e]; rfl
  | true =>
    have e : (subE h s != 0) = false := by rw [subE_ne h1 h2, hk]; rfl
    cases hj : s.2 == 0 with
    | true => unfold useI; rw [e, hj]; rfl
    | false =>
      obtain ⟨p1, p2, p3, p4, p5, p6⟩ := use_ok h1 h2 hk hj
      rw [e, p6]
      unfold us2
      rw [decide_eq_true p2, p1, decide_eq_true p3, decide_eq_true p4]
      cases hs : spB (depI s.1) (stepN h) h with
      | true => rfl
      | false =>
        have hlt : depI s.1 < h := sp_lt hs p5
        rw [decide_eq_true hlt]; rfl
theorem g372 : GoodS Tryd.prog N372 s327 := by
  refine good (.cons g345 (.cons g404 (.cons g403 (.cons g405 (.nil _))))) H372 rfl (by kernel_rfl) noL [] (noLoops (by kernel_rfl)) [.v I, .v Subset] (by decide) [] _ fun x r hw e => ?_
  obtain ⟨h, s⟩ := x
  cases e
  exact (r372 h s).trans (use_run hw.2.1 hw.2.2)
def schB (h k : Int) : Bool := bif bif mayN h 1 then decide (k ≥ 1) else false then decide (k ≤ 3) else false
theorem r373 (h k : Int) : run (orc [(N374, s374)]) noL [] F373 (encA [.v I, .v I] (h, k)) [] = some (.one (.bool (schB h k))) := by kernel_rfl
def s373 : Sp := .fn [.v I, .v I] fun x => (true, .one (.bool (schB x.1 x.2)))
theorem g373 : GoodS Tryd.prog N373 s373 := by
  refine good (.cons g374 (.nil _)) H373 rfl (by kernel_rfl) noL [] (noLoops (by kernel_rfl)) [.v I, .v I] (by decide) [] _ fun x r hw e => ?_
  obtain ⟨h, k⟩ := x
  cases e
  exact r373 h k
theorem sch_ne (h k : Int) : (schE h k != 0) = !schB h k := by
  unfold schE schB
  have : mayN h 1 = okN h.toNat 1 := rfl
  rw [this]
  by_cases hk : 1 ≤ k ∧ k ≤ 3
  · rw [decide_eq_false (show ¬ k < 1 by omega), decide_eq_false (show ¬ k > 3 by omega), decide_eq_true (show k ≥ 1 by omega), decide_eq_true (show k ≤ 3 by omega)]
    simp only [cond_false]
    rw [chk_ne (by decide)]
    show (!okN h.toNat 1) = _
    cases okN h.toNat 1 <;> rfl
  · have e1 : (bif decide (k < 1) then true else decide (k > 3)) = true := by
      cases e : decide (k < 1) with
      | true => rfl
      | false => have := of_decide_eq_false e; exact decide_eq_true (by omega)
    rw [e1]
    have e2 : (bif bif okN h.toNat 1 then decide (k ≥ 1) else false then decide (k ≤ 3) else false) = false := by
      cases okN h.toNat 1 with
      | false => rfl
      | true =>
        cases e : decide (k ≥ 1) with
        | false => rfl
        | true => have := of_decide_eq_true e; exact decide_eq_false (by omega)
    rw [e2]; rfl
def mayB3' (h k : Int) (s : Subset.D) : Bool := bif !schB h k then true else subE h s != 0
theorem r335 (h k : Int) (s : Subset.D) : run (orc [(N373, s373), (N345, s345), (N372, s327)]) noL [] F335 (encA [.v I, .v I, .v Subset] (h, k, s)) [] =
    bif mayB3' h k s then some (rb2 false 1) else bif k == 1 then some (rb2 (s.2 == 0) 0) else bif k == 2 then some (rb2 (bif s.2 != 0 then true else s.1 == 1) 0) else some (rb2 (useI h s).1 (useI h s).2) := by kernel_rfl
theorem g335 : GoodS Tryd.prog N335 s318 := by
  refine good (.cons g373 (.cons g345 (.cons g372 (.nil _)))) H335 rfl (by kernel_rfl) noL [] (noLoops (by kernel_rfl)) [.v I, .v I, .v Subset] (by decide) [] _ fun x r hw e => ?_
  obtain ⟨h, k, s⟩ := x
  cases e
  refine (r335 h k s).trans ?_
  show _ = some (rb2 (mayI h k s).1 (mayI h k s).2)
  have eb : mayB3' h k s = mayB3 h k s := by unfold mayB3' mayB3; rw [sch_ne]
  unfold mayI
  rw [eb]
  cases mayB3 h k s with
  | true => rfl
  | false =>
    cases k == 1 with
    | true => rfl
    | false => cases k == 2 <;> rfl
end Go.AM.Seat
