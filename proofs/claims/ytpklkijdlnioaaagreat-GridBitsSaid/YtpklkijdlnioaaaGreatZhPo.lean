/- Counting bits by halves; in plain Lean. -/
import Derived.Test.YtpklkijdlnioaaaGreatZhWd
set_option linter.unusedVariables false
namespace Go.Proofs.YtpklkijdlnioaaaGreat.Eng
def cnt : Nat → Nat → Nat
  | 0, _ => 0
  | k + 1, x => x % 2 + cnt k (x / 2)
def cntP (p : Nat → Bool) : Nat → Nat
  | 0 => 0
  | k + 1 => cntP p k + (if p k then 1 else 0)
theorem cntP_front (p : Nat → Bool) : ∀ k, cntP p (k + 1) = (if p 0 then 1 else 0) + cntP (fun i => p (i + 1)) k
  | 0 => by simp [cntP]
  | k + 1 => by rw [cntP, cntP_front p k, cntP]; omega
theorem cntP_add (p : Nat → Bool) (a : Nat) : ∀ b, cntP p (a + b) = cntP p a + cntP (fun i => p (a + i)) b
  | 0 => by simp [cntP]
  | b + 1 => by rw [← Nat.add_assoc, cntP, cntP_add p a b, cntP]; omega
theorem cntP_congr {p q : Nat → Bool} : ∀ {k : Nat}, (∀ i, i < k → p i = q i) → cntP p k = cntP q k
  | 0, _ => rfl
  | k + 1, h => by rw [cntP, cntP, cntP_congr fun i hi => h i (by omega), h k (by omega)]
theorem cntP_over {p : Nat → Bool} {n : Nat} : ∀ {b : Nat}, (∀ i, n ≤ i → p i = false) → cntP p (n + b) = cntP p n
  | 0, _ => rfl
  | b + 1, h => by rw [← Nat.add_assoc, cntP, cntP_over (b := b) h, h _ (by omega)]; simp
theorem cnt_bits : ∀ (k x : Nat), cnt k x = cntP x.testBit k
  | 0, _ => rfl
  | k + 1, x => by
    rw [cnt, cnt_bits k, cntP_front]
    have h0 : x.testBit 0 = decide (x % 2 = 1) := Nat.testBit_zero _
    have h1 : (fun i => x.testBit (i + 1)) = (x / 2).testBit := by funext i; rw [Nat.testBit_succ]
    rw [h0, h1]
    rcases Nat.mod_two_eq_zero_or_one x with e | e <;> simp [e]
theorem cnt_parts (a d : Nat) : ∀ (k l : Nat), d < 2 ^ k → cnt (k + l) (d + 2 ^ k * a) = cnt k d + cnt l a := by
  intro k
  induction k generalizing d with
  | zero =>
    intro l h
    have : d = 0 := by simpa using h
    subst this
    simp [cnt]
  | succ k ih =>
    intro l h
    have e : (k + 1 + l) = (k + l) + 1 := by omega
    have h2 : (d + 2 ^ (k + 1) * a) / 2 = d / 2 + 2 ^ k * a := by rw [Nat.pow_succ, Nat.mul_comm (2 ^ k) 2, Nat.mul_assoc]; omega
    have h3 : (d + 2 ^ (k + 1) * a) % 2 = d % 2 := by rw [Nat.pow_succ, Nat.mul_comm (2 ^ k) 2, Nat.mul_assoc]; omega
    rw [e, cnt, h2, h3, ih (d / 2) l (by rw [Nat.pow_succ] at h; omega), cnt]
    omega
theorem and_parts (k d a e b : Nat) (hd : d < 2 ^ k) (he : e < 2 ^ k) : (d + 2 ^ k * a) &&& (e + 2 ^ k * b) = (d &&& e) + 2 ^ k * (a &&& b) := by
  have hde : d &&& e < 2 ^ k := Nat.and_lt_two_pow _ he
  apply Nat.eq_of_testBit_eq
  intro j
  rw [Nat.testBit_and, Nat.add_comm d, Nat.add_comm e, Nat.add_comm (d &&& e), Nat.testBit_two_pow_mul_add _ hd, Nat.testBit_two_pow_mul_add _ he, Nat.testBit_two_pow_mul_add _ hde]
  by_cases h : j < k
  · simp [h]
  · simp [h]
/-- Eight bytes. -/
def v8 (a b c d e f g h : Nat) : Nat := a + 256 * (b + 256 * (c + 256 * (d + 256 * (e + 256 * (f + 256 * (g + 256 * h))))))
theorem and8 {a b c d e f g h : Nat} (m : Nat) (hm : m < 256) (ha : a < 256) (hb : b < 256) (hc : c < 256) (hd : d < 256) (he : e < 256) (hf : f < 256) (hg : g < 256) : v8 a b c d e f g h &&& v8 m m m m m m m m = v8 (a &&& m) (b &&& m) (c &&& m) (d &&& m) (e &&& m) (f &&& m) (g &&& m) (h &&& m) := by
  unfold v8
  have p := fun (x y u v : Nat) (hx : x < 256) (hu : u < 256) => and_parts 8 x y u v hx hu
  simp only [show (2 : Nat) ^ 8 = 256 from rfl] at p
  rw [p _ _ _ _ ha hm, p _ _ _ _ hb hm, p _ _ _ _ hc hm, p _ _ _ _ hd hm, p _ _ _ _ he hm, p _ _ _ _ hf hm, p _ _ _ _ hg hm]
theorem add8 (a b c d e f g h a' b' c' d' e' f' g' h' : Nat) : v8 a b c d e f g h + v8 a' b' c' d' e' f' g' h' = v8 (a + a') (b + b') (c + c') (d + d') (e + e') (f + f') (g + g') (h + h') := by unfold v8; omega
def t1 (B : Nat) : Nat := (B / 2 &&& 85) + (B &&& 85)
def t2 (B : Nat) : Nat := (B / 4 &&& 51) + (B &&& 51)
def t3 (B : Nat) : Nat := B / 16 + B % 16
theorem cut1 : ∀ B : Nat, B < 256 → ∀ b : Nat, b < 2 → (B / 2 + 128 * b) &&& 85 = (B / 2 &&& 85) := by decide +kernel
theorem cut2 : ∀ B : Nat, B < 256 → ∀ b : Nat, b < 4 → (B / 4 + 64 * b) &&& 51 = (B / 4 &&& 51) := by decide +kernel
theorem lt1 : ∀ B : Nat, B < 256 → t1 B < 256 := by decide +kernel
theorem lt2 : ∀ B : Nat, B < 256 → t2 (t1 B) / 16 ≤ 4 ∧ t2 (t1 B) % 16 ≤ 4 := by decide +kernel
theorem byte_cnt : ∀ B : Nat, B < 256 → t3 (t2 (t1 B)) = cnt 8 B := by decide +kernel
theorem cut3 : ∀ T : Nat, T < 69 → T % 16 ≤ 4 → ∀ b : Nat, b < 5 → (T / 16 + 16 * b + T) &&& 15 = t3 T := by decide +kernel
theorem step1 {a b c d e f g h : Nat} (ha : a < 256) (hb : b < 256) (hc : c < 256) (hd : d < 256) (he : e < 256) (hf : f < 256) (hg : g < 256) (hh : h < 256) : (v8 a b c d e f g h / 2 &&& 6148914691236517205) + (v8 a b c d e f g h &&& 6148914691236517205) = v8 (t1 a) (t1 b) (t1 c) (t1 d) (t1 e) (t1 f) (t1 g) (t1 h) := by
  have em : 6148914691236517205 = v8 85 85 85 85 85 85 85 85 := by decide
  have ed : v8 a b c d e f g h / 2 = v8 (a / 2 + 128 * (b % 2)) (b / 2 + 128 * (c % 2)) (c / 2 + 128 * (d % 2)) (d / 2 + 128 * (e % 2)) (e / 2 + 128 * (f % 2)) (f / 2 + 128 * (g % 2)) (g / 2 + 128 * (h % 2)) (h / 2 + 128 * 0) := by unfold v8; omega
  rw [em, ed, and8 85 (by decide) (by omega) (by omega) (by omega) (by omega) (by omega) (by omega) (by omega), and8 85 (by decide) ha hb hc hd he hf hg, add8, cut1 a ha _ (by omega), cut1 b hb _ (by omega), cut1 c hc _ (by omega), cut1 d hd _ (by omega), cut1 e he _ (by omega), cut1 f hf _ (by omega), cut1 g hg _ (by omega), cut1 h hh _ (by omega)]
  rfl
theorem step2 {a b c d e f g h : Nat} (ha : a < 256) (hb : b < 256) (hc : c < 256) (hd : d < 256) (he : e < 256) (hf : f < 256) (hg : g < 256) (hh : h < 256) : (v8 a b c d e f g h / 4 &&& 3689348814741910323) + (v8 a b c d e f g h &&& 3689348814741910323) = v8 (t2 a) (t2 b) (t2 c) (t2 d) (t2 e) (t2 f) (t2 g) (t2 h) := by
  have em : 3689348814741910323 = v8 51 51 51 51 51 51 51 51 := by decide
  have ed : v8 a b c d e f g h / 4 = v8 (a / 4 + 64 * (b % 4)) (b / 4 + 64 * (c % 4)) (c / 4 + 64 * (d % 4)) (d / 4 + 64 * (e % 4)) (e / 4 + 64 * (f % 4)) (f / 4 + 64 * (g % 4)) (g / 4 + 64 * (h % 4)) (h / 4 + 64 * 0) := by unfold v8; omega
  rw [em, ed, and8 51 (by decide) (by omega) (by omega) (by omega) (by omega) (by omega) (by omega) (by omega), and8 51 (by decide) ha hb hc hd he hf hg, add8, cut2 a ha _ (by omega), cut2 b hb _ (by omega), cut2 c hc _ (by omega), cut2 d hd _ (by omega), cut2 e he _ (by omega), cut2 f hf _ (by omega), cut2 g hg _ (by omega), cut2 h hh _ (by omega)]
  rfl
theorem step3 {a b c d e f g h : Nat} (ha : a / 16 ≤ 4 ∧ a % 16 ≤ 4) (hb : b / 16 ≤ 4 ∧ b % 16 ≤ 4) (hc : c / 16 ≤ 4 ∧ c % 16 ≤ 4) (hd : d / 16 ≤ 4 ∧ d % 16 ≤ 4) (he : e / 16 ≤ 4 ∧ e % 16 ≤ 4) (hf : f / 16 ≤ 4 ∧ f % 16 ≤ 4) (hg : g / 16 ≤ 4 ∧ g % 16 ≤ 4) (hh : h / 16 ≤ 4 ∧ h % 16 ≤ 4) : (v8 a b c d e f g h / 16 + v8 a b c d e f g h) &&& 1085102592571150095 = v8 (t3 a) (t3 b) (t3 c) (t3 d) (t3 e) (t3 f) (t3 g) (t3 h) := by
  have em : 1085102592571150095 = v8 15 15 15 15 15 15 15 15 := by decide
  have ed : v8 a b c d e f g h / 16 = v8 (a / 16 + 16 * (b % 16)) (b / 16 + 16 * (c % 16)) (c / 16 + 16 * (d % 16)) (d / 16 + 16 * (e % 16)) (e / 16 + 16 * (f % 16)) (f / 16 + 16 * (g % 16)) (g / 16 + 16 * (h % 16)) (h / 16 + 16 * 0) := by unfold v8; omega
  rw [em, ed, add8, and8 15 (by decide) (by omega) (by omega) (by omega) (by omega) (by omega) (by omega) (by omega), cut3 a (by omega) ha.2 _ (by omega), cut3 b (by omega) hb.2 _ (by omega), cut3 c (by omega) hc.2 _ (by omega), cut3 d (by omega) hd.2 _ (by omega), cut3 e (by omega) he.2 _ (by omega), cut3 f (by omega) hf.2 _ (by omega), cut3 g (by omega) hg.2 _ (by omega), cut3 h (by omega) hh.2 _ (by omega)]
/-- The last steps: the bytes' sum. -/
def tail8 (y : Nat) : Nat := (y + y / 256) + (y + y / 256) / 65536
theorem step4 {a b c d e f g h : Nat} (ha : a ≤ 8) (hb : b ≤ 8) (hc : c ≤ 8) (hd : d ≤ 8) (he : e ≤ 8) (hf : f ≤ 8) (hg : g ≤ 8) (hh : h ≤ 8) : (tail8 (v8 a b c d e f g h) + tail8 (v8 a b c d e f g h) / 4294967296) % 128 = a + b + c + d + e + f + g + h := by
  have e1 : v8 a b c d e f g h + v8 a b c d e f g h / 256 = v8 (a + b) (b + c) (c + d) (d + e) (e + f) (f + g) (g + h) h := by unfold v8; omega
  have e2 : tail8 (v8 a b c d e f g h) = v8 (a + b + c + d) (b + c + d + e) (c + d + e + f) (d + e + f + g) (e + f + g + h) (f + g + h) (g + h) h := by rw [tail8, e1]; unfold v8; omega
  have e3 : v8 (a + b + c + d) (b + c + d + e) (c + d + e + f) (d + e + f + g) (e + f + g + h) (f + g + h) (g + h) h / 4294967296 = (e + f + g + h) + 256 * ((f + g + h) + 256 * ((g + h) + 256 * h)) := by unfold v8; omega
  rw [e2, e3]
  have e4 : ∀ r, v8 (a + b + c + d) (b + c + d + e) (c + d + e + f) (d + e + f + g) (e + f + g + h) (f + g + h) (g + h) h + ((e + f + g + h) + 256 * r) = (a + b + c + d + e + f + g + h) + 128 * (2 * r + 2 * ((b + c + d + e) + 256 * ((c + d + e + f) + 256 * ((d + e + f + g) + 256 * ((e + f + g + h) + 256 * ((f + g + h) + 256 * ((g + h) + 256 * h))))))) := by intro r; unfold v8; omega
  rw [e4, Nat.add_mul_mod_self_left, Nat.mod_eq_of_lt (by omega)]
theorem cnt_v8 {a b c d e f g h : Nat} (ha : a < 256) (hb : b < 256) (hc : c < 256) (hd : d < 256) (he : e < 256) (hf : f < 256) (hg : g < 256) (hh : h < 256) : cnt 64 (v8 a b c d e f g h) = cnt 8 a + cnt 8 b + cnt 8 c + cnt 8 d + cnt 8 e + cnt 8 f + cnt 8 g + cnt 8 h := by
  have p := fun (x y l : Nat) (hx : x < 256) => cnt_parts y x 8 l hx
  simp only [show (2 : Nat) ^ 8 = 256 from rfl] at p
  unfold v8
  have q1 := p a (b + 256 * (c + 256 * (d + 256 * (e + 256 * (f + 256 * (g + 256 * h)))))) 56 ha
  have q2 := p b (c + 256 * (d + 256 * (e + 256 * (f + 256 * (g + 256 * h))))) 48 hb
  have q3 := p c (d + 256 * (e + 256 * (f + 256 * (g + 256 * h)))) 40 hc
  have q4 := p d (e + 256 * (f + 256 * (g + 256 * h))) 32 hd
  have q5 := p e (f + 256 * (g + 256 * h)) 24 he
  have q6 := p f (g + 256 * h) 16 hf
  have q7 := p g h 8 hg
  simp only [Nat.reduceAdd] at q1 q2 q3 q4 q5 q6 q7
  rw [q1, q2, q3, q4, q5, q6, q7]
  omega
theorem eight (x : Nat) (hx : x < 18446744073709551616) : ∃ a b c d e f g h, a < 256 ∧ b < 256 ∧ c < 256 ∧ d < 256 ∧ e < 256 ∧ f < 256 ∧ g < 256 ∧ h < 256 ∧ x = v8 a b c d e f g h :=
  ⟨x % 256, x / 256 % 256, x / 256 / 256 % 256, x / 256 / 256 / 256 % 256, x / 256 / 256 / 256 / 256 % 256, x / 256 / 256 / 256 / 256 / 256 % 256, x / 256 / 256 / 256 / 256 / 256 / 256 % 256, x / 256 / 256 / 256 / 256 / 256 / 256 / 256, by omega, by omega, by omega, by omega, by omega, by omega, by omega, by omega, by unfold v8; omega⟩
theorem v8_lt {a b c d e f g h : Nat} (ha : a < 256) (hb : b < 256) (hc : c < 256) (hd : d < 256) (he : e < 256) (hf : f < 256) (hg : g < 256) (hh : h < 256) : v8 a b c d e f g h < 18446744073709551616 := by unfold v8; omega
theorem v8_le {m a b c d e f g h : Nat} (ha : a ≤ m) (hb : b ≤ m) (hc : c ≤ m) (hd : d ≤ m) (he : e ≤ m) (hf : f ≤ m) (hg : g ≤ m) (hh : h ≤ m) : v8 a b c d e f g h ≤ 72340172838076673 * m := by unfold v8; omega
def s1 (x : Nat) : Nat := (x / 2 &&& 6148914691236517205) + (x &&& 6148914691236517205)
def s2 (x : Nat) : Nat := (x / 4 &&& 3689348814741910323) + (x &&& 3689348814741910323)
def s3 (x : Nat) : Nat := x / 16 + x
def s4 (x : Nat) : Nat := (x &&& 1085102592571150095) + (x &&& 1085102592571150095) / 256
def s5 (x : Nat) : Nat := x + x / 65536
def s6 (x : Nat) : Nat := x + x / 4294967296
theorem swar (x : Nat) (hx : x < 18446744073709551616) : s1 x < 18446744073709551616 ∧ s2 (s1 x) < 18446744073709551616 ∧ s3 (s2 (s1 x)) < 18446744073709551616 ∧ s4 (s3 (s2 (s1 x))) < 18446744073709551616 ∧ s5 (s4 (s3 (s2 (s1 x)))) < 18446744073709551616 ∧ s6 (s5 (s4 (s3 (s2 (s1 x))))) < 9223372036854775808 ∧ s6 (s5 (s4 (s3 (s2 (s1 x))))) % 128 = cnt 64 x := by
  obtain ⟨a, b, c, d, e, f, g, h, ha, hb, hc, hd, he, hf, hg, hh, rfl⟩ := eight x hx
  have e1 : s1 (v8 a b c d e f g h) = _ := step1 ha hb hc hd he hf hg hh
  have ka := lt1 a ha; have kb := lt1 b hb; have kc := lt1 c hc; have kd := lt1 d hd; have ke := lt1 e he; have kf := lt1 f hf; have kg := lt1 g hg; have kh := lt1 h hh
  have e2 : s2 (v8 (t1 a) (t1 b) (t1 c) (t1 d) (t1 e) (t1 f) (t1 g) (t1 h)) = _ := step2 ka kb kc kd ke kf kg kh
  have la := lt2 a ha; have lb := lt2 b hb; have lc := lt2 c hc; have ld := lt2 d hd; have le := lt2 e he; have lf := lt2 f hf; have lg := lt2 g hg; have lh := lt2 h hh
  have e3 := step3 la lb lc ld le lf lg lh
  have small : ∀ T, T / 16 ≤ 4 ∧ T % 16 ≤ 4 → t3 T ≤ 8 := fun T h => by unfold t3; omega
  have ma := small _ la; have mb := small _ lb; have mc := small _ lc; have md := small _ ld; have me := small _ le; have mf := small _ lf; have mg := small _ lg; have mh := small _ lh
  have e5 := step4 ma mb mc md me mf mg mh
  have e6 := cnt_v8 ha hb hc hd he hf hg hh
  rw [← byte_cnt a ha, ← byte_cnt b hb, ← byte_cnt c hc, ← byte_cnt d hd, ← byte_cnt e he, ← byte_cnt f hf, ← byte_cnt g hg, ← byte_cnt h hh, ← e5] at e6
  rw [e1, e2, e6]
  unfold s4 s3
  rw [e3]
  have b1 := v8_lt ka kb kc kd ke kf kg kh
  have b2 := v8_le (m := 68) (a := t2 (t1 a)) (b := t2 (t1 b)) (c := t2 (t1 c)) (d := t2 (t1 d)) (e := t2 (t1 e)) (f := t2 (t1 f)) (g := t2 (t1 g)) (h := t2 (t1 h)) (by omega) (by omega) (by omega) (by omega) (by omega) (by omega) (by omega) (by omega)
  have b3 := v8_le ma mb mc md me mf mg mh
  refine ⟨b1, ?_, ?_, ?_, ?_, ?_, ?_⟩
  · omega
  · omega
  · omega
  · unfold s5; omega
  · unfold s6 s5; omega
  · unfold s6 s5 tail8; rfl
/-- The bits of a row. -/
theorem words_cnt (n : Nat) (p : Nat → Bool) : ∀ k, cntP (fun i => decide (i < n) && p i) (64 * (k + 1)) = cntP (fun i => decide (i < n) && p i) (64 * k) + cnt 64 (wordAt n p k) := by
  intro k
  rw [Nat.mul_succ, cntP_add, cnt_bits]
  refine congrArg (cntP (fun i => decide (i < n) && p i) (64 * k) + ·) ?_
  refine cntP_congr fun i hi => ?_
  rw [wordAt, bitsN_test, decide_eq_true hi, Bool.true_and]
theorem words_all (n : Nat) (p : Nat → Bool) : cntP (fun i => decide (i < n) && p i) (64 * ((n + 63) / 64)) = cntP p n := by
  have : 64 * ((n + 63) / 64) = n + (64 * ((n + 63) / 64) - n) := by omega
  rw [this, cntP_over fun i hi => by rw [decide_eq_false (by omega)]; rfl]
  exact cntP_congr fun i hi => by rw [decide_eq_true hi, Bool.true_and]
theorem cntP_le (p : Nat → Bool) : ∀ n, cntP p n ≤ n
  | 0 => Nat.le_refl _
  | n + 1 => by
    rw [cntP]
    have := cntP_le p n
    split <;> omega
end Go.Proofs.YtpklkijdlnioaaaGreat.Eng
