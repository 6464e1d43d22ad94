/- What these functions owe, printed by a program of this repo out of the translation. -/
import Derived.Test.YtpklkijdlnioaaaGreatTab
set_option linter.unusedVariables false
set_option maxRecDepth 100000
namespace Go.Proofs.YtpklkijdlnioaaaGreat.Eng
open Go

/-! ### ligature/ligaturelaw18.CanonNone: function 7 -/
def vc7 (idsA : Option Addr) (idsN : Nat) (idsC : Nat) (w : World) (R : Value → World → Prop) : Prop :=
  CondP (decide ((((idsN : Nat) : Int) : Int) > 100))
    (Calls Tryz.prog 16 #[] w (fun e1 w1 =>
     ∃ b : Bool, e1 = .returned (Value.bool b) ∧
     R (Value.bool b) w1))
    (Calls Tryz.prog 18 #[Value.pointer none, Value.slice idsA idsN idsC] w (fun e2 w2 =>
     ∃ r0 : Int, ∃ r1 : Int, e2 = .returned (Value.tuple #[Value.int .i64 r0, Value.int .i64 r1]) ∧
     Calls Tryz.prog 22 #[Value.pointer none, Value.slice idsA idsN idsC] w2 (fun e3 w3 =>
     ∃ r0_1 : Int, ∃ r1_2 : Int, e3 = .returned (Value.tuple #[Value.int .i64 r0_1, Value.int .i64 r1_2]) ∧
     Calls Tryz.prog 24 #[Value.pointer none] w3 (fun e4 w4 =>
     ∃ p : Option Addr, e4 = .returned (Value.pointer p) ∧
     Calls Tryz.prog 25 #[Value.pointer p, Value.slice idsA idsN idsC] w4 (fun e5 w5 =>
     ∃ r0_3 : Int, ∃ r1_4 : Int, e5 = .returned (Value.tuple #[Value.int .i64 r0_3, Value.int .i64 r1_4]) ∧
     Calls Tryz.prog 28 #[Value.pointer p] w5 (fun e6 w6 =>
     e6 = .returned (Value.tuple #[]) ∧
     CondP ((r0 : Int) == 0)
       (CondP ((r1 : Int) == 1)
          (CondP ((r0_1 : Int) == 0)
             (CondP ((r1_2 : Int) == 1)
                (CondP (Option.isNone p)
                   (CondP ((r0_3 : Int) == 0)
                      (CondP ((r1_4 : Int) == 1)
                         (Calls Tryz.prog 27 #[Value.pointer p] w6 (fun e7 w7 =>
                          ∃ n : Int, e7 = .returned (Value.int .i64 n) ∧
                          CondP ((n : Int) == (-1))
                            (Calls Tryz.prog 26 #[Value.pointer p] w7 (fun e8 w8 =>
                             ∃ n_5 : Int, e8 = .returned (Value.int .i64 n_5) ∧
                             CondP ((n_5 : Int) == 0)
                               (Calls Tryz.prog 16 #[] w8 (fun e9 w9 =>
                                ∃ b_6 : Bool, e9 = .returned (Value.bool b_6) ∧
                                R (Value.bool b_6) w9))
                               (R (Value.bool false) w8)))
                            (R (Value.bool false) w7)))
                         (R (Value.bool false) w6))
                      (R (Value.bool false) w6))
                   (R (Value.bool false) w6))
                (R (Value.bool false) w6))
             (R (Value.bool false) w6))
          (R (Value.bool false) w6))
       (R (Value.bool false) w6)))))))
theorem vc7_eq (idsA : Option Addr) (idsN : Nat) (idsC : Nat) (w : World) (R : Value → World → Prop) : vc7 idsA idsN idsC w R = denFun ctx (bodyOf Tryz.f7) Tryz.f7.results.toList [Value.slice idsA idsN idsC] w R := by kernel_rfl
theorem vc7_calls (idsA : Option Addr) (idsN : Nat) (idsC : Nat) (w : World) (R : Value → World → Prop) (h : vc7 idsA idsN idsC w R) : Calls Tryz.prog 7 #[Value.slice idsA idsN idsC] w fun e w' => ∃ v, e = .returned v ∧ R v w' :=
  calls_of_den ctxOk (f := 7) (fn := Tryz.f7) (body := bodyOf Tryz.f7) (args := [Value.slice idsA idsN idsC]) (by kernel_rfl) (by kernel_rfl) (by kernel_rfl) (by kernel_rfl) (Eq.mp (vc7_eq idsA idsN idsC w R) h)

/-! ### ligature/ligaturelaw18.awake: function 16 -/
def vc16 (w : World) (R : Value → World → Prop) : Prop :=
  ∀ w1 : World, w1 = w.alloc (.cells #[Value.int .i64 97, Value.int .i64 98] 81) →
  Calls Tryz.prog 53 #[Value.agg #[Value.bool false, Value.slice (some (nb w)) 1 1, Value.slice none 0 0, Value.slice none 0 0, Value.slice none 0 0, Value.slice none 0 0]] w1 (fun e2 w2 =>
  ∃ r0 : Option Addr, ∃ r1 : Int, ∃ r2 : Int, e2 = .returned (Value.tuple #[Value.pointer r0, Value.int .i64 r1, Value.int .i64 r2]) ∧
  ∀ w3 : World, w3 = w2.alloc (.cells #[Value.int .i64 97, Value.int .i64 98] 3) →
  Calls Tryz.prog 18 #[Value.pointer r0, Value.slice (some (nb w2)) 2 2] w3 (fun e4 w4 =>
  ∃ r0_1 : Int, ∃ r1_2 : Int, e4 = .returned (Value.tuple #[Value.int .i64 r0_1, Value.int .i64 r1_2]) ∧
  ∀ w5 : World, w5 = w4.alloc (.cells #[Value.int .i64 256, Value.int .i64 98, Value.int .i64 97] 3) →
  Calls Tryz.prog 18 #[Value.pointer r0, Value.slice (some (nb w4)) 3 3] w5 (fun e6 w6 =>
  ∃ r0_3 : Int, ∃ r1_4 : Int, e6 = .returned (Value.tuple #[Value.int .i64 r0_3, Value.int .i64 r1_4]) ∧
  CondP ((r0_1 : Int) == 1)
    (CondP ((r1_2 : Int) == 0)
       (CondP ((r0_3 : Int) == (-1))
          (R (Value.bool ((r1_4 : Int) == 0)) w6)
          (R (Value.bool false) w6))
       (R (Value.bool false) w6))
    (R (Value.bool false) w6))))
theorem vc16_eq (w : World) (R : Value → World → Prop) : vc16 w R = denFun ctx (bodyOf Tryz.f16) Tryz.f16.results.toList [] w R := by kernel_rfl
theorem vc16_calls (w : World) (R : Value → World → Prop) (h : vc16 w R) : Calls Tryz.prog 16 #[] w fun e w' => ∃ v, e = .returned v ∧ R v w' :=
  calls_of_den ctxOk (f := 16) (fn := Tryz.f16) (body := bodyOf Tryz.f16) (args := []) (by kernel_rfl) (by kernel_rfl) (by kernel_rfl) (by kernel_rfl) (Eq.mp (vc16_eq w R) h)

/-! ### ligature/canon.Check: function 18 -/
def vc18 (v_ : Option Addr) (idsA : Option Addr) (idsN : Nat) (idsC : Nat) (w : World) (R : Value → World → Prop) : Prop :=
  Calls Tryz.prog 56 #[Value.pointer v_, Value.iface 88 (Value.agg #[Value.pointer v_]), Value.slice idsA idsN idsC] w (fun e1 w1 =>
  ∃ r0 : Int, ∃ r1 : Int, e1 = .returned (Value.tuple #[Value.int .i64 r0, Value.int .i64 r1]) ∧
  R (Value.tuple #[Value.int .i64 r0, Value.int .i64 r1]) w1)
theorem vc18_eq (v_ : Option Addr) (idsA : Option Addr) (idsN : Nat) (idsC : Nat) (w : World) (R : Value → World → Prop) : vc18 v_ idsA idsN idsC w R = denFun ctx (bodyOf Tryz.f18) Tryz.f18.results.toList [Value.pointer v_, Value.slice idsA idsN idsC] w R := by kernel_rfl
theorem vc18_calls (v_ : Option Addr) (idsA : Option Addr) (idsN : Nat) (idsC : Nat) (w : World) (R : Value → World → Prop) (h : vc18 v_ idsA idsN idsC w R) : Calls Tryz.prog 18 #[Value.pointer v_, Value.slice idsA idsN idsC] w fun e w' => ∃ v, e = .returned v ∧ R v w' :=
  calls_of_den ctxOk (f := 18) (fn := Tryz.f18) (body := bodyOf Tryz.f18) (args := [Value.pointer v_, Value.slice idsA idsN idsC]) (by kernel_rfl) (by kernel_rfl) (by kernel_rfl) (by kernel_rfl) (Eq.mp (vc18_eq v_ idsA idsN idsC w R) h)

/-! ### ligature/canon.Again: function 22 -/
def vc22 (v_ : Option Addr) (idsA : Option Addr) (idsN : Nat) (idsC : Nat) (w : World) (R : Value → World → Prop) : Prop :=
  Calls Tryz.prog 56 #[Value.pointer v_, Value.iface 94 (Value.agg #[Value.pointer v_]), Value.slice idsA idsN idsC] w (fun e1 w1 =>
  ∃ r0 : Int, ∃ r1 : Int, e1 = .returned (Value.tuple #[Value.int .i64 r0, Value.int .i64 r1]) ∧
  R (Value.tuple #[Value.int .i64 r0, Value.int .i64 r1]) w1)
theorem vc22_eq (v_ : Option Addr) (idsA : Option Addr) (idsN : Nat) (idsC : Nat) (w : World) (R : Value → World → Prop) : vc22 v_ idsA idsN idsC w R = denFun ctx (bodyOf Tryz.f22) Tryz.f22.results.toList [Value.pointer v_, Value.slice idsA idsN idsC] w R := by kernel_rfl
theorem vc22_calls (v_ : Option Addr) (idsA : Option Addr) (idsN : Nat) (idsC : Nat) (w : World) (R : Value → World → Prop) (h : vc22 v_ idsA idsN idsC w R) : Calls Tryz.prog 22 #[Value.pointer v_, Value.slice idsA idsN idsC] w fun e w' => ∃ v, e = .returned v ∧ R v w' :=
  calls_of_den ctxOk (f := 22) (fn := Tryz.f22) (body := bodyOf Tryz.f22) (args := [Value.pointer v_, Value.slice idsA idsN idsC]) (by kernel_rfl) (by kernel_rfl) (by kernel_rfl) (by kernel_rfl) (Eq.mp (vc22_eq v_ idsA idsN idsC w R) h)

/-! ### ligature/canon.New: function 24 -/
def vc24 (v_ : Option Addr) (w : World) (R : Value → World → Prop) : Prop :=
  CondP (Option.isNone v_)
    (R (Value.pointer none) w)
    (∀ w1 : World, w1 = w.alloc (.cells #[Value.pointer v_, Value.slice none 0 0, Value.int .i64 0, Value.int .i64 (-1)] 96) →
     R (Value.pointer (some (nb w))) w1)
theorem vc24_eq (v_ : Option Addr) (w : World) (R : Value → World → Prop) : vc24 v_ w R = denFun ctx (bodyOf Tryz.f24) Tryz.f24.results.toList [Value.pointer v_] w R := by kernel_rfl
theorem vc24_calls (v_ : Option Addr) (w : World) (R : Value → World → Prop) (h : vc24 v_ w R) : Calls Tryz.prog 24 #[Value.pointer v_] w fun e w' => ∃ v, e = .returned v ∧ R v w' :=
  calls_of_den ctxOk (f := 24) (fn := Tryz.f24) (body := bodyOf Tryz.f24) (args := [Value.pointer v_]) (by kernel_rfl) (by kernel_rfl) (by kernel_rfl) (by kernel_rfl) (Eq.mp (vc24_eq v_ w R) h)

/-! ### (*ligature/canon.Detector).Feed: function 25 -/
def vc25 (d : Option Addr) (idsA : Option Addr) (idsN : Nat) (idsC : Nat) (w : World) (R : Value → World → Prop) : Prop :=
  ∀ w1 : World, w1 = w.alloc (.cells #[Value.pointer d] 52) →
  ∃ p : Option Addr, w1.cell? (nb w) = some (Value.pointer p) ∧
  CondP (Option.isNone p)
    (R (Value.tuple #[Value.int .i64 0, Value.int .i64 1]) w1)
    (∃ p_1 : Option Addr, w1.cell? (nb w) = some (Value.pointer p_1) ∧
     NilC p_1 (fun pa =>
     ∃ n : Int, w1.cell? (pa.add 2) = some (Value.int .i64 n) ∧
     Ar .i64 ((1099511627776 : Int) - n) (fun n_2 =>
     CondP (decide ((((idsN : Nat) : Int) : Int) > n_2))
       (R (Value.tuple #[Value.int .i64 0, Value.int .i64 3]) w1)
       (Calls Tryz.prog 60 #[Value.slice idsA idsN idsC, Value.func (.func 61) #[] #[Value.pointer (some (nb w))]] w1 (fun e2 w2 =>
        ∃ n_3 : Int, e2 = .returned (Value.int .i64 n_3) ∧
        CondP (decide ((n_3 : Int) ≥ 0))
          (R (Value.tuple #[Value.int .i64 n_3, Value.int .i64 4]) w2)
          (∀ J4 : List Value → World → Prop, (∀ w3 : World, (∃ p_5 : Option Addr, w3.cell? (nb w) = some (Value.pointer p_5) ∧
             NilC p_5 (fun pa_6 =>
             ∃ n_7 : Int, w3.cell? (pa_6.add 2) = some (Value.int .i64 n_7) ∧
             Ar .i64 ((n_7 : Int) + ((idsN : Nat) : Int)) (fun n_8 =>
             NilC p_5 (fun pa_9 =>
             (Value.int .i64 n_8).oneCell' = true ∧ (∃ u, w3.cell? (pa_9.add 2) = some u) ∧ w3.frozen? (pa_9.add 2) = false ∧
             ∀ w4 : World, w4 = (w3.setCell (pa_9.add 2) (Value.int .i64 n_8)) →
             ∀ J10 : List Value → World → Prop, (∀ w5 : World, (∃ p_11 : Option Addr, w5.cell? (nb w) = some (Value.pointer p_11) ∧
               NilC p_11 (fun pa_12 =>
               ∃ n_13 : Int, w5.cell? (pa_12.add 3) = some (Value.int .i64 n_13) ∧
               R (Value.tuple #[Value.int .i64 n_13, Value.int .i64 0]) w5)) → J10 [] w5) →
             CondP (decide ((((idsN : Nat) : Int) : Int) > 0))
               (∀ w6 : World, w6 = w4.drew →
                ∃ p_14 : Option Addr, w6.cell? (nb w) = some (Value.pointer p_14) ∧
                Ar .i64 ((((idsN : Nat) : Int) : Int) - 1) (fun n_15 =>
                (0 : Int) ≤ (n_15 : Int) ∧ (n_15 : Int) ≤ ((idsN : Nat) : Int) ∧ True ∧ True ∧ True ∧
                Calls Tryz.prog 64 #[Value.slice (slBase idsA (n_15 : Int).toNat ((idsC : Nat) : Int).toNat 1) (((idsN : Nat) : Int).toNat - (n_15 : Int).toNat) (((idsC : Nat) : Int).toNat - (n_15 : Int).toNat)] w6 (fun e7 w7 =>
                ∃ lA : Option Addr, ∃ lN : Nat, ∃ lC : Nat, e7 = .returned (Value.slice lA lN lC) ∧
                (w7.cell? (nb w) = some (Value.pointer p_14) ∧ True) ∧
                NilC p_14 (fun pa_16 =>
                (Value.slice lA lN lC).oneCell' = true ∧ (∃ u, w7.cell? (pa_16.add 1) = some u) ∧ w7.frozen? (pa_16.add 1) = false ∧
                ∀ w8 : World, w8 = (w7.setCell (pa_16.add 1) (Value.slice lA lN lC)) →
                J10 [] w8))))
               (J10 [] w4))))) → J4 [] w3) →
           ∃ p_17 : Option Addr, w2.cell? (nb w) = some (Value.pointer p_17) ∧
           NilC p_17 (fun pa_18 =>
           ∃ n_19 : Int, w2.cell? (pa_18.add 3) = some (Value.int .i64 n_19) ∧
           CondP ((n_19 : Int) == (-1))
             (∃ p_20 : Option Addr, w2.cell? (nb w) = some (Value.pointer p_20) ∧
              Calls Tryz.prog 63 #[Value.pointer p_20, Value.slice idsA idsN idsC] w2 (fun e9 w9 =>
              e9 = .returned (Value.tuple #[]) ∧
              J4 [] w9))
             (J4 [] w2))))))))
theorem vc25_eq (d : Option Addr) (idsA : Option Addr) (idsN : Nat) (idsC : Nat) (w : World) (R : Value → World → Prop) : vc25 d idsA idsN idsC w R = denFun ctx (bodyOf Tryz.f25) Tryz.f25.results.toList [Value.pointer d, Value.slice idsA idsN idsC] w R := by kernel_rfl
theorem vc25_calls (d : Option Addr) (idsA : Option Addr) (idsN : Nat) (idsC : Nat) (w : World) (R : Value → World → Prop) (h : vc25 d idsA idsN idsC w R) : Calls Tryz.prog 25 #[Value.pointer d, Value.slice idsA idsN idsC] w fun e w' => ∃ v, e = .returned v ∧ R v w' :=
  calls_of_den ctxOk (f := 25) (fn := Tryz.f25) (body := bodyOf Tryz.f25) (args := [Value.pointer d, Value.slice idsA idsN idsC]) (by kernel_rfl) (by kernel_rfl) (by kernel_rfl) (by kernel_rfl) (Eq.mp (vc25_eq d idsA idsN idsC w R) h)

/-! ### (*ligature/canon.Detector).Count: function 26 -/
def vc26 (d : Option Addr) (w : World) (R : Value → World → Prop) : Prop :=
  CondP (Option.isNone d)
    (R (Value.int .i64 0) w)
    (NilC d (fun pa =>
     ∃ n : Int, w.cell? (pa.add 2) = some (Value.int .i64 n) ∧
     R (Value.int .i64 n) w))
theorem vc26_eq (d : Option Addr) (w : World) (R : Value → World → Prop) : vc26 d w R = denFun ctx (bodyOf Tryz.f26) Tryz.f26.results.toList [Value.pointer d] w R := by kernel_rfl
theorem vc26_calls (d : Option Addr) (w : World) (R : Value → World → Prop) (h : vc26 d w R) : Calls Tryz.prog 26 #[Value.pointer d] w fun e w' => ∃ v, e = .returned v ∧ R v w' :=
  calls_of_den ctxOk (f := 26) (fn := Tryz.f26) (body := bodyOf Tryz.f26) (args := [Value.pointer d]) (by kernel_rfl) (by kernel_rfl) (by kernel_rfl) (by kernel_rfl) (Eq.mp (vc26_eq d w R) h)

/-! ### (*ligature/canon.Detector).Offence: function 27 -/
def vc27 (d : Option Addr) (w : World) (R : Value → World → Prop) : Prop :=
  CondP (Option.isNone d)
    (R (Value.int .i64 (-1)) w)
    (NilC d (fun pa =>
     ∃ n : Int, w.cell? (pa.add 3) = some (Value.int .i64 n) ∧
     R (Value.int .i64 n) w))
theorem vc27_eq (d : Option Addr) (w : World) (R : Value → World → Prop) : vc27 d w R = denFun ctx (bodyOf Tryz.f27) Tryz.f27.results.toList [Value.pointer d] w R := by kernel_rfl
theorem vc27_calls (d : Option Addr) (w : World) (R : Value → World → Prop) (h : vc27 d w R) : Calls Tryz.prog 27 #[Value.pointer d] w fun e w' => ∃ v, e = .returned v ∧ R v w' :=
  calls_of_den ctxOk (f := 27) (fn := Tryz.f27) (body := bodyOf Tryz.f27) (args := [Value.pointer d]) (by kernel_rfl) (by kernel_rfl) (by kernel_rfl) (by kernel_rfl) (Eq.mp (vc27_eq d w R) h)

/-! ### (*ligature/canon.Detector).Reset: function 28 -/
def vc28 (d : Option Addr) (w : World) (R : Value → World → Prop) : Prop :=
  CondP (!(Option.isNone d))
    (NilC d (fun pa =>
     (Value.slice none 0 0).oneCell' = true ∧ (∃ u, w.cell? (pa.add 1) = some u) ∧ w.frozen? (pa.add 1) = false ∧
     ∀ w1 : World, w1 = (w.setCell (pa.add 1) (Value.slice none 0 0)) →
     NilC d (fun pa_1 =>
     (Value.int .i64 0).oneCell' = true ∧ (∃ u, w1.cell? (pa_1.add 2) = some u) ∧ w1.frozen? (pa_1.add 2) = false ∧
     ∀ w2 : World, w2 = (w1.setCell (pa_1.add 2) (Value.int .i64 0)) →
     NilC d (fun pa_2 =>
     (Value.int .i64 (-1)).oneCell' = true ∧ (∃ u, w2.cell? (pa_2.add 3) = some u) ∧ w2.frozen? (pa_2.add 3) = false ∧
     ∀ w3 : World, w3 = (w2.setCell (pa_2.add 3) (Value.int .i64 (-1))) →
     R (Value.tuple #[]) w3))))
    (R (Value.tuple #[]) w)
theorem vc28_eq (d : Option Addr) (w : World) (R : Value → World → Prop) : vc28 d w R = denFun ctx (bodyOf Tryz.f28) Tryz.f28.results.toList [Value.pointer d] w R := by kernel_rfl
theorem vc28_calls (d : Option Addr) (w : World) (R : Value → World → Prop) (h : vc28 d w R) : Calls Tryz.prog 28 #[Value.pointer d] w fun e w' => ∃ v, e = .returned v ∧ R v w' :=
  calls_of_den ctxOk (f := 28) (fn := Tryz.f28) (body := bodyOf Tryz.f28) (args := [Value.pointer d]) (by kernel_rfl) (by kernel_rfl) (by kernel_rfl) (by kernel_rfl) (Eq.mp (vc28_eq d w R) h)

/-! ### ligature/vocab.New: function 53 -/
def vc53 (s0 : Bool) (s1A : Option Addr) (s1N : Nat) (s1C : Nat) (s2A : Option Addr) (s2N : Nat) (s2C : Nat) (s3A : Option Addr) (s3N : Nat) (s3C : Nat) (s4A : Option Addr) (s4N : Nat) (s4C : Nat) (s5A : Option Addr) (s5N : Nat) (s5C : Nat) (w : World) (R : Value → World → Prop) : Prop :=
  ∀ w1 : World, w1 = w.alloc (.cells #[Value.bool s0, Value.slice s1A s1N s1C, Value.slice s2A s2N s2C, Value.slice s3A s3N s3C, Value.slice s4A s4N s4C, Value.slice s5A s5N s5C] 83) →
  ∃ g0 : Bool, ∃ g1A : Option Addr, ∃ g1N : Nat, ∃ g1C : Nat, ∃ g2A : Option Addr, ∃ g2N : Nat, ∃ g2C : Nat, ∃ g3A : Option Addr, ∃ g3N : Nat, ∃ g3C : Nat, ∃ g4A : Option Addr, ∃ g4N : Nat, ∃ g4C : Nat, ∃ g5A : Option Addr, ∃ g5N : Nat, ∃ g5C : Nat, (w1.cell? (nb w) = some (Value.bool g0) ∧ w1.cell? ((nb w).add 1) = some (Value.slice g1A g1N g1C) ∧ w1.cell? ((nb w).add 2) = some (Value.slice g2A g2N g2C) ∧ w1.cell? ((nb w).add 3) = some (Value.slice g3A g3N g3C) ∧ w1.cell? ((nb w).add 4) = some (Value.slice g4A g4N g4C) ∧ w1.cell? ((nb w).add 5) = some (Value.slice g5A g5N g5C) ∧ True) ∧
  Calls Tryz.prog 82 #[Value.agg #[Value.bool g0, Value.slice g1A g1N g1C, Value.slice g2A g2N g2C, Value.slice g3A g3N g3C, Value.slice g4A g4N g4C, Value.slice g5A g5N g5C]] w1 (fun e2 w2 =>
  ∃ b : Bool, e2 = .returned (Value.bool b) ∧
  CondP (!b)
    (R (Value.tuple #[Value.pointer none, Value.int .i64 0, Value.int .i64 1]) w2)
    (∃ g0_1 : Bool, ∃ g1A_2 : Option Addr, ∃ g1N_3 : Nat, ∃ g1C_4 : Nat, ∃ g2A_5 : Option Addr, ∃ g2N_6 : Nat, ∃ g2C_7 : Nat, ∃ g3A_8 : Option Addr, ∃ g3N_9 : Nat, ∃ g3C_10 : Nat, ∃ g4A_11 : Option Addr, ∃ g4N_12 : Nat, ∃ g4C_13 : Nat, ∃ g5A_14 : Option Addr, ∃ g5N_15 : Nat, ∃ g5C_16 : Nat, (w2.cell? (nb w) = some (Value.bool g0_1) ∧ w2.cell? ((nb w).add 1) = some (Value.slice g1A_2 g1N_3 g1C_4) ∧ w2.cell? ((nb w).add 2) = some (Value.slice g2A_5 g2N_6 g2C_7) ∧ w2.cell? ((nb w).add 3) = some (Value.slice g3A_8 g3N_9 g3C_10) ∧ w2.cell? ((nb w).add 4) = some (Value.slice g4A_11 g4N_12 g4C_13) ∧ w2.cell? ((nb w).add 5) = some (Value.slice g5A_14 g5N_15 g5C_16) ∧ True) ∧
     Calls Tryz.prog 83 #[Value.agg #[Value.bool g0_1, Value.slice g1A_2 g1N_3 g1C_4, Value.slice g2A_5 g2N_6 g2C_7, Value.slice g3A_8 g3N_9 g3C_10, Value.slice g4A_11 g4N_12 g4C_13, Value.slice g5A_14 g5N_15 g5C_16]] w2 (fun e3 w3 =>
     ∃ r0 : Option Addr, ∃ r1 : Int, ∃ r2 : Int, ∃ r3 : Int, e3 = .returned (Value.tuple #[Value.pointer r0, Value.int .i64 r1, Value.int .i64 r2, Value.int .i64 r3]) ∧
     R (Value.tuple #[Value.pointer r0, Value.int .i64 r2, Value.int .i64 r3]) w3)))
theorem vc53_eq (s0 : Bool) (s1A : Option Addr) (s1N : Nat) (s1C : Nat) (s2A : Option Addr) (s2N : Nat) (s2C : Nat) (s3A : Option Addr) (s3N : Nat) (s3C : Nat) (s4A : Option Addr) (s4N : Nat) (s4C : Nat) (s5A : Option Addr) (s5N : Nat) (s5C : Nat) (w : World) (R : Value → World → Prop) : vc53 s0 s1A s1N s1C s2A s2N s2C s3A s3N s3C s4A s4N s4C s5A s5N s5C w R = denFun ctx (bodyOf Tryz.f53) Tryz.f53.results.toList [Value.agg #[Value.bool s0, Value.slice s1A s1N s1C, Value.slice s2A s2N s2C, Value.slice s3A s3N s3C, Value.slice s4A s4N s4C, Value.slice s5A s5N s5C]] w R := by kernel_rfl
theorem vc53_calls (s0 : Bool) (s1A : Option Addr) (s1N : Nat) (s1C : Nat) (s2A : Option Addr) (s2N : Nat) (s2C : Nat) (s3A : Option Addr) (s3N : Nat) (s3C : Nat) (s4A : Option Addr) (s4N : Nat) (s4C : Nat) (s5A : Option Addr) (s5N : Nat) (s5C : Nat) (w : World) (R : Value → World → Prop) (h : vc53 s0 s1A s1N s1C s2A s2N s2C s3A s3N s3C s4A s4N s4C s5A s5N s5C w R) : Calls Tryz.prog 53 #[Value.agg #[Value.bool s0, Value.slice s1A s1N s1C, Value.slice s2A s2N s2C, Value.slice s3A s3N s3C, Value.slice s4A s4N s4C, Value.slice s5A s5N s5C]] w fun e w' => ∃ v, e = .returned v ∧ R v w' :=
  calls_of_den ctxOk (f := 53) (fn := Tryz.f53) (body := bodyOf Tryz.f53) (args := [Value.agg #[Value.bool s0, Value.slice s1A s1N s1C, Value.slice s2A s2N s2C, Value.slice s3A s3N s3C, Value.slice s4A s4N s4C, Value.slice s5A s5N s5C]]) (by kernel_rfl) (by kernel_rfl) (by kernel_rfl) (by kernel_rfl) (Eq.mp (vc53_eq s0 s1A s1N s1C s2A s2N s2C s3A s3N s3C s4A s4N s4C s5A s5N s5C w R) h)

/-! ### ligature/canon.By: function 56 -/
def vc56 (v_ : Option Addr) (j : Value) (idsA : Option Addr) (idsN : Nat) (idsC : Nat) (w : World) (R : Value → World → Prop) : Prop :=
  Calls Tryz.prog 88 #[Value.pointer v_, Value.slice idsA idsN idsC] w (fun e1 w1 =>
  ∃ r0 : Int, ∃ r1 : Int, e1 = .returned (Value.tuple #[Value.int .i64 r0, Value.int .i64 r1]) ∧
  CondP ((r1 : Int) != 0)
    (R (Value.tuple #[Value.int .i64 r0, Value.int .i64 r1]) w1)
    (∃ b : Bool, ∃ w2 : World, (do eqGuard .eql 132 (.tmp 20) (.const (Value.nilIface)) j Value.nilIface; binOp .eql 132 j Value.nilIface).run Tryz.prog w1 = .ok (Value.bool b) w2 ∧
     CondP b
       (R (Value.tuple #[Value.int .i64 0, Value.int .i64 1]) w2)
       (∃ g as_, (callMethod j "First" #[Value.slice idsA idsN idsC]).run Tryz.prog w2 = .ok (.enter g as_) w2 ∧ Calls Tryz.prog g as_ w2 (fun e3 w3 =>
        ∃ r0_1 : Int, ∃ r1_2 : Bool, e3 = .returned (Value.tuple #[Value.int .i64 r0_1, Value.bool r1_2]) ∧
        Calls Tryz.prog 89 #[Value.int .i64 r0_1, Value.bool r1_2] w3 (fun e4 w4 =>
        ∃ n : Int, e4 = .returned (Value.int .i64 n) ∧
        R (Value.tuple #[Value.int .i64 n, Value.int .i64 0]) w4)))))
theorem vc56_eq (v_ : Option Addr) (j : Value) (idsA : Option Addr) (idsN : Nat) (idsC : Nat) (w : World) (R : Value → World → Prop) : vc56 v_ j idsA idsN idsC w R = denFun ctx (bodyOf Tryz.f56) Tryz.f56.results.toList [Value.pointer v_, j, Value.slice idsA idsN idsC] w R := by kernel_rfl
theorem vc56_calls (v_ : Option Addr) (j : Value) (idsA : Option Addr) (idsN : Nat) (idsC : Nat) (w : World) (R : Value → World → Prop) (h : vc56 v_ j idsA idsN idsC w R) : Calls Tryz.prog 56 #[Value.pointer v_, j, Value.slice idsA idsN idsC] w fun e w' => ∃ v, e = .returned v ∧ R v w' :=
  calls_of_den ctxOk (f := 56) (fn := Tryz.f56) (body := bodyOf Tryz.f56) (args := [Value.pointer v_, j, Value.slice idsA idsN idsC]) (by kernel_rfl) (by kernel_rfl) (by kernel_rfl) (by kernel_rfl) (Eq.mp (vc56_eq v_ j idsA idsN idsC w R) h)

/-! ### slices.IndexFunc[[]int,int]: function 60 -/
def vc60 (sA : Option Addr) (sN : Nat) (sC : Nat) (f : Value) (w : World) (R : Value → World → Prop) : Prop :=
  ∀ I1 : List Value → World → Prop, (∀ y8 : Int, ∀ y4 : Int, ∀ w1 : World, (CondP (decide ((y8 : Int) < ((sN : Nat) : Int)))
      (NilC sA (fun pa =>
       (0 : Int) ≤ y8 ∧ y8 < ((sN : Nat) : Int) ∧
       ∃ n : Int, w1.cell? (pa.add ((y8 : Int).toNat * 1)) = some (Value.int .i64 n) ∧
       CallG ctx f [Value.int .i64 n] w1 (fun e2 w2 =>
       ∃ b : Bool, e2 = .returned (Value.bool b) ∧
       CondP b
         (R (Value.int .i64 y8) w2)
         (Ar .i64 ((y8 : Int) + 1) (fun n_2 =>
          I1 [Value.int .i64 n_2, Value.int .i64 y4] w2)))))
      (R (Value.int .i64 (-1)) w1)) → I1 [Value.int .i64 y8, Value.int .i64 y4] w1) →
  I1 [Value.int .i64 0, Value.int .i64 0] w
theorem vc60_eq (sA : Option Addr) (sN : Nat) (sC : Nat) (f : Value) (w : World) (R : Value → World → Prop) : vc60 sA sN sC f w R = denFun ctx (bodyOf Tryz.f60) Tryz.f60.results.toList [Value.slice sA sN sC, f] w R := by kernel_rfl
theorem vc60_calls (sA : Option Addr) (sN : Nat) (sC : Nat) (f : Value) (w : World) (R : Value → World → Prop) (h : vc60 sA sN sC f w R) : Calls Tryz.prog 60 #[Value.slice sA sN sC, f] w fun e w' => ∃ v, e = .returned v ∧ R v w' :=
  calls_of_den ctxOk (f := 60) (fn := Tryz.f60) (body := bodyOf Tryz.f60) (args := [Value.slice sA sN sC, f]) (by kernel_rfl) (by kernel_rfl) (by kernel_rfl) (by kernel_rfl) (Eq.mp (vc60_eq sA sN sC f w R) h)

/-! ### (*ligature/vocab.Vocab).Has: function 62 -/
def vc62 (v_ : Option Addr) (id : Int) (w : World) (R : Value → World → Prop) : Prop :=
  Calls Tryz.prog 92 #[Value.pointer v_] w (fun e1 w1 =>
  ∃ p : Option Addr, e1 = .returned (Value.pointer p) ∧
  Calls Tryz.prog 93 #[Value.pointer p, Value.int .i64 id] w1 (fun e2 w2 =>
  ∃ r0 : Int, ∃ r1 : Bool, e2 = .returned (Value.tuple #[Value.int .i64 r0, Value.bool r1]) ∧
  CondP r1
    (R (Value.bool true) w2)
    (CondP (decide ((id : Int) ≥ 0))
       (Calls Tryz.prog 94 #[Value.pointer v_] w2 (fun e3 w3 =>
        ∃ n : Int, e3 = .returned (Value.int .i64 n) ∧
        R (Value.bool (decide ((id : Int) < n))) w3))
       (R (Value.bool false) w2))))
theorem vc62_eq (v_ : Option Addr) (id : Int) (w : World) (R : Value → World → Prop) : vc62 v_ id w R = denFun ctx (bodyOf Tryz.f62) Tryz.f62.results.toList [Value.pointer v_, Value.int .i64 id] w R := by kernel_rfl
theorem vc62_calls (v_ : Option Addr) (id : Int) (w : World) (R : Value → World → Prop) (h : vc62 v_ id w R) : Calls Tryz.prog 62 #[Value.pointer v_, Value.int .i64 id] w fun e w' => ∃ v, e = .returned v ∧ R v w' :=
  calls_of_den ctxOk (f := 62) (fn := Tryz.f62) (body := bodyOf Tryz.f62) (args := [Value.pointer v_, Value.int .i64 id]) (by kernel_rfl) (by kernel_rfl) (by kernel_rfl) (by kernel_rfl) (Eq.mp (vc62_eq v_ id w R) h)

/-! ### slices.Clone[[]int,int]: function 64 -/
def vc64 (sA : Option Addr) (sN : Nat) (sC : Nat) (w : World) (R : Value → World → Prop) : Prop :=
  CondP (Option.isNone sA)
    (R (Value.slice none 0 0) w)
    (∀ w1 : World, w1 = w.alloc (.cells #[] 3) →
     ∃ lA : Option Addr, ∃ lN : Nat, ∃ lC : Nat, ∃ w2 : World, (Builtin.append_ #[28, 28] 28 #[Value.slice (some (nb w)) 0 0, Value.slice sA sN sC]).run Tryz.prog w1 = .ok (Value.slice lA lN lC) w2 ∧
     R (Value.slice lA lN lC) w2)
theorem vc64_eq (sA : Option Addr) (sN : Nat) (sC : Nat) (w : World) (R : Value → World → Prop) : vc64 sA sN sC w R = denFun ctx (bodyOf Tryz.f64) Tryz.f64.results.toList [Value.slice sA sN sC] w R := by kernel_rfl
theorem vc64_calls (sA : Option Addr) (sN : Nat) (sC : Nat) (w : World) (R : Value → World → Prop) (h : vc64 sA sN sC w R) : Calls Tryz.prog 64 #[Value.slice sA sN sC] w fun e w' => ∃ v, e = .returned v ∧ R v w' :=
  calls_of_den ctxOk (f := 64) (fn := Tryz.f64) (body := bodyOf Tryz.f64) (args := [Value.slice sA sN sC]) (by kernel_rfl) (by kernel_rfl) (by kernel_rfl) (by kernel_rfl) (Eq.mp (vc64_eq sA sN sC w R) h)

/-! ### (*ligature/vocab.Vocab).Alone: function 68 -/
def vc68 (v_ : Option Addr) (id : Int) (w : World) (R : Value → World → Prop) : Prop :=
  CondP (Option.isNone v_)
    (R (Value.bool false) w)
    (NilC v_ (fun pa =>
     Calls Tryz.prog 99 #[Value.pointer (some (pa.add 13)), Value.int .i64 1] w (fun e1 w1 =>
     ∃ n : Int, e1 = .returned (Value.int .i64 n) ∧
     NilC v_ (fun pa_1 =>
     ∃ p : Option Addr, w1.cell? ((pa_1.add 0).add 8) = some (Value.pointer p) ∧
     Calls Tryz.prog 93 #[Value.pointer p, Value.int .i64 id] w1 (fun e2 w2 =>
     ∃ r0 : Int, ∃ r1 : Bool, e2 = .returned (Value.tuple #[Value.int .i64 r0, Value.bool r1]) ∧
     CondP r1
       (R (Value.bool true) w2)
       (NilC v_ (fun pa_2 =>
        Calls Tryz.prog 100 #[Value.pointer (some ((pa_2.add 9).add 0)), Value.func (.func 101) #[Value.pointer v_] #[]] w2 (fun e3 w3 =>
        e3 = .returned (Value.tuple #[]) ∧
        CondP (decide ((id : Int) ≥ 0))
          (NilC v_ (fun pa_3 =>
           ∃ lA : Option Addr, ∃ lN : Nat, ∃ lC : Nat, w3.cell? ((pa_3.add 9).add 3) = some (Value.slice lA lN lC) ∧
           CondP (decide ((id : Int) < ((lN : Nat) : Int)))
             (NilC v_ (fun pa_4 =>
              ∃ lA_5 : Option Addr, ∃ lN_6 : Nat, ∃ lC_7 : Nat, w3.cell? ((pa_4.add 9).add 3) = some (Value.slice lA_5 lN_6 lC_7) ∧
              NilC lA_5 (fun pa_8 =>
              (0 : Int) ≤ id ∧ id < ((lN_6 : Nat) : Int) ∧
              ∃ b : Bool, w3.cell? (pa_8.add ((id : Int).toNat * 1)) = some (Value.bool b) ∧
              R (Value.bool b) w3)))
             (R (Value.bool false) w3)))
          (R (Value.bool false) w3)))))))))
theorem vc68_eq (v_ : Option Addr) (id : Int) (w : World) (R : Value → World → Prop) : vc68 v_ id w R = denFun ctx (bodyOf Tryz.f68) Tryz.f68.results.toList [Value.pointer v_, Value.int .i64 id] w R := by kernel_rfl
theorem vc68_calls (v_ : Option Addr) (id : Int) (w : World) (R : Value → World → Prop) (h : vc68 v_ id w R) : Calls Tryz.prog 68 #[Value.pointer v_, Value.int .i64 id] w fun e w' => ∃ v, e = .returned v ∧ R v w' :=
  calls_of_den ctxOk (f := 68) (fn := Tryz.f68) (body := bodyOf Tryz.f68) (args := [Value.pointer v_, Value.int .i64 id]) (by kernel_rfl) (by kernel_rfl) (by kernel_rfl) (by kernel_rfl) (Eq.mp (vc68_eq v_ id w R) h)

/-! ### ligature/spec.Right: function 82 -/
def vc82 (s0 : Bool) (s1A : Option Addr) (s1N : Nat) (s1C : Nat) (s2A : Option Addr) (s2N : Nat) (s2C : Nat) (s3A : Option Addr) (s3N : Nat) (s3C : Nat) (s4A : Option Addr) (s4N : Nat) (s4C : Nat) (s5A : Option Addr) (s5N : Nat) (s5C : Nat) (w : World) (R : Value → World → Prop) : Prop :=
  ∀ w1 : World, w1 = w.alloc (.cells #[Value.bool s0, Value.slice s1A s1N s1C, Value.slice s2A s2N s2C, Value.slice s3A s3N s3C, Value.slice s4A s4N s4C, Value.slice s5A s5N s5C] 83) →
  ∃ b : Bool, w1.cell? ((nb w).add 0) = some (Value.bool b) ∧
  CondP b
    (∃ lA : Option Addr, ∃ lN : Nat, ∃ lC : Nat, w1.cell? ((nb w).add 1) = some (Value.slice lA lN lC) ∧
     CondP (decide ((((lN : Nat) : Int) : Int) > 0))
       (R (Value.bool false) w1)
       (∃ b_1 : Bool, w1.cell? ((nb w).add 0) = some (Value.bool b_1) ∧
        CondP (!b_1)
          (∃ lA_2 : Option Addr, ∃ lN_3 : Nat, ∃ lC_4 : Nat, w1.cell? ((nb w).add 2) = some (Value.slice lA_2 lN_3 lC_4) ∧
           CondP (decide ((((lN_3 : Nat) : Int) : Int) > 0))
             (R (Value.bool false) w1)
             (∃ lA_5 : Option Addr, ∃ lN_6 : Nat, ∃ lC_7 : Nat, w1.cell? ((nb w).add 1) = some (Value.slice lA_5 lN_6 lC_7) ∧
              Calls Tryz.prog 104 #[Value.slice lA_5 lN_6 lC_7, Value.int .i64 744, Value.func (.func 105) #[] #[]] w1 (fun e2 w2 =>
              ∃ b_8 : Bool, e2 = .returned (Value.bool b_8) ∧
              CondP b_8
                (∃ lA_9 : Option Addr, ∃ lN_10 : Nat, ∃ lC_11 : Nat, w2.cell? ((nb w).add 2) = some (Value.slice lA_9 lN_10 lC_11) ∧
                 Calls Tryz.prog 106 #[Value.slice lA_9 lN_10 lC_11, Value.int .i64 744, Value.func (.func 107) #[] #[]] w2 (fun e3 w3 =>
                 ∃ b_12 : Bool, e3 = .returned (Value.bool b_12) ∧
                 CondP b_12
                   (∃ lA_13 : Option Addr, ∃ lN_14 : Nat, ∃ lC_15 : Nat, w3.cell? ((nb w).add 3) = some (Value.slice lA_13 lN_14 lC_15) ∧
                    Calls Tryz.prog 108 #[Value.slice lA_13 lN_14 lC_15, Value.int .i64 32, Value.func (.func 109) #[] #[]] w3 (fun e4 w4 =>
                    ∃ b_16 : Bool, e4 = .returned (Value.bool b_16) ∧
                    CondP b_16
                      (∃ lA_17 : Option Addr, ∃ lN_18 : Nat, ∃ lC_19 : Nat, w4.cell? ((nb w).add 4) = some (Value.slice lA_17 lN_18 lC_19) ∧
                       Calls Tryz.prog 110 #[Value.slice lA_17 lN_18 lC_19, Value.int .i64 64, Value.func (.func 111) #[] #[]] w4 (fun e5 w5 =>
                       ∃ b_20 : Bool, e5 = .returned (Value.bool b_20) ∧
                       CondP b_20
                         (∃ lA_21 : Option Addr, ∃ lN_22 : Nat, ∃ lC_23 : Nat, w5.cell? ((nb w).add 5) = some (Value.slice lA_21 lN_22 lC_23) ∧
                          Calls Tryz.prog 112 #[Value.slice lA_21 lN_22 lC_23, Value.int .i64 64, Value.func (.func 113) #[] #[]] w5 (fun e6 w6 =>
                          ∃ b_24 : Bool, e6 = .returned (Value.bool b_24) ∧
                          R (Value.bool b_24) w6))
                         (R (Value.bool false) w5)))
                      (R (Value.bool false) w4)))
                   (R (Value.bool false) w3)))
                (R (Value.bool false) w2))))
          (∃ lA_25 : Option Addr, ∃ lN_26 : Nat, ∃ lC_27 : Nat, w1.cell? ((nb w).add 1) = some (Value.slice lA_25 lN_26 lC_27) ∧
           Calls Tryz.prog 104 #[Value.slice lA_25 lN_26 lC_27, Value.int .i64 744, Value.func (.func 105) #[] #[]] w1 (fun e7 w7 =>
           ∃ b_28 : Bool, e7 = .returned (Value.bool b_28) ∧
           CondP b_28
             (∃ lA_29 : Option Addr, ∃ lN_30 : Nat, ∃ lC_31 : Nat, w7.cell? ((nb w).add 2) = some (Value.slice lA_29 lN_30 lC_31) ∧
              Calls Tryz.prog 106 #[Value.slice lA_29 lN_30 lC_31, Value.int .i64 744, Value.func (.func 107) #[] #[]] w7 (fun e8 w8 =>
              ∃ b_32 : Bool, e8 = .returned (Value.bool b_32) ∧
              CondP b_32
                (∃ lA_33 : Option Addr, ∃ lN_34 : Nat, ∃ lC_35 : Nat, w8.cell? ((nb w).add 3) = some (Value.slice lA_33 lN_34 lC_35) ∧
                 Calls Tryz.prog 108 #[Value.slice lA_33 lN_34 lC_35, Value.int .i64 32, Value.func (.func 109) #[] #[]] w8 (fun e9 w9 =>
                 ∃ b_36 : Bool, e9 = .returned (Value.bool b_36) ∧
                 CondP b_36
                   (∃ lA_37 : Option Addr, ∃ lN_38 : Nat, ∃ lC_39 : Nat, w9.cell? ((nb w).add 4) = some (Value.slice lA_37 lN_38 lC_39) ∧
                    Calls Tryz.prog 110 #[Value.slice lA_37 lN_38 lC_39, Value.int .i64 64, Value.func (.func 111) #[] #[]] w9 (fun e10 w10 =>
                    ∃ b_40 : Bool, e10 = .returned (Value.bool b_40) ∧
                    CondP b_40
                      (∃ lA_41 : Option Addr, ∃ lN_42 : Nat, ∃ lC_43 : Nat, w10.cell? ((nb w).add 5) = some (Value.slice lA_41 lN_42 lC_43) ∧
                       Calls Tryz.prog 112 #[Value.slice lA_41 lN_42 lC_43, Value.int .i64 64, Value.func (.func 113) #[] #[]] w10 (fun e11 w11 =>
                       ∃ b_44 : Bool, e11 = .returned (Value.bool b_44) ∧
                       R (Value.bool b_44) w11))
                      (R (Value.bool false) w10)))
                   (R (Value.bool false) w9)))
                (R (Value.bool false) w8)))
             (R (Value.bool false) w7)))))
    (∃ b_45 : Bool, w1.cell? ((nb w).add 0) = some (Value.bool b_45) ∧
     CondP (!b_45)
       (∃ lA_46 : Option Addr, ∃ lN_47 : Nat, ∃ lC_48 : Nat, w1.cell? ((nb w).add 2) = some (Value.slice lA_46 lN_47 lC_48) ∧
        CondP (decide ((((lN_47 : Nat) : Int) : Int) > 0))
          (R (Value.bool false) w1)
          (∃ lA_49 : Option Addr, ∃ lN_50 : Nat, ∃ lC_51 : Nat, w1.cell? ((nb w).add 1) = some (Value.slice lA_49 lN_50 lC_51) ∧
           Calls Tryz.prog 104 #[Value.slice lA_49 lN_50 lC_51, Value.int .i64 744, Value.func (.func 105) #[] #[]] w1 (fun e12 w12 =>
           ∃ b_52 : Bool, e12 = .returned (Value.bool b_52) ∧
           CondP b_52
             (∃ lA_53 : Option Addr, ∃ lN_54 : Nat, ∃ lC_55 : Nat, w12.cell? ((nb w).add 2) = some (Value.slice lA_53 lN_54 lC_55) ∧
              Calls Tryz.prog 106 #[Value.slice lA_53 lN_54 lC_55, Value.int .i64 744, Value.func (.func 107) #[] #[]] w12 (fun e13 w13 =>
              ∃ b_56 : Bool, e13 = .returned (Value.bool b_56) ∧
              CondP b_56
                (∃ lA_57 : Option Addr, ∃ lN_58 : Nat, ∃ lC_59 : Nat, w13.cell? ((nb w).add 3) = some (Value.slice lA_57 lN_58 lC_59) ∧
                 Calls Tryz.prog 108 #[Value.slice lA_57 lN_58 lC_59, Value.int .i64 32, Value.func (.func 109) #[] #[]] w13 (fun e14 w14 =>
                 ∃ b_60 : Bool, e14 = .returned (Value.bool b_60) ∧
                 CondP b_60
                   (∃ lA_61 : Option Addr, ∃ lN_62 : Nat, ∃ lC_63 : Nat, w14.cell? ((nb w).add 4) = some (Value.slice lA_61 lN_62 lC_63) ∧
                    Calls Tryz.prog 110 #[Value.slice lA_61 lN_62 lC_63, Value.int .i64 64, Value.func (.func 111) #[] #[]] w14 (fun e15 w15 =>
                    ∃ b_64 : Bool, e15 = .returned (Value.bool b_64) ∧
                    CondP b_64
                      (∃ lA_65 : Option Addr, ∃ lN_66 : Nat, ∃ lC_67 : Nat, w15.cell? ((nb w).add 5) = some (Value.slice lA_65 lN_66 lC_67) ∧
                       Calls Tryz.prog 112 #[Value.slice lA_65 lN_66 lC_67, Value.int .i64 64, Value.func (.func 113) #[] #[]] w15 (fun e16 w16 =>
                       ∃ b_68 : Bool, e16 = .returned (Value.bool b_68) ∧
                       R (Value.bool b_68) w16))
                      (R (Value.bool false) w15)))
                   (R (Value.bool false) w14)))
                (R (Value.bool false) w13)))
             (R (Value.bool false) w12))))
       (∃ lA_69 : Option Addr, ∃ lN_70 : Nat, ∃ lC_71 : Nat, w1.cell? ((nb w).add 1) = some (Value.slice lA_69 lN_70 lC_71) ∧
        Calls Tryz.prog 104 #[Value.slice lA_69 lN_70 lC_71, Value.int .i64 744, Value.func (.func 105) #[] #[]] w1 (fun e17 w17 =>
        ∃ b_72 : Bool, e17 = .returned (Value.bool b_72) ∧
        CondP b_72
          (∃ lA_73 : Option Addr, ∃ lN_74 : Nat, ∃ lC_75 : Nat, w17.cell? ((nb w).add 2) = some (Value.slice lA_73 lN_74 lC_75) ∧
           Calls Tryz.prog 106 #[Value.slice lA_73 lN_74 lC_75, Value.int .i64 744, Value.func (.func 107) #[] #[]] w17 (fun e18 w18 =>
           ∃ b_76 : Bool, e18 = .returned (Value.bool b_76) ∧
           CondP b_76
             (∃ lA_77 : Option Addr, ∃ lN_78 : Nat, ∃ lC_79 : Nat, w18.cell? ((nb w).add 3) = some (Value.slice lA_77 lN_78 lC_79) ∧
              Calls Tryz.prog 108 #[Value.slice lA_77 lN_78 lC_79, Value.int .i64 32, Value.func (.func 109) #[] #[]] w18 (fun e19 w19 =>
              ∃ b_80 : Bool, e19 = .returned (Value.bool b_80) ∧
              CondP b_80
                (∃ lA_81 : Option Addr, ∃ lN_82 : Nat, ∃ lC_83 : Nat, w19.cell? ((nb w).add 4) = some (Value.slice lA_81 lN_82 lC_83) ∧
                 Calls Tryz.prog 110 #[Value.slice lA_81 lN_82 lC_83, Value.int .i64 64, Value.func (.func 111) #[] #[]] w19 (fun e20 w20 =>
                 ∃ b_84 : Bool, e20 = .returned (Value.bool b_84) ∧
                 CondP b_84
                   (∃ lA_85 : Option Addr, ∃ lN_86 : Nat, ∃ lC_87 : Nat, w20.cell? ((nb w).add 5) = some (Value.slice lA_85 lN_86 lC_87) ∧
                    Calls Tryz.prog 112 #[Value.slice lA_85 lN_86 lC_87, Value.int .i64 64, Value.func (.func 113) #[] #[]] w20 (fun e21 w21 =>
                    ∃ b_88 : Bool, e21 = .returned (Value.bool b_88) ∧
                    R (Value.bool b_88) w21))
                   (R (Value.bool false) w20)))
                (R (Value.bool false) w19)))
             (R (Value.bool false) w18)))
          (R (Value.bool false) w17))))
theorem vc82_eq (s0 : Bool) (s1A : Option Addr) (s1N : Nat) (s1C : Nat) (s2A : Option Addr) (s2N : Nat) (s2C : Nat) (s3A : Option Addr) (s3N : Nat) (s3C : Nat) (s4A : Option Addr) (s4N : Nat) (s4C : Nat) (s5A : Option Addr) (s5N : Nat) (s5C : Nat) (w : World) (R : Value → World → Prop) : vc82 s0 s1A s1N s1C s2A s2N s2C s3A s3N s3C s4A s4N s4C s5A s5N s5C w R = denFun ctx (bodyOf Tryz.f82) Tryz.f82.results.toList [Value.agg #[Value.bool s0, Value.slice s1A s1N s1C, Value.slice s2A s2N s2C, Value.slice s3A s3N s3C, Value.slice s4A s4N s4C, Value.slice s5A s5N s5C]] w R := by kernel_rfl
theorem vc82_calls (s0 : Bool) (s1A : Option Addr) (s1N : Nat) (s1C : Nat) (s2A : Option Addr) (s2N : Nat) (s2C : Nat) (s3A : Option Addr) (s3N : Nat) (s3C : Nat) (s4A : Option Addr) (s4N : Nat) (s4C : Nat) (s5A : Option Addr) (s5N : Nat) (s5C : Nat) (w : World) (R : Value → World → Prop) (h : vc82 s0 s1A s1N s1C s2A s2N s2C s3A s3N s3C s4A s4N s4C s5A s5N s5C w R) : Calls Tryz.prog 82 #[Value.agg #[Value.bool s0, Value.slice s1A s1N s1C, Value.slice s2A s2N s2C, Value.slice s3A s3N s3C, Value.slice s4A s4N s4C, Value.slice s5A s5N s5C]] w fun e w' => ∃ v, e = .returned v ∧ R v w' :=
  calls_of_den ctxOk (f := 82) (fn := Tryz.f82) (body := bodyOf Tryz.f82) (args := [Value.agg #[Value.bool s0, Value.slice s1A s1N s1C, Value.slice s2A s2N s2C, Value.slice s3A s3N s3C, Value.slice s4A s4N s4C, Value.slice s5A s5N s5C]]) (by kernel_rfl) (by kernel_rfl) (by kernel_rfl) (by kernel_rfl) (Eq.mp (vc82_eq s0 s1A s1N s1C s2A s2N s2C s3A s3N s3C s4A s4N s4C s5A s5N s5C w R) h)

/-! ### ligature/vocab.build: function 83 -/
def vc83 (s0 : Bool) (s1A : Option Addr) (s1N : Nat) (s1C : Nat) (s2A : Option Addr) (s2N : Nat) (s2C : Nat) (s3A : Option Addr) (s3N : Nat) (s3C : Nat) (s4A : Option Addr) (s4N : Nat) (s4C : Nat) (s5A : Option Addr) (s5N : Nat) (s5C : Nat) (w : World) (R : Value → World → Prop) : Prop :=
  ∀ w1 : World, w1 = w.alloc (.cells #[Value.bool s0, Value.slice s1A s1N s1C, Value.slice s2A s2N s2C, Value.slice s3A s3N s3C, Value.slice s4A s4N s4C, Value.slice s5A s5N s5C] 83) →
  ∃ g0 : Bool, ∃ g1A : Option Addr, ∃ g1N : Nat, ∃ g1C : Nat, ∃ g2A : Option Addr, ∃ g2N : Nat, ∃ g2C : Nat, ∃ g3A : Option Addr, ∃ g3N : Nat, ∃ g3C : Nat, ∃ g4A : Option Addr, ∃ g4N : Nat, ∃ g4C : Nat, ∃ g5A : Option Addr, ∃ g5N : Nat, ∃ g5C : Nat, (w1.cell? (nb w) = some (Value.bool g0) ∧ w1.cell? ((nb w).add 1) = some (Value.slice g1A g1N g1C) ∧ w1.cell? ((nb w).add 2) = some (Value.slice g2A g2N g2C) ∧ w1.cell? ((nb w).add 3) = some (Value.slice g3A g3N g3C) ∧ w1.cell? ((nb w).add 4) = some (Value.slice g4A g4N g4C) ∧ w1.cell? ((nb w).add 5) = some (Value.slice g5A g5N g5C) ∧ True) ∧
  Calls Tryz.prog 114 #[Value.agg #[Value.bool g0, Value.slice g1A g1N g1C, Value.slice g2A g2N g2C, Value.slice g3A g3N g3C, Value.slice g4A g4N g4C, Value.slice g5A g5N g5C]] w1 (fun e2 w2 =>
  ∃ r0 : Option Addr, ∃ r1 : Int, ∃ r2 : Int, e2 = .returned (Value.tuple #[Value.pointer r0, Value.int .i64 r1, Value.int .i64 r2]) ∧
  ∀ w3 : World, w3 = w2.alloc (.cells #[Value.pointer none] 142) →
  (Value.pointer r0).oneCell' = true ∧ (∃ u, w3.cell? (nb w2) = some u) ∧ w3.frozen? (nb w2) = false ∧
  ∀ w4 : World, w4 = (w3.setCell (nb w2) (Value.pointer r0)) →
  CondP ((r2 : Int) != 0)
    (R (Value.tuple #[Value.pointer none, Value.int .i64 1, Value.int .i64 r1, Value.int .i64 r2]) w4)
    (∃ lA : Option Addr, ∃ lN : Nat, ∃ lC : Nat, w4.cell? ((nb w).add 3) = some (Value.slice lA lN lC) ∧
     Calls Tryz.prog 115 #[Value.slice lA lN lC] w4 (fun e5 w5 =>
     ∃ r0_1 : Option Addr, ∃ r1_2 : Int, ∃ r2_3 : Int, e5 = .returned (Value.tuple #[Value.pointer r0_1, Value.int .i64 r1_2, Value.int .i64 r2_3]) ∧
     CondP ((r2_3 : Int) != 0)
       (R (Value.tuple #[Value.pointer none, Value.int .i64 2, Value.int .i64 r1_2, Value.int .i64 r2_3]) w5)
       (∃ lA_4 : Option Addr, ∃ lN_5 : Nat, ∃ lC_6 : Nat, w5.cell? ((nb w).add 3) = some (Value.slice lA_4 lN_5 lC_6) ∧
        Calls Tryz.prog 116 #[Value.slice lA_4 lN_5 lC_6, Value.func (.func 117) #[] #[Value.pointer (some (nb w2))]] w5 (fun e6 w6 =>
        ∃ n : Int, e6 = .returned (Value.int .i64 n) ∧
        CondP (decide ((n : Int) ≥ 0))
          (R (Value.tuple #[Value.pointer none, Value.int .i64 2, Value.int .i64 n, Value.int .i64 4]) w6)
          (∃ lA_7 : Option Addr, ∃ lN_8 : Nat, ∃ lC_9 : Nat, w6.cell? ((nb w).add 4) = some (Value.slice lA_7 lN_8 lC_9) ∧
           ∃ lA_10 : Option Addr, ∃ lN_11 : Nat, ∃ lC_12 : Nat, w6.cell? ((nb w).add 5) = some (Value.slice lA_10 lN_11 lC_12) ∧
           Calls Tryz.prog 119 #[Value.slice lA_7 lN_8 lC_9, Value.slice lA_10 lN_11 lC_12] w6 (fun e7 w7 =>
           ∃ r0_13 : Option Addr, ∃ r1_14 : Int, e7 = .returned (Value.tuple #[Value.pointer r0_13, Value.int .i64 r1_14]) ∧
           CondP ((r1_14 : Int) != 0)
             (R (Value.tuple #[Value.pointer none, Value.int .i64 0, Value.int .i64 0, Value.int .i64 r1_14]) w7)
             (∀ w8 : World, w8 = w7.drew →
              ∃ g0_15 : Bool, ∃ g1A_16 : Option Addr, ∃ g1N_17 : Nat, ∃ g1C_18 : Nat, ∃ g2A_19 : Option Addr, ∃ g2N_20 : Nat, ∃ g2C_21 : Nat, ∃ g3A_22 : Option Addr, ∃ g3N_23 : Nat, ∃ g3C_24 : Nat, ∃ g4A_25 : Option Addr, ∃ g4N_26 : Nat, ∃ g4C_27 : Nat, ∃ g5A_28 : Option Addr, ∃ g5N_29 : Nat, ∃ g5C_30 : Nat, (w8.cell? (nb w) = some (Value.bool g0_15) ∧ w8.cell? ((nb w).add 1) = some (Value.slice g1A_16 g1N_17 g1C_18) ∧ w8.cell? ((nb w).add 2) = some (Value.slice g2A_19 g2N_20 g2C_21) ∧ w8.cell? ((nb w).add 3) = some (Value.slice g3A_22 g3N_23 g3C_24) ∧ w8.cell? ((nb w).add 4) = some (Value.slice g4A_25 g4N_26 g4C_27) ∧ w8.cell? ((nb w).add 5) = some (Value.slice g5A_28 g5N_29 g5C_30) ∧ True) ∧
              ∃ p : Option Addr, w8.cell? (nb w2) = some (Value.pointer p) ∧
              Calls Tryz.prog 120 #[Value.agg #[Value.bool g0_15, Value.slice g1A_16 g1N_17 g1C_18, Value.slice g2A_19 g2N_20 g2C_21, Value.slice g3A_22 g3N_23 g3C_24, Value.slice g4A_25 g4N_26 g4C_27, Value.slice g5A_28 g5N_29 g5C_30]] w8 (fun e9 w9 =>
              ∃ g0_31 : Bool, ∃ g1A_32 : Option Addr, ∃ g1N_33 : Nat, ∃ g1C_34 : Nat, ∃ g2A_35 : Option Addr, ∃ g2N_36 : Nat, ∃ g2C_37 : Nat, ∃ g3A_38 : Option Addr, ∃ g3N_39 : Nat, ∃ g3C_40 : Nat, ∃ g4A_41 : Option Addr, ∃ g4N_42 : Nat, ∃ g4C_43 : Nat, ∃ g5A_44 : Option Addr, ∃ g5N_45 : Nat, ∃ g5C_46 : Nat, e9 = .returned (Value.agg #[Value.bool g0_31, Value.slice g1A_32 g1N_33 g1C_34, Value.slice g2A_35 g2N_36 g2C_37, Value.slice g3A_38 g3N_39 g3C_40, Value.slice g4A_41 g4N_42 g4C_43, Value.slice g5A_44 g5N_45 g5C_46]) ∧
              (w9.cell? (nb w2) = some (Value.pointer p) ∧ True) ∧
              ∀ w10 : World, w10 = w9.alloc (.cells #[Value.bool g0_31, Value.slice g1A_32 g1N_33 g1C_34, Value.slice g2A_35 g2N_36 g2C_37, Value.slice g3A_38 g3N_39 g3C_40, Value.slice g4A_41 g4N_42 g4C_43, Value.slice g5A_44 g5N_45 g5C_46, Value.pointer p, Value.pointer r0_13, Value.pointer r0_1, Value.int .u32 0, Value.int .i32 0, Value.int .u32 0, Value.slice none 0 0, Value.int .i64 0] 164) →
              R (Value.tuple #[Value.pointer (some (nb w9)), Value.int .i64 0, Value.int .i64 0, Value.int .i64 0]) w10)))))))))
theorem vc83_eq (s0 : Bool) (s1A : Option Addr) (s1N : Nat) (s1C : Nat) (s2A : Option Addr) (s2N : Nat) (s2C : Nat) (s3A : Option Addr) (s3N : Nat) (s3C : Nat) (s4A : Option Addr) (s4N : Nat) (s4C : Nat) (s5A : Option Addr) (s5N : Nat) (s5C : Nat) (w : World) (R : Value → World → Prop) : vc83 s0 s1A s1N s1C s2A s2N s2C s3A s3N s3C s4A s4N s4C s5A s5N s5C w R = denFun ctx (bodyOf Tryz.f83) Tryz.f83.results.toList [Value.agg #[Value.bool s0, Value.slice s1A s1N s1C, Value.slice s2A s2N s2C, Value.slice s3A s3N s3C, Value.slice s4A s4N s4C, Value.slice s5A s5N s5C]] w R := by kernel_rfl
theorem vc83_calls (s0 : Bool) (s1A : Option Addr) (s1N : Nat) (s1C : Nat) (s2A : Option Addr) (s2N : Nat) (s2C : Nat) (s3A : Option Addr) (s3N : Nat) (s3C : Nat) (s4A : Option Addr) (s4N : Nat) (s4C : Nat) (s5A : Option Addr) (s5N : Nat) (s5C : Nat) (w : World) (R : Value → World → Prop) (h : vc83 s0 s1A s1N s1C s2A s2N s2C s3A s3N s3C s4A s4N s4C s5A s5N s5C w R) : Calls Tryz.prog 83 #[Value.agg #[Value.bool s0, Value.slice s1A s1N s1C, Value.slice s2A s2N s2C, Value.slice s3A s3N s3C, Value.slice s4A s4N s4C, Value.slice s5A s5N s5C]] w fun e w' => ∃ v, e = .returned v ∧ R v w' :=
  calls_of_den ctxOk (f := 83) (fn := Tryz.f83) (body := bodyOf Tryz.f83) (args := [Value.agg #[Value.bool s0, Value.slice s1A s1N s1C, Value.slice s2A s2N s2C, Value.slice s3A s3N s3C, Value.slice s4A s4N s4C, Value.slice s5A s5N s5C]]) (by kernel_rfl) (by kernel_rfl) (by kernel_rfl) (by kernel_rfl) (Eq.mp (vc83_eq s0 s1A s1N s1C s2A s2N s2C s3A s3N s3C s4A s4N s4C s5A s5N s5C w R) h)

/-! ### ligature/canon.ready: function 88 -/
def vc88 (v_ : Option Addr) (idsA : Option Addr) (idsN : Nat) (idsC : Nat) (w : World) (R : Value → World → Prop) : Prop :=
  ∀ w1 : World, w1 = w.alloc (.cells #[Value.pointer v_] 31) →
  ∃ p : Option Addr, w1.cell? (nb w) = some (Value.pointer p) ∧
  CondP (Option.isNone p)
    (R (Value.tuple #[Value.int .i64 0, Value.int .i64 1]) w1)
    (CondP (decide ((((idsN : Nat) : Int) : Int) > 4000))
       (R (Value.tuple #[Value.int .i64 0, Value.int .i64 3]) w1)
       (Calls Tryz.prog 60 #[Value.slice idsA idsN idsC, Value.func (.func 124) #[] #[Value.pointer (some (nb w))]] w1 (fun e2 w2 =>
        ∃ n : Int, e2 = .returned (Value.int .i64 n) ∧
        CondP (decide ((n : Int) ≥ 0))
          (R (Value.tuple #[Value.int .i64 n, Value.int .i64 4]) w2)
          (R (Value.tuple #[Value.int .i64 0, Value.int .i64 0]) w2))))
theorem vc88_eq (v_ : Option Addr) (idsA : Option Addr) (idsN : Nat) (idsC : Nat) (w : World) (R : Value → World → Prop) : vc88 v_ idsA idsN idsC w R = denFun ctx (bodyOf Tryz.f88) Tryz.f88.results.toList [Value.pointer v_, Value.slice idsA idsN idsC] w R := by kernel_rfl
theorem vc88_calls (v_ : Option Addr) (idsA : Option Addr) (idsN : Nat) (idsC : Nat) (w : World) (R : Value → World → Prop) (h : vc88 v_ idsA idsN idsC w R) : Calls Tryz.prog 88 #[Value.pointer v_, Value.slice idsA idsN idsC] w fun e w' => ∃ v, e = .returned v ∧ R v w' :=
  calls_of_den ctxOk (f := 88) (fn := Tryz.f88) (body := bodyOf Tryz.f88) (args := [Value.pointer v_, Value.slice idsA idsN idsC]) (by kernel_rfl) (by kernel_rfl) (by kernel_rfl) (by kernel_rfl) (Eq.mp (vc88_eq v_ idsA idsN idsC w R) h)

/-! ### ligature/canon.place: function 89 -/
def vc89 (k : Int) (bad : Bool) (w : World) (R : Value → World → Prop) : Prop :=
  CondP (!bad)
    (R (Value.int .i64 (-1)) w)
    (R (Value.int .i64 k) w)
theorem vc89_eq (k : Int) (bad : Bool) (w : World) (R : Value → World → Prop) : vc89 k bad w R = denFun ctx (bodyOf Tryz.f89) Tryz.f89.results.toList [Value.int .i64 k, Value.bool bad] w R := by kernel_rfl
theorem vc89_calls (k : Int) (bad : Bool) (w : World) (R : Value → World → Prop) (h : vc89 k bad w R) : Calls Tryz.prog 89 #[Value.int .i64 k, Value.bool bad] w fun e w' => ∃ v, e = .returned v ∧ R v w' :=
  calls_of_den ctxOk (f := 89) (fn := Tryz.f89) (body := bodyOf Tryz.f89) (args := [Value.int .i64 k, Value.bool bad]) (by kernel_rfl) (by kernel_rfl) (by kernel_rfl) (by kernel_rfl) (Eq.mp (vc89_eq k bad w R) h)

/-! ### (*ligature/vocab.Vocab).Marks: function 92 -/
def vc92 (v_ : Option Addr) (w : World) (R : Value → World → Prop) : Prop :=
  CondP (Option.isNone v_)
    (R (Value.pointer none) w)
    (NilC v_ (fun pa =>
     ∃ p : Option Addr, w.cell? ((pa.add 0).add 8) = some (Value.pointer p) ∧
     R (Value.pointer p) w))
theorem vc92_eq (v_ : Option Addr) (w : World) (R : Value → World → Prop) : vc92 v_ w R = denFun ctx (bodyOf Tryz.f92) Tryz.f92.results.toList [Value.pointer v_] w R := by kernel_rfl
theorem vc92_calls (v_ : Option Addr) (w : World) (R : Value → World → Prop) (h : vc92 v_ w R) : Calls Tryz.prog 92 #[Value.pointer v_] w fun e w' => ∃ v, e = .returned v ∧ R v w' :=
  calls_of_den ctxOk (f := 92) (fn := Tryz.f92) (body := bodyOf Tryz.f92) (args := [Value.pointer v_]) (by kernel_rfl) (by kernel_rfl) (by kernel_rfl) (by kernel_rfl) (Eq.mp (vc92_eq v_ w R) h)

/-! ### (*ligature/mark.Set).Mark: function 93 -/
def vc93 (s : Option Addr) (id : Int) (w : World) (R : Value → World → Prop) : Prop :=
  CondP (Option.isNone s)
    (R (Value.tuple #[Value.int .i64 0, Value.bool false]) w)
    (NilC s (fun pa =>
     ∃ m : Option Nat, w.cell? (pa.add 1) = some (Value.map m) ∧
     ∃ r0 : Int, ∃ r1 : Bool, ∃ w1 : World, (Instr.lookup 100 (Value.map m) (Value.int .i64 id) true).run Tryz.prog w = .ok (Value.tuple #[Value.int .i64 r0, Value.bool r1]) w1 ∧
     CondP (!r1)
       (R (Value.tuple #[Value.int .i64 0, Value.bool false]) w1)
       (Calls Tryz.prog 126 #[Value.int .i64 r0] w1 (fun e2 w2 =>
        ∃ n : Int, e2 = .returned (Value.int .i64 n) ∧
        R (Value.tuple #[Value.int .i64 n, Value.bool true]) w2))))
theorem vc93_eq (s : Option Addr) (id : Int) (w : World) (R : Value → World → Prop) : vc93 s id w R = denFun ctx (bodyOf Tryz.f93) Tryz.f93.results.toList [Value.pointer s, Value.int .i64 id] w R := by kernel_rfl
theorem vc93_calls (s : Option Addr) (id : Int) (w : World) (R : Value → World → Prop) (h : vc93 s id w R) : Calls Tryz.prog 93 #[Value.pointer s, Value.int .i64 id] w fun e w' => ∃ v, e = .returned v ∧ R v w' :=
  calls_of_den ctxOk (f := 93) (fn := Tryz.f93) (body := bodyOf Tryz.f93) (args := [Value.pointer s, Value.int .i64 id]) (by kernel_rfl) (by kernel_rfl) (by kernel_rfl) (by kernel_rfl) (Eq.mp (vc93_eq s id w R) h)

/-! ### (*ligature/vocab.Vocab).Size: function 94 -/
def vc94 (v_ : Option Addr) (w : World) (R : Value → World → Prop) : Prop :=
  Calls Tryz.prog 127 #[Value.pointer v_] w (fun e1 w1 =>
  ∃ p : Option Addr, e1 = .returned (Value.pointer p) ∧
  Calls Tryz.prog 118 #[Value.pointer p] w1 (fun e2 w2 =>
  ∃ n : Int, e2 = .returned (Value.int .i64 n) ∧
  R (Value.int .i64 n) w2))
theorem vc94_eq (v_ : Option Addr) (w : World) (R : Value → World → Prop) : vc94 v_ w R = denFun ctx (bodyOf Tryz.f94) Tryz.f94.results.toList [Value.pointer v_] w R := by kernel_rfl
theorem vc94_calls (v_ : Option Addr) (w : World) (R : Value → World → Prop) (h : vc94 v_ w R) : Calls Tryz.prog 94 #[Value.pointer v_] w fun e w' => ∃ v, e = .returned v ∧ R v w' :=
  calls_of_den ctxOk (f := 94) (fn := Tryz.f94) (body := bodyOf Tryz.f94) (args := [Value.pointer v_]) (by kernel_rfl) (by kernel_rfl) (by kernel_rfl) (by kernel_rfl) (Eq.mp (vc94_eq v_ w R) h)

/-! ### ligature/spine.First: function 95 -/
def vc95 (v_ : Option Addr) (idsA : Option Addr) (idsN : Nat) (idsC : Nat) (w : World) (R : Value → World → Prop) : Prop :=
  ∀ I1 : List Value → World → Prop, (∀ y10 : Int, ∀ y5 : Bool, ∀ y4 : Int, ∀ w1 : World, (CondP (decide ((y10 : Int) < ((idsN : Nat) : Int)))
      (NilC idsA (fun pa =>
       (0 : Int) ≤ y10 ∧ y10 < ((idsN : Nat) : Int) ∧
       ∃ n : Int, w1.cell? (pa.add ((y10 : Int).toNat * 1)) = some (Value.int .i64 n) ∧
       Calls Tryz.prog 68 #[Value.pointer v_, Value.int .i64 n] w1 (fun e2 w2 =>
       ∃ b : Bool, e2 = .returned (Value.bool b) ∧
       CondP (!b)
         (R (Value.tuple #[Value.int .i64 y10, Value.bool true]) w2)
         (CondP (decide ((y10 : Int) > 0))
            (Ar .i64 ((y10 : Int) - 1) (fun n_2 =>
             NilC idsA (fun pa_3 =>
             (0 : Int) ≤ n_2 ∧ n_2 < ((idsN : Nat) : Int) ∧
             ∃ n_4 : Int, w2.cell? (pa_3.add ((n_2 : Int).toNat * 1)) = some (Value.int .i64 n_4) ∧
             Calls Tryz.prog 102 #[Value.pointer v_, Value.int .i64 n_4, Value.int .i64 n] w2 (fun e3 w3 =>
             ∃ b_5 : Bool, e3 = .returned (Value.bool b_5) ∧
             CondP (!b_5)
               (R (Value.tuple #[Value.int .i64 y10, Value.bool true]) w3)
               (Ar .i64 ((y10 : Int) + 1) (fun n_6 =>
                I1 [Value.int .i64 n_6, Value.bool y5, Value.int .i64 y4] w3))))))
            (Ar .i64 ((y10 : Int) + 1) (fun n_7 =>
             I1 [Value.int .i64 n_7, Value.bool y5, Value.int .i64 y4] w2))))))
      (R (Value.tuple #[Value.int .i64 0, Value.bool false]) w1)) → I1 [Value.int .i64 y10, Value.bool y5, Value.int .i64 y4] w1) →
  I1 [Value.int .i64 0, Value.bool false, Value.int .i64 0] w
theorem vc95_eq (v_ : Option Addr) (idsA : Option Addr) (idsN : Nat) (idsC : Nat) (w : World) (R : Value → World → Prop) : vc95 v_ idsA idsN idsC w R = denFun ctx (bodyOf Tryz.f95) Tryz.f95.results.toList [Value.pointer v_, Value.slice idsA idsN idsC] w R := by kernel_rfl
theorem vc95_calls (v_ : Option Addr) (idsA : Option Addr) (idsN : Nat) (idsC : Nat) (w : World) (R : Value → World → Prop) (h : vc95 v_ idsA idsN idsC w R) : Calls Tryz.prog 95 #[Value.pointer v_, Value.slice idsA idsN idsC] w fun e w' => ∃ v, e = .returned v ∧ R v w' :=
  calls_of_den ctxOk (f := 95) (fn := Tryz.f95) (body := bodyOf Tryz.f95) (args := [Value.pointer v_, Value.slice idsA idsN idsC]) (by kernel_rfl) (by kernel_rfl) (by kernel_rfl) (by kernel_rfl) (Eq.mp (vc95_eq v_ idsA idsN idsC w R) h)

/-! ### (*ligature/vocab.Vocab).find: function 101 -/
def vc101 (v_ : Option Addr) (w : World) (R : Value → World → Prop) : Prop :=
  Calls Tryz.prog 94 #[Value.pointer v_] w (fun e1 w1 =>
  ∃ n : Int, e1 = .returned (Value.int .i64 n) ∧
  ∃ lA : Option Addr, ∃ lN : Nat, ∃ lC : Nat, ∃ w2 : World, (Instr.makeSlice 111 (Value.int .i64 n) (Value.int .i64 n)).run Tryz.prog w1 = .ok (Value.slice lA lN lC) w2 ∧
  NilC v_ (fun pa =>
  (Value.slice lA lN lC).oneCell' = true ∧ (∃ u, w2.cell? ((pa.add 9).add 3) = some u) ∧ w2.frozen? ((pa.add 9).add 3) = false ∧
  ∀ w3 : World, w3 = (w2.setCell ((pa.add 9).add 3) (Value.slice lA lN lC)) →
  NilC v_ (fun pa_1 =>
  ∃ lA_2 : Option Addr, ∃ lN_3 : Nat, ∃ lC_4 : Nat, w3.cell? ((pa_1.add 9).add 3) = some (Value.slice lA_2 lN_3 lC_4) ∧
  ∀ I5 : List Value → World → Prop, (∀ y19 : Int, ∀ w4 : World, (CondP (decide ((y19 : Int) < ((lN_3 : Nat) : Int)))
      (NilC v_ (fun pa_6 =>
       ∃ p : Option Addr, w4.cell? ((pa_6.add 0).add 6) = some (Value.pointer p) ∧
       Calls Tryz.prog 134 #[Value.pointer p, Value.int .i64 y19] w4 (fun e5 w5 =>
       ∃ r0 : ByteArray, ∃ r1 : Bool, e5 = .returned (Value.tuple #[Value.string r0, Value.bool r1]) ∧
       NilC v_ (fun pa_7 =>
       ∃ p_8 : Option Addr, w5.cell? ((pa_7.add 0).add 6) = some (Value.pointer p_8) ∧
       Calls Tryz.prog 135 #[Value.pointer p_8, Value.string r0] w5 (fun e6 w6 =>
       ∃ lA_9 : Option Addr, ∃ lN_10 : Nat, ∃ lC_11 : Nat, e6 = .returned (Value.slice lA_9 lN_10 lC_11) ∧
       ∀ w7 : World, w7 = w6.drew →
       NilC v_ (fun pa_12 =>
       ∃ lA_13 : Option Addr, ∃ lN_14 : Nat, ∃ lC_15 : Nat, w7.cell? ((pa_12.add 9).add 3) = some (Value.slice lA_13 lN_14 lC_15) ∧
       CondP ((((lN_10 : Nat) : Int) : Int) == 1)
         (NilC lA_9 (fun pa_16 =>
          (0 : Int) ≤ 0 ∧ 0 < ((lN_10 : Nat) : Int) ∧
          ∃ n_17 : Int, w7.cell? (pa_16.add ((0 : Int).toNat * 1)) = some (Value.int .i64 n_17) ∧
          CondP ((n_17 : Int) == y19)
            (NilC v_ (fun pa_18 =>
             ∃ p_19 : Option Addr, w7.cell? ((pa_18.add 0).add 7) = some (Value.pointer p_19) ∧
             Calls Tryz.prog 136 #[Value.pointer p_19, Value.string r0] w7 (fun e8 w8 =>
             ∃ b : Bool, e8 = .returned (Value.bool b) ∧
             (w8.cell? ((pa_12.add 9).add 3) = some (Value.slice lA_13 lN_14 lC_15) ∧ True) ∧
             NilC lA_13 (fun pa_20 =>
             (0 : Int) ≤ y19 ∧ y19 < ((lN_14 : Nat) : Int) ∧
             (Value.bool b).oneCell' = true ∧ (∃ u, w8.cell? (pa_20.add ((y19 : Int).toNat * 1)) = some u) ∧ w8.frozen? (pa_20.add ((y19 : Int).toNat * 1)) = false ∧
             ∀ w9 : World, w9 = (w8.setCell (pa_20.add ((y19 : Int).toNat * 1)) (Value.bool b)) →
             Ar .i64 ((y19 : Int) + 1) (fun n_21 =>
             I5 [Value.int .i64 n_21] w9)))))
            (NilC lA_13 (fun pa_22 =>
             (0 : Int) ≤ y19 ∧ y19 < ((lN_14 : Nat) : Int) ∧
             (Value.bool false).oneCell' = true ∧ (∃ u, w7.cell? (pa_22.add ((y19 : Int).toNat * 1)) = some u) ∧ w7.frozen? (pa_22.add ((y19 : Int).toNat * 1)) = false ∧
             ∀ w10 : World, w10 = (w7.setCell (pa_22.add ((y19 : Int).toNat * 1)) (Value.bool false)) →
             Ar .i64 ((y19 : Int) + 1) (fun n_23 =>
             I5 [Value.int .i64 n_23] w10)))))
         (NilC lA_13 (fun pa_24 =>
          (0 : Int) ≤ y19 ∧ y19 < ((lN_14 : Nat) : Int) ∧
          (Value.bool false).oneCell' = true ∧ (∃ u, w7.cell? (pa_24.add ((y19 : Int).toNat * 1)) = some u) ∧ w7.frozen? (pa_24.add ((y19 : Int).toNat * 1)) = false ∧
          ∀ w11 : World, w11 = (w7.setCell (pa_24.add ((y19 : Int).toNat * 1)) (Value.bool false)) →
          Ar .i64 ((y19 : Int) + 1) (fun n_25 =>
          I5 [Value.int .i64 n_25] w11)))))))))
      (R (Value.tuple #[]) w4)) → I5 [Value.int .i64 y19] w4) →
  I5 [Value.int .i64 0] w3)))
theorem vc101_eq (v_ : Option Addr) (w : World) (R : Value → World → Prop) : vc101 v_ w R = denFun ctx (bodyOf Tryz.f101) Tryz.f101.results.toList [Value.pointer v_] w R := by kernel_rfl
theorem vc101_calls (v_ : Option Addr) (w : World) (R : Value → World → Prop) (h : vc101 v_ w R) : Calls Tryz.prog 101 #[Value.pointer v_] w fun e w' => ∃ v, e = .returned v ∧ R v w' :=
  calls_of_den ctxOk (f := 101) (fn := Tryz.f101) (body := bodyOf Tryz.f101) (args := [Value.pointer v_]) (by kernel_rfl) (by kernel_rfl) (by kernel_rfl) (by kernel_rfl) (Eq.mp (vc101_eq v_ w R) h)

/-! ### ligature/spine.beside: function 102 -/
def vc102 (v_ : Option Addr) (a : Int) (b : Int) (w : World) (R : Value → World → Prop) : Prop :=
  Calls Tryz.prog 137 #[Value.pointer v_, Value.int .i64 a] w (fun e1 w1 =>
  ∃ b_1 : Bool, e1 = .returned (Value.bool b_1) ∧
  CondP b_1
    (R (Value.bool true) w1)
    (Calls Tryz.prog 137 #[Value.pointer v_, Value.int .i64 b] w1 (fun e2 w2 =>
     ∃ b_2 : Bool, e2 = .returned (Value.bool b_2) ∧
     CondP b_2
       (R (Value.bool true) w2)
       (Calls Tryz.prog 127 #[Value.pointer v_] w2 (fun e3 w3 =>
        ∃ p : Option Addr, e3 = .returned (Value.pointer p) ∧
        Calls Tryz.prog 134 #[Value.pointer p, Value.int .i64 a] w3 (fun e4 w4 =>
        ∃ r0 : ByteArray, ∃ r1 : Bool, e4 = .returned (Value.tuple #[Value.string r0, Value.bool r1]) ∧
        Calls Tryz.prog 127 #[Value.pointer v_] w4 (fun e5 w5 =>
        ∃ p_3 : Option Addr, e5 = .returned (Value.pointer p_3) ∧
        Calls Tryz.prog 134 #[Value.pointer p_3, Value.int .i64 b] w5 (fun e6 w6 =>
        ∃ r0_4 : ByteArray, ∃ r1_5 : Bool, e6 = .returned (Value.tuple #[Value.string r0_4, Value.bool r1_5]) ∧
        Calls Tryz.prog 138 #[Value.pointer v_] w6 (fun e7 w7 =>
        ∃ p_6 : Option Addr, e7 = .returned (Value.pointer p_6) ∧
        Calls Tryz.prog 139 #[Value.pointer p_6, Value.string r0, Value.string r0_4] w7 (fun e8 w8 =>
        ∃ b_7 : Bool, e8 = .returned (Value.bool b_7) ∧
        CondP b_7
          (R (Value.bool true) w8)
          (Calls Tryz.prog 127 #[Value.pointer v_] w8 (fun e9 w9 =>
           ∃ p_8 : Option Addr, e9 = .returned (Value.pointer p_8) ∧
           Calls Tryz.prog 140 #[Value.pointer p_8, Value.int .i64 a, Value.int .i64 b, Value.int .i64 9223372036854775807] w9 (fun e10 w10 =>
           ∃ b_9 : Bool, e10 = .returned (Value.bool b_9) ∧
           R (Value.bool b_9) w10)))))))))))))
theorem vc102_eq (v_ : Option Addr) (a : Int) (b : Int) (w : World) (R : Value → World → Prop) : vc102 v_ a b w R = denFun ctx (bodyOf Tryz.f102) Tryz.f102.results.toList [Value.pointer v_, Value.int .i64 a, Value.int .i64 b] w R := by kernel_rfl
theorem vc102_calls (v_ : Option Addr) (a : Int) (b : Int) (w : World) (R : Value → World → Prop) (h : vc102 v_ a b w R) : Calls Tryz.prog 102 #[Value.pointer v_, Value.int .i64 a, Value.int .i64 b] w fun e w' => ∃ v, e = .returned v ∧ R v w' :=
  calls_of_den ctxOk (f := 102) (fn := Tryz.f102) (body := bodyOf Tryz.f102) (args := [Value.pointer v_, Value.int .i64 a, Value.int .i64 b]) (by kernel_rfl) (by kernel_rfl) (by kernel_rfl) (by kernel_rfl) (Eq.mp (vc102_eq v_ a b w R) h)

/-! ### ligature/spec.all[ligature/api.Merge]: function 104 -/
def vc104 (lA : Option Addr) (lN : Nat) (lC : Nat) (most : Int) (may : Value) (w : World) (R : Value → World → Prop) : Prop :=
  ∀ w1 : World, w1 = w.alloc (.cells (Value.cells may) 170) →
  CondP (decide ((((lN : Nat) : Int) : Int) ≤ most))
    (Calls Tryz.prog 141 #[Value.slice lA lN lC, Value.func (.func 142) #[] #[Value.pointer (some (nb w))]] w1 (fun e2 w2 =>
     ∃ b : Bool, e2 = .returned (Value.bool b) ∧
     R (Value.bool (!b)) w2))
    (R (Value.bool false) w1)
theorem vc104_eq (lA : Option Addr) (lN : Nat) (lC : Nat) (most : Int) (may : Value) (w : World) (R : Value → World → Prop) : vc104 lA lN lC most may w R = denFun ctx (bodyOf Tryz.f104) Tryz.f104.results.toList [Value.slice lA lN lC, Value.int .i64 most, may] w R := by kernel_rfl
theorem vc104_calls (lA : Option Addr) (lN : Nat) (lC : Nat) (most : Int) (may : Value) (w : World) (R : Value → World → Prop) (h : vc104 lA lN lC most may w R) : Calls Tryz.prog 104 #[Value.slice lA lN lC, Value.int .i64 most, may] w fun e w' => ∃ v, e = .returned v ∧ R v w' :=
  calls_of_den ctxOk (f := 104) (fn := Tryz.f104) (body := bodyOf Tryz.f104) (args := [Value.slice lA lN lC, Value.int .i64 most, may]) (by kernel_rfl) (by kernel_rfl) (by kernel_rfl) (by kernel_rfl) (Eq.mp (vc104_eq lA lN lC most may w R) h)

/-! ### ligature/spec.merge: function 105 -/
def vc105 (m0 : Int) (m1 : Int) (w : World) (R : Value → World → Prop) : Prop :=
  ∀ w1 : World, w1 = w.alloc (.cells #[Value.int .i64 m0, Value.int .i64 m1] 81) →
  ∃ n : Int, w1.cell? ((nb w).add 0) = some (Value.int .i64 n) ∧
  Calls Tryz.prog 143 #[Value.int .i64 n, Value.int .i64 0, Value.int .i64 999] w1 (fun e2 w2 =>
  ∃ b : Bool, e2 = .returned (Value.bool b) ∧
  CondP b
    (∃ n_1 : Int, w2.cell? ((nb w).add 1) = some (Value.int .i64 n_1) ∧
     Calls Tryz.prog 143 #[Value.int .i64 n_1, Value.int .i64 0, Value.int .i64 999] w2 (fun e3 w3 =>
     ∃ b_2 : Bool, e3 = .returned (Value.bool b_2) ∧
     R (Value.bool b_2) w3))
    (R (Value.bool false) w2))
theorem vc105_eq (m0 : Int) (m1 : Int) (w : World) (R : Value → World → Prop) : vc105 m0 m1 w R = denFun ctx (bodyOf Tryz.f105) Tryz.f105.results.toList [Value.agg #[Value.int .i64 m0, Value.int .i64 m1]] w R := by kernel_rfl
theorem vc105_calls (m0 : Int) (m1 : Int) (w : World) (R : Value → World → Prop) (h : vc105 m0 m1 w R) : Calls Tryz.prog 105 #[Value.agg #[Value.int .i64 m0, Value.int .i64 m1]] w fun e w' => ∃ v, e = .returned v ∧ R v w' :=
  calls_of_den ctxOk (f := 105) (fn := Tryz.f105) (body := bodyOf Tryz.f105) (args := [Value.agg #[Value.int .i64 m0, Value.int .i64 m1]]) (by kernel_rfl) (by kernel_rfl) (by kernel_rfl) (by kernel_rfl) (Eq.mp (vc105_eq m0 m1 w R) h)

/-! ### ligature/spec.all[string]: function 106 -/
def vc106 (lA : Option Addr) (lN : Nat) (lC : Nat) (most : Int) (may : Value) (w : World) (R : Value → World → Prop) : Prop :=
  ∀ w1 : World, w1 = w.alloc (.cells (Value.cells may) 172) →
  CondP (decide ((((lN : Nat) : Int) : Int) ≤ most))
    (Calls Tryz.prog 144 #[Value.slice lA lN lC, Value.func (.func 145) #[] #[Value.pointer (some (nb w))]] w1 (fun e2 w2 =>
     ∃ b : Bool, e2 = .returned (Value.bool b) ∧
     R (Value.bool (!b)) w2))
    (R (Value.bool false) w1)
theorem vc106_eq (lA : Option Addr) (lN : Nat) (lC : Nat) (most : Int) (may : Value) (w : World) (R : Value → World → Prop) : vc106 lA lN lC most may w R = denFun ctx (bodyOf Tryz.f106) Tryz.f106.results.toList [Value.slice lA lN lC, Value.int .i64 most, may] w R := by kernel_rfl
theorem vc106_calls (lA : Option Addr) (lN : Nat) (lC : Nat) (most : Int) (may : Value) (w : World) (R : Value → World → Prop) (h : vc106 lA lN lC most may w R) : Calls Tryz.prog 106 #[Value.slice lA lN lC, Value.int .i64 most, may] w fun e w' => ∃ v, e = .returned v ∧ R v w' :=
  calls_of_den ctxOk (f := 106) (fn := Tryz.f106) (body := bodyOf Tryz.f106) (args := [Value.slice lA lN lC, Value.int .i64 most, may]) (by kernel_rfl) (by kernel_rfl) (by kernel_rfl) (by kernel_rfl) (Eq.mp (vc106_eq lA lN lC most may w R) h)

/-! ### ligature/spec.thing: function 107 -/
def vc107 (s : ByteArray) (w : World) (R : Value → World → Prop) : Prop :=
  Calls Tryz.prog 143 #[Value.int .i64 ((s : ByteArray).size : Int), Value.int .i64 2, Value.int .i64 64] w (fun e1 w1 =>
  ∃ b : Bool, e1 = .returned (Value.bool b) ∧
  R (Value.bool b) w1)
theorem vc107_eq (s : ByteArray) (w : World) (R : Value → World → Prop) : vc107 s w R = denFun ctx (bodyOf Tryz.f107) Tryz.f107.results.toList [Value.string s] w R := by kernel_rfl
theorem vc107_calls (s : ByteArray) (w : World) (R : Value → World → Prop) (h : vc107 s w R) : Calls Tryz.prog 107 #[Value.string s] w fun e w' => ∃ v, e = .returned v ∧ R v w' :=
  calls_of_den ctxOk (f := 107) (fn := Tryz.f107) (body := bodyOf Tryz.f107) (args := [Value.string s]) (by kernel_rfl) (by kernel_rfl) (by kernel_rfl) (by kernel_rfl) (Eq.mp (vc107_eq s w R) h)

/-! ### ligature/spec.all[ligature/api.Special]: function 108 -/
def vc108 (lA : Option Addr) (lN : Nat) (lC : Nat) (most : Int) (may : Value) (w : World) (R : Value → World → Prop) : Prop :=
  ∀ w1 : World, w1 = w.alloc (.cells (Value.cells may) 174) →
  CondP (decide ((((lN : Nat) : Int) : Int) ≤ most))
    (Calls Tryz.prog 146 #[Value.slice lA lN lC, Value.func (.func 147) #[] #[Value.pointer (some (nb w))]] w1 (fun e2 w2 =>
     ∃ b : Bool, e2 = .returned (Value.bool b) ∧
     R (Value.bool (!b)) w2))
    (R (Value.bool false) w1)
theorem vc108_eq (lA : Option Addr) (lN : Nat) (lC : Nat) (most : Int) (may : Value) (w : World) (R : Value → World → Prop) : vc108 lA lN lC most may w R = denFun ctx (bodyOf Tryz.f108) Tryz.f108.results.toList [Value.slice lA lN lC, Value.int .i64 most, may] w R := by kernel_rfl
theorem vc108_calls (lA : Option Addr) (lN : Nat) (lC : Nat) (most : Int) (may : Value) (w : World) (R : Value → World → Prop) (h : vc108 lA lN lC most may w R) : Calls Tryz.prog 108 #[Value.slice lA lN lC, Value.int .i64 most, may] w fun e w' => ∃ v, e = .returned v ∧ R v w' :=
  calls_of_den ctxOk (f := 108) (fn := Tryz.f108) (body := bodyOf Tryz.f108) (args := [Value.slice lA lN lC, Value.int .i64 most, may]) (by kernel_rfl) (by kernel_rfl) (by kernel_rfl) (by kernel_rfl) (Eq.mp (vc108_eq lA lN lC most may w R) h)

/-! ### ligature/spec.special: function 109 -/
def vc109 (s0 : Int) (s1 : ByteArray) (w : World) (R : Value → World → Prop) : Prop :=
  ∀ w1 : World, w1 = w.alloc (.cells #[Value.int .i64 s0, Value.string s1] 93) →
  ∃ n : Int, w1.cell? ((nb w).add 0) = some (Value.int .i64 n) ∧
  Calls Tryz.prog 143 #[Value.int .i64 n, Value.int .i64 0, Value.int .i64 1073741824] w1 (fun e2 w2 =>
  ∃ b : Bool, e2 = .returned (Value.bool b) ∧
  CondP b
    (∃ s : ByteArray, w2.cell? ((nb w).add 1) = some (Value.string s) ∧
     Calls Tryz.prog 143 #[Value.int .i64 ((s : ByteArray).size : Int), Value.int .i64 1, Value.int .i64 64] w2 (fun e3 w3 =>
     ∃ b_1 : Bool, e3 = .returned (Value.bool b_1) ∧
     R (Value.bool b_1) w3))
    (R (Value.bool false) w2))
theorem vc109_eq (s0 : Int) (s1 : ByteArray) (w : World) (R : Value → World → Prop) : vc109 s0 s1 w R = denFun ctx (bodyOf Tryz.f109) Tryz.f109.results.toList [Value.agg #[Value.int .i64 s0, Value.string s1]] w R := by kernel_rfl
theorem vc109_calls (s0 : Int) (s1 : ByteArray) (w : World) (R : Value → World → Prop) (h : vc109 s0 s1 w R) : Calls Tryz.prog 109 #[Value.agg #[Value.int .i64 s0, Value.string s1]] w fun e w' => ∃ v, e = .returned v ∧ R v w' :=
  calls_of_den ctxOk (f := 109) (fn := Tryz.f109) (body := bodyOf Tryz.f109) (args := [Value.agg #[Value.int .i64 s0, Value.string s1]]) (by kernel_rfl) (by kernel_rfl) (by kernel_rfl) (by kernel_rfl) (Eq.mp (vc109_eq s0 s1 w R) h)

/-! ### ligature/spec.all[ligature/api.Class]: function 110 -/
def vc110 (lA : Option Addr) (lN : Nat) (lC : Nat) (most : Int) (may : Value) (w : World) (R : Value → World → Prop) : Prop :=
  ∀ w1 : World, w1 = w.alloc (.cells (Value.cells may) 176) →
  CondP (decide ((((lN : Nat) : Int) : Int) ≤ most))
    (Calls Tryz.prog 148 #[Value.slice lA lN lC, Value.func (.func 149) #[] #[Value.pointer (some (nb w))]] w1 (fun e2 w2 =>
     ∃ b : Bool, e2 = .returned (Value.bool b) ∧
     R (Value.bool (!b)) w2))
    (R (Value.bool false) w1)
theorem vc110_eq (lA : Option Addr) (lN : Nat) (lC : Nat) (most : Int) (may : Value) (w : World) (R : Value → World → Prop) : vc110 lA lN lC most may w R = denFun ctx (bodyOf Tryz.f110) Tryz.f110.results.toList [Value.slice lA lN lC, Value.int .i64 most, may] w R := by kernel_rfl
theorem vc110_calls (lA : Option Addr) (lN : Nat) (lC : Nat) (most : Int) (may : Value) (w : World) (R : Value → World → Prop) (h : vc110 lA lN lC most may w R) : Calls Tryz.prog 110 #[Value.slice lA lN lC, Value.int .i64 most, may] w fun e w' => ∃ v, e = .returned v ∧ R v w' :=
  calls_of_den ctxOk (f := 110) (fn := Tryz.f110) (body := bodyOf Tryz.f110) (args := [Value.slice lA lN lC, Value.int .i64 most, may]) (by kernel_rfl) (by kernel_rfl) (by kernel_rfl) (by kernel_rfl) (Eq.mp (vc110_eq lA lN lC most may w R) h)

/-! ### ligature/spec.class: function 111 -/
def vc111 (c0 : Int) (c1 : Int) (c2 : Int) (w : World) (R : Value → World → Prop) : Prop :=
  ∀ w1 : World, w1 = w.alloc (.cells #[Value.int .i64 c0, Value.int .i64 c1, Value.int .i64 c2] 125) →
  ∃ n : Int, w1.cell? ((nb w).add 0) = some (Value.int .i64 n) ∧
  ∃ n_1 : Int, w1.cell? ((nb w).add 1) = some (Value.int .i64 n_1) ∧
  Calls Tryz.prog 143 #[Value.int .i64 n, Value.int .i64 0, Value.int .i64 n_1] w1 (fun e2 w2 =>
  ∃ b : Bool, e2 = .returned (Value.bool b) ∧
  CondP b
    (∃ n_2 : Int, w2.cell? ((nb w).add 1) = some (Value.int .i64 n_2) ∧
     CondP (decide ((n_2 : Int) ≤ 255))
       (∃ n_3 : Int, w2.cell? ((nb w).add 2) = some (Value.int .i64 n_3) ∧
        Calls Tryz.prog 143 #[Value.int .i64 n_3, Value.int .i64 0, Value.int .i64 15] w2 (fun e3 w3 =>
        ∃ b_4 : Bool, e3 = .returned (Value.bool b_4) ∧
        R (Value.bool b_4) w3))
       (R (Value.bool false) w2))
    (R (Value.bool false) w2))
theorem vc111_eq (c0 : Int) (c1 : Int) (c2 : Int) (w : World) (R : Value → World → Prop) : vc111 c0 c1 c2 w R = denFun ctx (bodyOf Tryz.f111) Tryz.f111.results.toList [Value.agg #[Value.int .i64 c0, Value.int .i64 c1, Value.int .i64 c2]] w R := by kernel_rfl
theorem vc111_calls (c0 : Int) (c1 : Int) (c2 : Int) (w : World) (R : Value → World → Prop) (h : vc111 c0 c1 c2 w R) : Calls Tryz.prog 111 #[Value.agg #[Value.int .i64 c0, Value.int .i64 c1, Value.int .i64 c2]] w fun e w' => ∃ v, e = .returned v ∧ R v w' :=
  calls_of_den ctxOk (f := 111) (fn := Tryz.f111) (body := bodyOf Tryz.f111) (args := [Value.agg #[Value.int .i64 c0, Value.int .i64 c1, Value.int .i64 c2]]) (by kernel_rfl) (by kernel_rfl) (by kernel_rfl) (by kernel_rfl) (Eq.mp (vc111_eq c0 c1 c2 w R) h)

/-! ### ligature/spec.all[ligature/api.Join]: function 112 -/
def vc112 (lA : Option Addr) (lN : Nat) (lC : Nat) (most : Int) (may : Value) (w : World) (R : Value → World → Prop) : Prop :=
  ∀ w1 : World, w1 = w.alloc (.cells (Value.cells may) 178) →
  CondP (decide ((((lN : Nat) : Int) : Int) ≤ most))
    (Calls Tryz.prog 150 #[Value.slice lA lN lC, Value.func (.func 151) #[] #[Value.pointer (some (nb w))]] w1 (fun e2 w2 =>
     ∃ b : Bool, e2 = .returned (Value.bool b) ∧
     R (Value.bool (!b)) w2))
    (R (Value.bool false) w1)
theorem vc112_eq (lA : Option Addr) (lN : Nat) (lC : Nat) (most : Int) (may : Value) (w : World) (R : Value → World → Prop) : vc112 lA lN lC most may w R = denFun ctx (bodyOf Tryz.f112) Tryz.f112.results.toList [Value.slice lA lN lC, Value.int .i64 most, may] w R := by kernel_rfl
theorem vc112_calls (lA : Option Addr) (lN : Nat) (lC : Nat) (most : Int) (may : Value) (w : World) (R : Value → World → Prop) (h : vc112 lA lN lC most may w R) : Calls Tryz.prog 112 #[Value.slice lA lN lC, Value.int .i64 most, may] w fun e w' => ∃ v, e = .returned v ∧ R v w' :=
  calls_of_den ctxOk (f := 112) (fn := Tryz.f112) (body := bodyOf Tryz.f112) (args := [Value.slice lA lN lC, Value.int .i64 most, may]) (by kernel_rfl) (by kernel_rfl) (by kernel_rfl) (by kernel_rfl) (Eq.mp (vc112_eq lA lN lC most may w R) h)

/-! ### ligature/spec.join: function 113 -/
def vc113 (j0 : Int) (j1 : Int) (w : World) (R : Value → World → Prop) : Prop :=
  ∀ w1 : World, w1 = w.alloc (.cells #[Value.int .i64 j0, Value.int .i64 j1] 126) →
  ∃ n : Int, w1.cell? ((nb w).add 0) = some (Value.int .i64 n) ∧
  Calls Tryz.prog 143 #[Value.int .i64 n, Value.int .i64 0, Value.int .i64 15] w1 (fun e2 w2 =>
  ∃ b : Bool, e2 = .returned (Value.bool b) ∧
  CondP b
    (∃ n_1 : Int, w2.cell? ((nb w).add 1) = some (Value.int .i64 n_1) ∧
     Calls Tryz.prog 143 #[Value.int .i64 n_1, Value.int .i64 0, Value.int .i64 15] w2 (fun e3 w3 =>
     ∃ b_2 : Bool, e3 = .returned (Value.bool b_2) ∧
     R (Value.bool b_2) w3))
    (R (Value.bool false) w2))
theorem vc113_eq (j0 : Int) (j1 : Int) (w : World) (R : Value → World → Prop) : vc113 j0 j1 w R = denFun ctx (bodyOf Tryz.f113) Tryz.f113.results.toList [Value.agg #[Value.int .i64 j0, Value.int .i64 j1]] w R := by kernel_rfl
theorem vc113_calls (j0 : Int) (j1 : Int) (w : World) (R : Value → World → Prop) (h : vc113 j0 j1 w R) : Calls Tryz.prog 113 #[Value.agg #[Value.int .i64 j0, Value.int .i64 j1]] w fun e w' => ∃ v, e = .returned v ∧ R v w' :=
  calls_of_den ctxOk (f := 113) (fn := Tryz.f113) (body := bodyOf Tryz.f113) (args := [Value.agg #[Value.int .i64 j0, Value.int .i64 j1]]) (by kernel_rfl) (by kernel_rfl) (by kernel_rfl) (by kernel_rfl) (Eq.mp (vc113_eq j0 j1 w R) h)

/-! ### ligature/grow.Load: function 114 -/
def vc114 (s0 : Bool) (s1A : Option Addr) (s1N : Nat) (s1C : Nat) (s2A : Option Addr) (s2N : Nat) (s2C : Nat) (s3A : Option Addr) (s3N : Nat) (s3C : Nat) (s4A : Option Addr) (s4N : Nat) (s4C : Nat) (s5A : Option Addr) (s5N : Nat) (s5C : Nat) (w : World) (R : Value → World → Prop) : Prop :=
  ∀ w1 : World, w1 = w.alloc (.cells #[Value.bool s0, Value.slice s1A s1N s1C, Value.slice s2A s2N s2C, Value.slice s3A s3N s3C, Value.slice s4A s4N s4C, Value.slice s5A s5N s5C] 83) →
  ∃ b : Bool, w1.cell? ((nb w).add 0) = some (Value.bool b) ∧
  CondP b
    (∃ lA : Option Addr, ∃ lN : Nat, ∃ lC : Nat, w1.cell? ((nb w).add 2) = some (Value.slice lA lN lC) ∧
     Calls Tryz.prog 152 #[Value.slice lA lN lC] w1 (fun e2 w2 =>
     ∃ r0 : Option Addr, ∃ r1 : Int, ∃ r2 : Int, e2 = .returned (Value.tuple #[Value.pointer r0, Value.int .i64 r1, Value.int .i64 r2]) ∧
     R (Value.tuple #[Value.pointer r0, Value.int .i64 r1, Value.int .i64 r2]) w2))
    (∃ lA_1 : Option Addr, ∃ lN_2 : Nat, ∃ lC_3 : Nat, w1.cell? ((nb w).add 1) = some (Value.slice lA_1 lN_2 lC_3) ∧
     Calls Tryz.prog 153 #[Value.slice lA_1 lN_2 lC_3] w1 (fun e3 w3 =>
     ∃ r0_4 : Option Addr, ∃ r1_5 : Int, ∃ r2_6 : Int, e3 = .returned (Value.tuple #[Value.pointer r0_4, Value.int .i64 r1_5, Value.int .i64 r2_6]) ∧
     R (Value.tuple #[Value.pointer r0_4, Value.int .i64 r1_5, Value.int .i64 r2_6]) w3))
theorem vc114_eq (s0 : Bool) (s1A : Option Addr) (s1N : Nat) (s1C : Nat) (s2A : Option Addr) (s2N : Nat) (s2C : Nat) (s3A : Option Addr) (s3N : Nat) (s3C : Nat) (s4A : Option Addr) (s4N : Nat) (s4C : Nat) (s5A : Option Addr) (s5N : Nat) (s5C : Nat) (w : World) (R : Value → World → Prop) : vc114 s0 s1A s1N s1C s2A s2N s2C s3A s3N s3C s4A s4N s4C s5A s5N s5C w R = denFun ctx (bodyOf Tryz.f114) Tryz.f114.results.toList [Value.agg #[Value.bool s0, Value.slice s1A s1N s1C, Value.slice s2A s2N s2C, Value.slice s3A s3N s3C, Value.slice s4A s4N s4C, Value.slice s5A s5N s5C]] w R := by kernel_rfl
theorem vc114_calls (s0 : Bool) (s1A : Option Addr) (s1N : Nat) (s1C : Nat) (s2A : Option Addr) (s2N : Nat) (s2C : Nat) (s3A : Option Addr) (s3N : Nat) (s3C : Nat) (s4A : Option Addr) (s4N : Nat) (s4C : Nat) (s5A : Option Addr) (s5N : Nat) (s5C : Nat) (w : World) (R : Value → World → Prop) (h : vc114 s0 s1A s1N s1C s2A s2N s2C s3A s3N s3C s4A s4N s4C s5A s5N s5C w R) : Calls Tryz.prog 114 #[Value.agg #[Value.bool s0, Value.slice s1A s1N s1C, Value.slice s2A s2N s2C, Value.slice s3A s3N s3C, Value.slice s4A s4N s4C, Value.slice s5A s5N s5C]] w fun e w' => ∃ v, e = .returned v ∧ R v w' :=
  calls_of_den ctxOk (f := 114) (fn := Tryz.f114) (body := bodyOf Tryz.f114) (args := [Value.agg #[Value.bool s0, Value.slice s1A s1N s1C, Value.slice s2A s2N s2C, Value.slice s3A s3N s3C, Value.slice s4A s4N s4C, Value.slice s5A s5N s5C]]) (by kernel_rfl) (by kernel_rfl) (by kernel_rfl) (by kernel_rfl) (Eq.mp (vc114_eq s0 s1A s1N s1C s2A s2N s2C s3A s3N s3C s4A s4N s4C s5A s5N s5C w R) h)

/-! ### ligature/mark.New: function 115 -/
def vc115 (lA : Option Addr) (lN : Nat) (lC : Nat) (w : World) (R : Value → World → Prop) : Prop :=
  ∃ m : Option Nat, ∃ w1 : World, (Instr.makeMap 100 none).run Tryz.prog w = .ok (Value.map m) w1 ∧
  ∃ m_1 : Option Nat, ∃ w2 : World, (Instr.makeMap 168 none).run Tryz.prog w1 = .ok (Value.map m_1) w2 ∧
  ∀ w3 : World, w3 = w2.alloc (.cells (List.toArray ([Value.slice none 0 0, Value.map m, Value.map m_1] ++ List.replicate 256 (Value.bool false) ++ [Value.int .i64 0])) 196) →
  ∀ I2 : List Value → World → Prop, (∀ y15 : Int, ∀ y4 : Int, ∀ y3 : Int, ∀ y2 : Option Addr, ∀ w4 : World, (CondP (decide ((y15 : Int) < ((lN : Nat) : Int)))
      (NilC lA (fun pa =>
       (0 : Int) ≤ y15 ∧ y15 < ((lN : Nat) : Int) ∧
       ∃ g0 : Int, ∃ g1 : ByteArray, (w4.cell? (pa.add ((y15 : Int).toNat * 2)) = some (Value.int .i64 g0) ∧ w4.cell? ((pa.add ((y15 : Int).toNat * 2)).add 1) = some (Value.string g1) ∧ True) ∧
       ∀ w5 : World, w5 = w4.alloc (.cells #[Value.int .i64 0, Value.string ⟨#[]⟩] 93) →
       StoreP w5 (nb w4) (fun w6 =>
       ∃ g0_3 : Int, ∃ g1_4 : ByteArray, (w6.cell? (nb w4) = some (Value.int .i64 g0_3) ∧ w6.cell? ((nb w4).add 1) = some (Value.string g1_4) ∧ True) ∧
       Calls Tryz.prog 154 #[Value.pointer (some (nb w2)), Value.agg #[Value.int .i64 g0_3, Value.string g1_4]] w6 (fun e7 w7 =>
       ∃ n : Int, e7 = .returned (Value.int .i64 n) ∧
       CondP ((n : Int) != 0)
         (R (Value.tuple #[Value.pointer none, Value.int .i64 y15, Value.int .i64 n]) w7)
         (Ar .i64 ((y15 : Int) + 1) (fun n_5 =>
          I2 [Value.int .i64 n_5, Value.int .i64 y4, Value.int .i64 y3, Value.pointer y2] w7)))) [Value.int .i64 g0, Value.string g1] 0))
      (R (Value.tuple #[Value.pointer (some (nb w2)), Value.int .i64 ((lN : Nat) : Int), Value.int .i64 0]) w4)) → I2 [Value.int .i64 y15, Value.int .i64 y4, Value.int .i64 y3, Value.pointer y2] w4) →
  I2 [Value.int .i64 0, Value.int .i64 0, Value.int .i64 0, Value.pointer none] w3
theorem vc115_eq (lA : Option Addr) (lN : Nat) (lC : Nat) (w : World) (R : Value → World → Prop) : vc115 lA lN lC w R = denFun ctx (bodyOf Tryz.f115) Tryz.f115.results.toList [Value.slice lA lN lC] w R := by kernel_rfl
theorem vc115_calls (lA : Option Addr) (lN : Nat) (lC : Nat) (w : World) (R : Value → World → Prop) (h : vc115 lA lN lC w R) : Calls Tryz.prog 115 #[Value.slice lA lN lC] w fun e w' => ∃ v, e = .returned v ∧ R v w' :=
  calls_of_den ctxOk (f := 115) (fn := Tryz.f115) (body := bodyOf Tryz.f115) (args := [Value.slice lA lN lC]) (by kernel_rfl) (by kernel_rfl) (by kernel_rfl) (by kernel_rfl) (Eq.mp (vc115_eq lA lN lC w R) h)

/-! ### slices.IndexFunc[[]ligature/api.Special,ligature/api.Special]: function 116 -/
def vc116 (sA : Option Addr) (sN : Nat) (sC : Nat) (f : Value) (w : World) (R : Value → World → Prop) : Prop :=
  ∀ I1 : List Value → World → Prop, (∀ y8 : Int, ∀ y4 : Int, ∀ w1 : World, (CondP (decide ((y8 : Int) < ((sN : Nat) : Int)))
      (NilC sA (fun pa =>
       (0 : Int) ≤ y8 ∧ y8 < ((sN : Nat) : Int) ∧
       ∃ g0 : Int, ∃ g1 : ByteArray, (w1.cell? (pa.add ((y8 : Int).toNat * 2)) = some (Value.int .i64 g0) ∧ w1.cell? ((pa.add ((y8 : Int).toNat * 2)).add 1) = some (Value.string g1) ∧ True) ∧
       CallG ctx f [Value.agg #[Value.int .i64 g0, Value.string g1]] w1 (fun e2 w2 =>
       ∃ b : Bool, e2 = .returned (Value.bool b) ∧
       CondP b
         (R (Value.int .i64 y8) w2)
         (Ar .i64 ((y8 : Int) + 1) (fun n =>
          I1 [Value.int .i64 n, Value.int .i64 y4] w2)))))
      (R (Value.int .i64 (-1)) w1)) → I1 [Value.int .i64 y8, Value.int .i64 y4] w1) →
  I1 [Value.int .i64 0, Value.int .i64 0] w
theorem vc116_eq (sA : Option Addr) (sN : Nat) (sC : Nat) (f : Value) (w : World) (R : Value → World → Prop) : vc116 sA sN sC f w R = denFun ctx (bodyOf Tryz.f116) Tryz.f116.results.toList [Value.slice sA sN sC, f] w R := by kernel_rfl
theorem vc116_calls (sA : Option Addr) (sN : Nat) (sC : Nat) (f : Value) (w : World) (R : Value → World → Prop) (h : vc116 sA sN sC f w R) : Calls Tryz.prog 116 #[Value.slice sA sN sC, f] w fun e w' => ∃ v, e = .returned v ∧ R v w' :=
  calls_of_den ctxOk (f := 116) (fn := Tryz.f116) (body := bodyOf Tryz.f116) (args := [Value.slice sA sN sC, f]) (by kernel_rfl) (by kernel_rfl) (by kernel_rfl) (by kernel_rfl) (Eq.mp (vc116_eq sA sN sC f w R) h)

/-! ### ligature/vocab.build$1: function 117 -/
def vc117 (x0_ : Int) (x1_ : ByteArray) (c0 : Option Addr) (w : World) (R : Value → World → Prop) : Prop :=
  ∀ w1 : World, w1 = w.alloc (.cells #[Value.int .i64 x0_, Value.string x1_] 93) →
  ∀ w2 : World, w2 = w1.drew →
  ∃ n : Int, w2.cell? ((nb w).add 0) = some (Value.int .i64 n) ∧
  NilC c0 (fun pa =>
  ∃ p : Option Addr, w2.cell? pa = some (Value.pointer p) ∧
  Calls Tryz.prog 118 #[Value.pointer p] w2 (fun e3 w3 =>
  ∃ n_1 : Int, e3 = .returned (Value.int .i64 n_1) ∧
  (w3.cell? ((nb w).add 0) = some (Value.int .i64 n) ∧ True) ∧
  R (Value.bool (decide ((n : Int) < n_1))) w3))
theorem vc117_eq (x0_ : Int) (x1_ : ByteArray) (c0 : Option Addr) (w : World) (R : Value → World → Prop) : vc117 x0_ x1_ c0 w R = denFun ctx (bodyOf Tryz.f117) Tryz.f117.results.toList [Value.agg #[Value.int .i64 x0_, Value.string x1_], Value.pointer c0] w R := by kernel_rfl
theorem vc117_calls (x0_ : Int) (x1_ : ByteArray) (c0 : Option Addr) (w : World) (R : Value → World → Prop) (h : vc117 x0_ x1_ c0 w R) : Calls Tryz.prog 117 #[Value.agg #[Value.int .i64 x0_, Value.string x1_], Value.pointer c0] w fun e w' => ∃ v, e = .returned v ∧ R v w' :=
  calls_of_den ctxOk (f := 117) (fn := Tryz.f117) (body := bodyOf Tryz.f117) (args := [Value.agg #[Value.int .i64 x0_, Value.string x1_], Value.pointer c0]) (by kernel_rfl) (by kernel_rfl) (by kernel_rfl) (by kernel_rfl) (Eq.mp (vc117_eq x0_ x1_ c0 w R) h)

/-! ### (*ligature/token.Table).Len: function 118 -/
def vc118 (t : Option Addr) (w : World) (R : Value → World → Prop) : Prop :=
  CondP (Option.isNone t)
    (R (Value.int .i64 0) w)
    (NilC t (fun pa =>
     ∃ lA : Option Addr, ∃ lN : Nat, ∃ lC : Nat, w.cell? (pa.add 0) = some (Value.slice lA lN lC) ∧
     R (Value.int .i64 ((lN : Nat) : Int)) w))
theorem vc118_eq (t : Option Addr) (w : World) (R : Value → World → Prop) : vc118 t w R = denFun ctx (bodyOf Tryz.f118) Tryz.f118.results.toList [Value.pointer t] w R := by kernel_rfl
theorem vc118_calls (t : Option Addr) (w : World) (R : Value → World → Prop) (h : vc118 t w R) : Calls Tryz.prog 118 #[Value.pointer t] w fun e w' => ∃ v, e = .returned v ∧ R v w' :=
  calls_of_den ctxOk (f := 118) (fn := Tryz.f118) (body := bodyOf Tryz.f118) (args := [Value.pointer t]) (by kernel_rfl) (by kernel_rfl) (by kernel_rfl) (by kernel_rfl) (Eq.mp (vc118_eq t w R) h)

/-! ### ligature/bound.New: function 119 -/
def vc119 (lA : Option Addr) (lN : Nat) (lC : Nat) (joinsA : Option Addr) (joinsN : Nat) (joinsC : Nat) (w : World) (R : Value → World → Prop) : Prop :=
  ∀ w1 : World, w1 = w.alloc (.cells (List.toArray (List.replicate 256 (Value.int .i64 0) ++ List.replicate 256 (Value.bool false))) 229) →
  ∀ I1 : List Value → World → Prop, (∀ y16 : Int, ∀ y5 : Int, ∀ y4 : Option Addr, ∀ w2 : World, (CondP (decide ((y16 : Int) < ((lN : Nat) : Int)))
      (NilC lA (fun pa =>
       (0 : Int) ≤ y16 ∧ y16 < ((lN : Nat) : Int) ∧
       ∃ g0 : Int, ∃ g1 : Int, ∃ g2 : Int, (w2.cell? (pa.add ((y16 : Int).toNat * 3)) = some (Value.int .i64 g0) ∧ w2.cell? ((pa.add ((y16 : Int).toNat * 3)).add 1) = some (Value.int .i64 g1) ∧ w2.cell? ((pa.add ((y16 : Int).toNat * 3)).add 2) = some (Value.int .i64 g2) ∧ True) ∧
       ∀ w3 : World, w3 = w2.alloc (.cells #[Value.int .i64 0, Value.int .i64 0, Value.int .i64 0] 125) →
       StoreP w3 (nb w2) (fun w4 =>
       ∃ g0_2 : Int, ∃ g1_3 : Int, ∃ g2_4 : Int, (w4.cell? (nb w2) = some (Value.int .i64 g0_2) ∧ w4.cell? ((nb w2).add 1) = some (Value.int .i64 g1_3) ∧ w4.cell? ((nb w2).add 2) = some (Value.int .i64 g2_4) ∧ True) ∧
       Calls Tryz.prog 155 #[Value.agg #[Value.int .i64 g0_2, Value.int .i64 g1_3, Value.int .i64 g2_4]] w4 (fun e5 w5 =>
       ∃ b : Bool, e5 = .returned (Value.bool b) ∧
       CondP (!b)
         (R (Value.tuple #[Value.pointer none, Value.int .i64 1]) w5)
         (∃ n : Int, w5.cell? ((nb w2).add 0) = some (Value.int .i64 n) ∧
          ∀ I5 : List Value → World → Prop, (∀ b_6 : Int, ∀ w6 : World, (∃ n_7 : Int, w6.cell? ((nb w2).add 1) = some (Value.int .i64 n_7) ∧
            CondP (decide ((b_6 : Int) ≤ n_7))
              (∀ w7 : World, w7 = w6.drew →
               ∃ n_8 : Int, w7.cell? ((nb w2).add 2) = some (Value.int .i64 n_8) ∧
               (0 : Int) ≤ b_6 ∧ b_6 < ((256 : Nat) : Int) ∧
               (Value.int .i64 n_8).oneCell' = true ∧ (∃ u, w7.cell? (((nb w).add 0).add ((b_6 : Int).toNat * 1)) = some u) ∧ w7.frozen? (((nb w).add 0).add ((b_6 : Int).toNat * 1)) = false ∧
               ∀ w8 : World, w8 = (w7.setCell (((nb w).add 0).add ((b_6 : Int).toNat * 1)) (Value.int .i64 n_8)) →
               Ar .i64 ((b_6 : Int) + 1) (fun n_9 =>
               I5 [Value.int .i64 n_9] w8))
              (Ar .i64 ((y16 : Int) + 1) (fun n_10 =>
               I1 [Value.int .i64 n_10, Value.int .i64 y5, Value.pointer y4] w6))) → I5 [Value.int .i64 b_6] w6) →
          I5 [Value.int .i64 n] w5))) [Value.int .i64 g0, Value.int .i64 g1, Value.int .i64 g2] 0))
      (∀ I11 : List Value → World → Prop, (∀ y41 : Int, ∀ y5_12 : Int, ∀ y4_13 : Option Addr, ∀ w9 : World, (CondP (decide ((y41 : Int) < ((joinsN : Nat) : Int)))
           (NilC joinsA (fun pa_14 =>
            (0 : Int) ≤ y41 ∧ y41 < ((joinsN : Nat) : Int) ∧
            ∃ g0_15 : Int, ∃ g1_16 : Int, (w9.cell? (pa_14.add ((y41 : Int).toNat * 2)) = some (Value.int .i64 g0_15) ∧ w9.cell? ((pa_14.add ((y41 : Int).toNat * 2)).add 1) = some (Value.int .i64 g1_16) ∧ True) ∧
            ∀ w10 : World, w10 = w9.alloc (.cells #[Value.int .i64 0, Value.int .i64 0] 126) →
            StoreP w10 (nb w9) (fun w11 =>
            ∃ n_17 : Int, w11.cell? ((nb w9).add 0) = some (Value.int .i64 n_17) ∧
            Calls Tryz.prog 156 #[Value.int .i64 n_17] w11 (fun e12 w12 =>
            ∃ b_18 : Bool, e12 = .returned (Value.bool b_18) ∧
            CondP (!b_18)
              (R (Value.tuple #[Value.pointer none, Value.int .i64 1]) w12)
              (∃ n_19 : Int, w12.cell? ((nb w9).add 1) = some (Value.int .i64 n_19) ∧
               Calls Tryz.prog 156 #[Value.int .i64 n_19] w12 (fun e13 w13 =>
               ∃ b_20 : Bool, e13 = .returned (Value.bool b_20) ∧
               CondP (!b_20)
                 (R (Value.tuple #[Value.pointer none, Value.int .i64 1]) w13)
                 (∀ w14 : World, w14 = w13.drew →
                  ∃ n_21 : Int, w14.cell? ((nb w9).add 0) = some (Value.int .i64 n_21) ∧
                  ∃ n_22 : Int, w14.cell? ((nb w9).add 1) = some (Value.int .i64 n_22) ∧
                  (0 : Int) ≤ n_21 ∧ n_21 < ((16 : Nat) : Int) ∧
                  (0 : Int) ≤ n_22 ∧ n_22 < ((16 : Nat) : Int) ∧
                  (Value.bool true).oneCell' = true ∧ (∃ u, w14.cell? ((((nb w).add 256).add ((n_21 : Int).toNat * 16)).add ((n_22 : Int).toNat * 1)) = some u) ∧ w14.frozen? ((((nb w).add 256).add ((n_21 : Int).toNat * 16)).add ((n_22 : Int).toNat * 1)) = false ∧
                  ∀ w15 : World, w15 = (w14.setCell ((((nb w).add 256).add ((n_21 : Int).toNat * 16)).add ((n_22 : Int).toNat * 1)) (Value.bool true)) →
                  Ar .i64 ((y41 : Int) + 1) (fun n_23 =>
                  I11 [Value.int .i64 n_23, Value.int .i64 y5_12, Value.pointer y4_13] w15)))))) [Value.int .i64 g0_15, Value.int .i64 g1_16] 0))
           (R (Value.tuple #[Value.pointer (some (nb w)), Value.int .i64 0]) w9)) → I11 [Value.int .i64 y41, Value.int .i64 y5_12, Value.pointer y4_13] w9) →
       I11 [Value.int .i64 0, Value.int .i64 y5, Value.pointer y4] w2)) → I1 [Value.int .i64 y16, Value.int .i64 y5, Value.pointer y4] w2) →
  I1 [Value.int .i64 0, Value.int .i64 0, Value.pointer none] w1
theorem vc119_eq (lA : Option Addr) (lN : Nat) (lC : Nat) (joinsA : Option Addr) (joinsN : Nat) (joinsC : Nat) (w : World) (R : Value → World → Prop) : vc119 lA lN lC joinsA joinsN joinsC w R = denFun ctx (bodyOf Tryz.f119) Tryz.f119.results.toList [Value.slice lA lN lC, Value.slice joinsA joinsN joinsC] w R := by kernel_rfl
theorem vc119_calls (lA : Option Addr) (lN : Nat) (lC : Nat) (joinsA : Option Addr) (joinsN : Nat) (joinsC : Nat) (w : World) (R : Value → World → Prop) (h : vc119 lA lN lC joinsA joinsN joinsC w R) : Calls Tryz.prog 119 #[Value.slice lA lN lC, Value.slice joinsA joinsN joinsC] w fun e w' => ∃ v, e = .returned v ∧ R v w' :=
  calls_of_den ctxOk (f := 119) (fn := Tryz.f119) (body := bodyOf Tryz.f119) (args := [Value.slice lA lN lC, Value.slice joinsA joinsN joinsC]) (by kernel_rfl) (by kernel_rfl) (by kernel_rfl) (by kernel_rfl) (Eq.mp (vc119_eq lA lN lC joinsA joinsN joinsC w R) h)

/-! ### ligature/vocab.copied: function 120 -/
def vc120 (s0 : Bool) (s1A : Option Addr) (s1N : Nat) (s1C : Nat) (s2A : Option Addr) (s2N : Nat) (s2C : Nat) (s3A : Option Addr) (s3N : Nat) (s3C : Nat) (s4A : Option Addr) (s4N : Nat) (s4C : Nat) (s5A : Option Addr) (s5N : Nat) (s5C : Nat) (w : World) (R : Value → World → Prop) : Prop :=
  ∀ w1 : World, w1 = w.alloc (.cells #[Value.bool s0, Value.slice s1A s1N s1C, Value.slice s2A s2N s2C, Value.slice s3A s3N s3C, Value.slice s4A s4N s4C, Value.slice s5A s5N s5C] 83) →
  ∀ w2 : World, w2 = w1.alloc (.cells #[Value.bool false, Value.slice none 0 0, Value.slice none 0 0, Value.slice none 0 0, Value.slice none 0 0, Value.slice none 0 0] 83) →
  ∀ w3 : World, w3 = w2.drew →
  ∃ lA : Option Addr, ∃ lN : Nat, ∃ lC : Nat, w3.cell? ((nb w).add 1) = some (Value.slice lA lN lC) ∧
  ∃ lA_1 : Option Addr, ∃ lN_2 : Nat, ∃ lC_3 : Nat, w3.cell? ((nb w).add 2) = some (Value.slice lA_1 lN_2 lC_3) ∧
  ∃ lA_4 : Option Addr, ∃ lN_5 : Nat, ∃ lC_6 : Nat, w3.cell? ((nb w).add 3) = some (Value.slice lA_4 lN_5 lC_6) ∧
  Calls Tryz.prog 157 #[Value.slice lA lN lC] w3 (fun e4 w4 =>
  ∃ lA_7 : Option Addr, ∃ lN_8 : Nat, ∃ lC_9 : Nat, e4 = .returned (Value.slice lA_7 lN_8 lC_9) ∧
  (w4.cell? ((nb w).add 3) = some (Value.slice lA_4 lN_5 lC_6) ∧ True) ∧
  (w4.cell? ((nb w).add 2) = some (Value.slice lA_1 lN_2 lC_3) ∧ True) ∧
  Calls Tryz.prog 158 #[Value.slice lA_1 lN_2 lC_3] w4 (fun e5 w5 =>
  ∃ lA_10 : Option Addr, ∃ lN_11 : Nat, ∃ lC_12 : Nat, e5 = .returned (Value.slice lA_10 lN_11 lC_12) ∧
  (w5.cell? ((nb w).add 3) = some (Value.slice lA_4 lN_5 lC_6) ∧ True) ∧
  Calls Tryz.prog 128 #[Value.slice lA_4 lN_5 lC_6] w5 (fun e6 w6 =>
  ∃ lA_13 : Option Addr, ∃ lN_14 : Nat, ∃ lC_15 : Nat, e6 = .returned (Value.slice lA_13 lN_14 lC_15) ∧
  (Value.slice lA_7 lN_8 lC_9).oneCell' = true ∧ (∃ u, w6.cell? ((nb w).add 1) = some u) ∧ w6.frozen? ((nb w).add 1) = false ∧
  ∀ w7 : World, w7 = (w6.setCell ((nb w).add 1) (Value.slice lA_7 lN_8 lC_9)) →
  (Value.slice lA_10 lN_11 lC_12).oneCell' = true ∧ (∃ u, w7.cell? ((nb w).add 2) = some u) ∧ w7.frozen? ((nb w).add 2) = false ∧
  ∀ w8 : World, w8 = (w7.setCell ((nb w).add 2) (Value.slice lA_10 lN_11 lC_12)) →
  (Value.slice lA_13 lN_14 lC_15).oneCell' = true ∧ (∃ u, w8.cell? ((nb w).add 3) = some u) ∧ w8.frozen? ((nb w).add 3) = false ∧
  ∀ w9 : World, w9 = (w8.setCell ((nb w).add 3) (Value.slice lA_13 lN_14 lC_15)) →
  ∀ w10 : World, w10 = w9.drew →
  ∃ lA_16 : Option Addr, ∃ lN_17 : Nat, ∃ lC_18 : Nat, w10.cell? ((nb w).add 4) = some (Value.slice lA_16 lN_17 lC_18) ∧
  ∃ lA_19 : Option Addr, ∃ lN_20 : Nat, ∃ lC_21 : Nat, w10.cell? ((nb w).add 5) = some (Value.slice lA_19 lN_20 lC_21) ∧
  Calls Tryz.prog 159 #[Value.slice lA_16 lN_17 lC_18] w10 (fun e11 w11 =>
  ∃ lA_22 : Option Addr, ∃ lN_23 : Nat, ∃ lC_24 : Nat, e11 = .returned (Value.slice lA_22 lN_23 lC_24) ∧
  (w11.cell? ((nb w).add 5) = some (Value.slice lA_19 lN_20 lC_21) ∧ True) ∧
  Calls Tryz.prog 160 #[Value.slice lA_19 lN_20 lC_21] w11 (fun e12 w12 =>
  ∃ lA_25 : Option Addr, ∃ lN_26 : Nat, ∃ lC_27 : Nat, e12 = .returned (Value.slice lA_25 lN_26 lC_27) ∧
  (Value.slice lA_22 lN_23 lC_24).oneCell' = true ∧ (∃ u, w12.cell? ((nb w).add 4) = some u) ∧ w12.frozen? ((nb w).add 4) = false ∧
  ∀ w13 : World, w13 = (w12.setCell ((nb w).add 4) (Value.slice lA_22 lN_23 lC_24)) →
  (Value.slice lA_25 lN_26 lC_27).oneCell' = true ∧ (∃ u, w13.cell? ((nb w).add 5) = some u) ∧ w13.frozen? ((nb w).add 5) = false ∧
  ∀ w14 : World, w14 = (w13.setCell ((nb w).add 5) (Value.slice lA_25 lN_26 lC_27)) →
  ∃ g0 : Bool, ∃ g1A : Option Addr, ∃ g1N : Nat, ∃ g1C : Nat, ∃ g2A : Option Addr, ∃ g2N : Nat, ∃ g2C : Nat, ∃ g3A : Option Addr, ∃ g3N : Nat, ∃ g3C : Nat, ∃ g4A : Option Addr, ∃ g4N : Nat, ∃ g4C : Nat, ∃ g5A : Option Addr, ∃ g5N : Nat, ∃ g5C : Nat, (w14.cell? (nb w) = some (Value.bool g0) ∧ w14.cell? ((nb w).add 1) = some (Value.slice g1A g1N g1C) ∧ w14.cell? ((nb w).add 2) = some (Value.slice g2A g2N g2C) ∧ w14.cell? ((nb w).add 3) = some (Value.slice g3A g3N g3C) ∧ w14.cell? ((nb w).add 4) = some (Value.slice g4A g4N g4C) ∧ w14.cell? ((nb w).add 5) = some (Value.slice g5A g5N g5C) ∧ True) ∧
  StoreP w14 (nb w1) (fun w15 =>
  ∃ res0 : Bool, ∃ res1A : Option Addr, ∃ res1N : Nat, ∃ res1C : Nat, ∃ res2A : Option Addr, ∃ res2N : Nat, ∃ res2C : Nat, ∃ res3A : Option Addr, ∃ res3N : Nat, ∃ res3C : Nat, ∃ res4A : Option Addr, ∃ res4N : Nat, ∃ res4C : Nat, ∃ res5A : Option Addr, ∃ res5N : Nat, ∃ res5C : Nat, (w15.cell? (nb w1) = some (Value.bool res0) ∧ w15.cell? ((nb w1).add 1) = some (Value.slice res1A res1N res1C) ∧ w15.cell? ((nb w1).add 2) = some (Value.slice res2A res2N res2C) ∧ w15.cell? ((nb w1).add 3) = some (Value.slice res3A res3N res3C) ∧ w15.cell? ((nb w1).add 4) = some (Value.slice res4A res4N res4C) ∧ w15.cell? ((nb w1).add 5) = some (Value.slice res5A res5N res5C) ∧ True) ∧
  R (Value.agg #[Value.bool res0, Value.slice res1A res1N res1C, Value.slice res2A res2N res2C, Value.slice res3A res3N res3C, Value.slice res4A res4N res4C, Value.slice res5A res5N res5C]) w15) [Value.bool g0, Value.slice g1A g1N g1C, Value.slice g2A g2N g2C, Value.slice g3A g3N g3C, Value.slice g4A g4N g4C, Value.slice g5A g5N g5C] 0)))))
theorem vc120_eq (s0 : Bool) (s1A : Option Addr) (s1N : Nat) (s1C : Nat) (s2A : Option Addr) (s2N : Nat) (s2C : Nat) (s3A : Option Addr) (s3N : Nat) (s3C : Nat) (s4A : Option Addr) (s4N : Nat) (s4C : Nat) (s5A : Option Addr) (s5N : Nat) (s5C : Nat) (w : World) (R : Value → World → Prop) : vc120 s0 s1A s1N s1C s2A s2N s2C s3A s3N s3C s4A s4N s4C s5A s5N s5C w R = denFun ctx (bodyOf Tryz.f120) Tryz.f120.results.toList [Value.agg #[Value.bool s0, Value.slice s1A s1N s1C, Value.slice s2A s2N s2C, Value.slice s3A s3N s3C, Value.slice s4A s4N s4C, Value.slice s5A s5N s5C]] w R := by kernel_rfl
theorem vc120_calls (s0 : Bool) (s1A : Option Addr) (s1N : Nat) (s1C : Nat) (s2A : Option Addr) (s2N : Nat) (s2C : Nat) (s3A : Option Addr) (s3N : Nat) (s3C : Nat) (s4A : Option Addr) (s4N : Nat) (s4C : Nat) (s5A : Option Addr) (s5N : Nat) (s5C : Nat) (w : World) (R : Value → World → Prop) (h : vc120 s0 s1A s1N s1C s2A s2N s2C s3A s3N s3C s4A s4N s4C s5A s5N s5C w R) : Calls Tryz.prog 120 #[Value.agg #[Value.bool s0, Value.slice s1A s1N s1C, Value.slice s2A s2N s2C, Value.slice s3A s3N s3C, Value.slice s4A s4N s4C, Value.slice s5A s5N s5C]] w fun e w' => ∃ v, e = .returned v ∧ R v w' :=
  calls_of_den ctxOk (f := 120) (fn := Tryz.f120) (body := bodyOf Tryz.f120) (args := [Value.agg #[Value.bool s0, Value.slice s1A s1N s1C, Value.slice s2A s2N s2C, Value.slice s3A s3N s3C, Value.slice s4A s4N s4C, Value.slice s5A s5N s5C]]) (by kernel_rfl) (by kernel_rfl) (by kernel_rfl) (by kernel_rfl) (Eq.mp (vc120_eq s0 s1A s1N s1C s2A s2N s2C s3A s3N s3C s4A s4N s4C s5A s5N s5C w R) h)

/-! ### ligature/canon.ready$1: function 124 -/
def vc124 (id : Int) (c0 : Option Addr) (w : World) (R : Value → World → Prop) : Prop :=
  NilC c0 (fun pa =>
  ∃ p : Option Addr, w.cell? pa = some (Value.pointer p) ∧
  Calls Tryz.prog 62 #[Value.pointer p, Value.int .i64 id] w (fun e1 w1 =>
  ∃ b : Bool, e1 = .returned (Value.bool b) ∧
  R (Value.bool (!b)) w1))
theorem vc124_eq (id : Int) (c0 : Option Addr) (w : World) (R : Value → World → Prop) : vc124 id c0 w R = denFun ctx (bodyOf Tryz.f124) Tryz.f124.results.toList [Value.int .i64 id, Value.pointer c0] w R := by kernel_rfl
theorem vc124_calls (id : Int) (c0 : Option Addr) (w : World) (R : Value → World → Prop) (h : vc124 id c0 w R) : Calls Tryz.prog 124 #[Value.int .i64 id, Value.pointer c0] w fun e w' => ∃ v, e = .returned v ∧ R v w' :=
  calls_of_den ctxOk (f := 124) (fn := Tryz.f124) (body := bodyOf Tryz.f124) (args := [Value.int .i64 id, Value.pointer c0]) (by kernel_rfl) (by kernel_rfl) (by kernel_rfl) (by kernel_rfl) (Eq.mp (vc124_eq id c0 w R) h)

/-! ### ligature/mark.item: function 126 -/
def vc126 (i : Int) (w : World) (R : Value → World → Prop) : Prop :=
  Ar .i64 ((-1 : Int) - i) (fun n =>
  R (Value.int .i64 n) w)
theorem vc126_eq (i : Int) (w : World) (R : Value → World → Prop) : vc126 i w R = denFun ctx (bodyOf Tryz.f126) Tryz.f126.results.toList [Value.int .i64 i] w R := by kernel_rfl
theorem vc126_calls (i : Int) (w : World) (R : Value → World → Prop) (h : vc126 i w R) : Calls Tryz.prog 126 #[Value.int .i64 i] w fun e w' => ∃ v, e = .returned v ∧ R v w' :=
  calls_of_den ctxOk (f := 126) (fn := Tryz.f126) (body := bodyOf Tryz.f126) (args := [Value.int .i64 i]) (by kernel_rfl) (by kernel_rfl) (by kernel_rfl) (by kernel_rfl) (Eq.mp (vc126_eq i w R) h)

/-! ### (*ligature/vocab.Vocab).Table: function 127 -/
def vc127 (v_ : Option Addr) (w : World) (R : Value → World → Prop) : Prop :=
  CondP (Option.isNone v_)
    (R (Value.pointer none) w)
    (NilC v_ (fun pa =>
     ∃ p : Option Addr, w.cell? ((pa.add 0).add 6) = some (Value.pointer p) ∧
     R (Value.pointer p) w))
theorem vc127_eq (v_ : Option Addr) (w : World) (R : Value → World → Prop) : vc127 v_ w R = denFun ctx (bodyOf Tryz.f127) Tryz.f127.results.toList [Value.pointer v_] w R := by kernel_rfl
theorem vc127_calls (v_ : Option Addr) (w : World) (R : Value → World → Prop) (h : vc127 v_ w R) : Calls Tryz.prog 127 #[Value.pointer v_] w fun e w' => ∃ v, e = .returned v ∧ R v w' :=
  calls_of_den ctxOk (f := 127) (fn := Tryz.f127) (body := bodyOf Tryz.f127) (args := [Value.pointer v_]) (by kernel_rfl) (by kernel_rfl) (by kernel_rfl) (by kernel_rfl) (Eq.mp (vc127_eq v_ w R) h)

/-! ### slices.Clone[[]ligature/api.Special,ligature/api.Special]: function 128 -/
def vc128 (sA : Option Addr) (sN : Nat) (sC : Nat) (w : World) (R : Value → World → Prop) : Prop :=
  CondP (Option.isNone sA)
    (R (Value.slice none 0 0) w)
    (∀ w1 : World, w1 = w.alloc (.cells #[] 93) →
     ∃ lA : Option Addr, ∃ lN : Nat, ∃ lC : Nat, ∃ w2 : World, (Builtin.append_ #[25, 25] 25 #[Value.slice (some (nb w)) 0 0, Value.slice sA sN sC]).run Tryz.prog w1 = .ok (Value.slice lA lN lC) w2 ∧
     R (Value.slice lA lN lC) w2)
theorem vc128_eq (sA : Option Addr) (sN : Nat) (sC : Nat) (w : World) (R : Value → World → Prop) : vc128 sA sN sC w R = denFun ctx (bodyOf Tryz.f128) Tryz.f128.results.toList [Value.slice sA sN sC] w R := by kernel_rfl
theorem vc128_calls (sA : Option Addr) (sN : Nat) (sC : Nat) (w : World) (R : Value → World → Prop) (h : vc128 sA sN sC w R) : Calls Tryz.prog 128 #[Value.slice sA sN sC] w fun e w' => ∃ v, e = .returned v ∧ R v w' :=
  calls_of_den ctxOk (f := 128) (fn := Tryz.f128) (body := bodyOf Tryz.f128) (args := [Value.slice sA sN sC]) (by kernel_rfl) (by kernel_rfl) (by kernel_rfl) (by kernel_rfl) (Eq.mp (vc128_eq sA sN sC w R) h)

/-! ### (*ligature/token.Table).Bytes: function 134 -/
def vc134 (t : Option Addr) (id : Int) (w : World) (R : Value → World → Prop) : Prop :=
  Calls Tryz.prog 179 #[Value.pointer t, Value.int .i64 id] w (fun e1 w1 =>
  ∃ b : Bool, e1 = .returned (Value.bool b) ∧
  CondP (!b)
    (R (Value.tuple #[Value.string ⟨#[]⟩, Value.bool false]) w1)
    (NilC t (fun pa =>
     ∃ lA : Option Addr, ∃ lN : Nat, ∃ lC : Nat, w1.cell? (pa.add 0) = some (Value.slice lA lN lC) ∧
     NilC lA (fun pa_1 =>
     (0 : Int) ≤ id ∧ id < ((lN : Nat) : Int) ∧
     ∃ s : ByteArray, w1.cell? ((pa_1.add ((id : Int).toNat * 3)).add 0) = some (Value.string s) ∧
     R (Value.tuple #[Value.string s, Value.bool true]) w1))))
theorem vc134_eq (t : Option Addr) (id : Int) (w : World) (R : Value → World → Prop) : vc134 t id w R = denFun ctx (bodyOf Tryz.f134) Tryz.f134.results.toList [Value.pointer t, Value.int .i64 id] w R := by kernel_rfl
theorem vc134_calls (t : Option Addr) (id : Int) (w : World) (R : Value → World → Prop) (h : vc134 t id w R) : Calls Tryz.prog 134 #[Value.pointer t, Value.int .i64 id] w fun e w' => ∃ v, e = .returned v ∧ R v w' :=
  calls_of_den ctxOk (f := 134) (fn := Tryz.f134) (body := bodyOf Tryz.f134) (args := [Value.pointer t, Value.int .i64 id]) (by kernel_rfl) (by kernel_rfl) (by kernel_rfl) (by kernel_rfl) (Eq.mp (vc134_eq t id w R) h)

/-! ### ligature/chain.Encode: function 135 -/
def vc135 (t : Option Addr) (s : ByteArray) (w : World) (R : Value → World → Prop) : Prop :=
  Calls Tryz.prog 118 #[Value.pointer t] w (fun e1 w1 =>
  ∃ n : Int, e1 = .returned (Value.int .i64 n) ∧
  Calls Tryz.prog 180 #[Value.pointer t, Value.string s, Value.int .i64 n] w1 (fun e2 w2 =>
  ∃ lA : Option Addr, ∃ lN : Nat, ∃ lC : Nat, e2 = .returned (Value.slice lA lN lC) ∧
  R (Value.slice lA lN lC) w2))
theorem vc135_eq (t : Option Addr) (s : ByteArray) (w : World) (R : Value → World → Prop) : vc135 t s w R = denFun ctx (bodyOf Tryz.f135) Tryz.f135.results.toList [Value.pointer t, Value.string s] w R := by kernel_rfl
theorem vc135_calls (t : Option Addr) (s : ByteArray) (w : World) (R : Value → World → Prop) (h : vc135 t s w R) : Calls Tryz.prog 135 #[Value.pointer t, Value.string s] w fun e w' => ∃ v, e = .returned v ∧ R v w' :=
  calls_of_den ctxOk (f := 135) (fn := Tryz.f135) (body := bodyOf Tryz.f135) (args := [Value.pointer t, Value.string s]) (by kernel_rfl) (by kernel_rfl) (by kernel_rfl) (by kernel_rfl) (Eq.mp (vc135_eq t s w R) h)

/-! ### (*ligature/bound.Table).Whole: function 136 -/
def vc136 (t : Option Addr) (s : ByteArray) (w : World) (R : Value → World → Prop) : Prop :=
  Calls Tryz.prog 181 #[Value.pointer t, Value.string s] w (fun e1 w1 =>
  ∃ lA : Option Addr, ∃ lN : Nat, ∃ lC : Nat, e1 = .returned (Value.slice lA lN lC) ∧
  R (Value.bool (decide ((((lN : Nat) : Int) : Int) ≤ 1))) w1)
theorem vc136_eq (t : Option Addr) (s : ByteArray) (w : World) (R : Value → World → Prop) : vc136 t s w R = denFun ctx (bodyOf Tryz.f136) Tryz.f136.results.toList [Value.pointer t, Value.string s] w R := by kernel_rfl
theorem vc136_calls (t : Option Addr) (s : ByteArray) (w : World) (R : Value → World → Prop) (h : vc136 t s w R) : Calls Tryz.prog 136 #[Value.pointer t, Value.string s] w fun e w' => ∃ v, e = .returned v ∧ R v w' :=
  calls_of_den ctxOk (f := 136) (fn := Tryz.f136) (body := bodyOf Tryz.f136) (args := [Value.pointer t, Value.string s]) (by kernel_rfl) (by kernel_rfl) (by kernel_rfl) (by kernel_rfl) (Eq.mp (vc136_eq t s w R) h)

/-! ### ligature/spine.special: function 137 -/
def vc137 (v_ : Option Addr) (id : Int) (w : World) (R : Value → World → Prop) : Prop :=
  Calls Tryz.prog 92 #[Value.pointer v_] w (fun e1 w1 =>
  ∃ p : Option Addr, e1 = .returned (Value.pointer p) ∧
  Calls Tryz.prog 93 #[Value.pointer p, Value.int .i64 id] w1 (fun e2 w2 =>
  ∃ r0 : Int, ∃ r1 : Bool, e2 = .returned (Value.tuple #[Value.int .i64 r0, Value.bool r1]) ∧
  R (Value.bool r1) w2))
theorem vc137_eq (v_ : Option Addr) (id : Int) (w : World) (R : Value → World → Prop) : vc137 v_ id w R = denFun ctx (bodyOf Tryz.f137) Tryz.f137.results.toList [Value.pointer v_, Value.int .i64 id] w R := by kernel_rfl
theorem vc137_calls (v_ : Option Addr) (id : Int) (w : World) (R : Value → World → Prop) (h : vc137 v_ id w R) : Calls Tryz.prog 137 #[Value.pointer v_, Value.int .i64 id] w fun e w' => ∃ v, e = .returned v ∧ R v w' :=
  calls_of_den ctxOk (f := 137) (fn := Tryz.f137) (body := bodyOf Tryz.f137) (args := [Value.pointer v_, Value.int .i64 id]) (by kernel_rfl) (by kernel_rfl) (by kernel_rfl) (by kernel_rfl) (Eq.mp (vc137_eq v_ id w R) h)

/-! ### (*ligature/vocab.Vocab).Bounds: function 138 -/
def vc138 (v_ : Option Addr) (w : World) (R : Value → World → Prop) : Prop :=
  CondP (Option.isNone v_)
    (R (Value.pointer none) w)
    (NilC v_ (fun pa =>
     ∃ p : Option Addr, w.cell? ((pa.add 0).add 7) = some (Value.pointer p) ∧
     R (Value.pointer p) w))
theorem vc138_eq (v_ : Option Addr) (w : World) (R : Value → World → Prop) : vc138 v_ w R = denFun ctx (bodyOf Tryz.f138) Tryz.f138.results.toList [Value.pointer v_] w R := by kernel_rfl
theorem vc138_calls (v_ : Option Addr) (w : World) (R : Value → World → Prop) (h : vc138 v_ w R) : Calls Tryz.prog 138 #[Value.pointer v_] w fun e w' => ∃ v, e = .returned v ∧ R v w' :=
  calls_of_den ctxOk (f := 138) (fn := Tryz.f138) (body := bodyOf Tryz.f138) (args := [Value.pointer v_]) (by kernel_rfl) (by kernel_rfl) (by kernel_rfl) (by kernel_rfl) (Eq.mp (vc138_eq v_ w R) h)

/-! ### (*ligature/bound.Table).Between: function 139 -/
def vc139 (t : Option Addr) (a : ByteArray) (b : ByteArray) (w : World) (R : Value → World → Prop) : Prop :=
  ∀ w1 : World, w1 = w.drew →
  CondP (!((a : ByteArray).toList == (⟨#[]⟩ : ByteArray).toList))
    (CondP (!((b : ByteArray).toList == (⟨#[]⟩ : ByteArray).toList))
       (Ar .i64 ((((a : ByteArray).size : Int) : Int) - 1) (fun n =>
        (0 : Int) ≤ n ∧ n < ((a : ByteArray).size : Int) ∧
        (0 : Int) ≤ 0 ∧ 0 < ((b : ByteArray).size : Int) ∧
        Calls Tryz.prog 182 #[Value.pointer t, Value.int .u8 (btAt a n), Value.int .u8 (btAt b 0)] w1 (fun e2 w2 =>
        ∃ b_1 : Bool, e2 = .returned (Value.bool b_1) ∧
        R (Value.bool b_1) w2)))
       (R (Value.bool false) w1))
    (R (Value.bool false) w1)
theorem vc139_eq (t : Option Addr) (a : ByteArray) (b : ByteArray) (w : World) (R : Value → World → Prop) : vc139 t a b w R = denFun ctx (bodyOf Tryz.f139) Tryz.f139.results.toList [Value.pointer t, Value.string a, Value.string b] w R := by kernel_rfl
theorem vc139_calls (t : Option Addr) (a : ByteArray) (b : ByteArray) (w : World) (R : Value → World → Prop) (h : vc139 t a b w R) : Calls Tryz.prog 139 #[Value.pointer t, Value.string a, Value.string b] w fun e w' => ∃ v, e = .returned v ∧ R v w' :=
  calls_of_den ctxOk (f := 139) (fn := Tryz.f139) (body := bodyOf Tryz.f139) (args := [Value.pointer t, Value.string a, Value.string b]) (by kernel_rfl) (by kernel_rfl) (by kernel_rfl) (by kernel_rfl) (Eq.mp (vc139_eq t a b w R) h)

/-! ### ligature/spine.Walk: function 140 -/
def vc140 (t : Option Addr) (a : Int) (b : Int) (limit : Int) (w : World) (R : Value → World → Prop) : Prop :=
  Calls Tryz.prog 183 #[Value.pointer t, Value.int .i64 a, Value.int .i64 b] w (fun e1 w1 =>
  ∃ b_1 : Bool, e1 = .returned (Value.bool b_1) ∧
  CondP b_1
    (Calls Tryz.prog 184 #[Value.pointer t, Value.int .i64 a, Value.int .i64 b, Value.int .i64 limit] w1 (fun e2 w2 =>
     ∃ p : Option Addr, e2 = .returned (Value.pointer p) ∧
     Calls Tryz.prog 185 #[Value.pointer p] w2 (fun e3 w3 =>
     ∃ b_2 : Bool, e3 = .returned (Value.bool b_2) ∧
     R (Value.bool b_2) w3)))
    (R (Value.bool false) w1))
theorem vc140_eq (t : Option Addr) (a : Int) (b : Int) (limit : Int) (w : World) (R : Value → World → Prop) : vc140 t a b limit w R = denFun ctx (bodyOf Tryz.f140) Tryz.f140.results.toList [Value.pointer t, Value.int .i64 a, Value.int .i64 b, Value.int .i64 limit] w R := by kernel_rfl
theorem vc140_calls (t : Option Addr) (a : Int) (b : Int) (limit : Int) (w : World) (R : Value → World → Prop) (h : vc140 t a b limit w R) : Calls Tryz.prog 140 #[Value.pointer t, Value.int .i64 a, Value.int .i64 b, Value.int .i64 limit] w fun e w' => ∃ v, e = .returned v ∧ R v w' :=
  calls_of_den ctxOk (f := 140) (fn := Tryz.f140) (body := bodyOf Tryz.f140) (args := [Value.pointer t, Value.int .i64 a, Value.int .i64 b, Value.int .i64 limit]) (by kernel_rfl) (by kernel_rfl) (by kernel_rfl) (by kernel_rfl) (Eq.mp (vc140_eq t a b limit w R) h)

/-! ### slices.ContainsFunc[[]ligature/api.Merge,ligature/api.Merge]: function 141 -/
def vc141 (sA : Option Addr) (sN : Nat) (sC : Nat) (f : Value) (w : World) (R : Value → World → Prop) : Prop :=
  Calls Tryz.prog 186 #[Value.slice sA sN sC, f] w (fun e1 w1 =>
  ∃ n : Int, e1 = .returned (Value.int .i64 n) ∧
  R (Value.bool (decide ((n : Int) ≥ 0))) w1)
theorem vc141_eq (sA : Option Addr) (sN : Nat) (sC : Nat) (f : Value) (w : World) (R : Value → World → Prop) : vc141 sA sN sC f w R = denFun ctx (bodyOf Tryz.f141) Tryz.f141.results.toList [Value.slice sA sN sC, f] w R := by kernel_rfl
theorem vc141_calls (sA : Option Addr) (sN : Nat) (sC : Nat) (f : Value) (w : World) (R : Value → World → Prop) (h : vc141 sA sN sC f w R) : Calls Tryz.prog 141 #[Value.slice sA sN sC, f] w fun e w' => ∃ v, e = .returned v ∧ R v w' :=
  calls_of_den ctxOk (f := 141) (fn := Tryz.f141) (body := bodyOf Tryz.f141) (args := [Value.slice sA sN sC, f]) (by kernel_rfl) (by kernel_rfl) (by kernel_rfl) (by kernel_rfl) (Eq.mp (vc141_eq sA sN sC f w R) h)

/-! ### ligature/spec.all[ligature/api.Merge]$1: function 142 -/
def vc142 (x0_ : Int) (x1_ : Int) (c0 : Option Addr) (w : World) (R : Value → World → Prop) : Prop :=
  ∀ w1 : World, w1 = w.alloc (.cells #[Value.int .i64 x0_, Value.int .i64 x1_] 81) →
  NilC c0 (fun pa =>
  ∃ v_ : Value, w1.cell? pa = some (v_) ∧
  ∃ g0 : Int, ∃ g1 : Int, (w1.cell? (nb w) = some (Value.int .i64 g0) ∧ w1.cell? ((nb w).add 1) = some (Value.int .i64 g1) ∧ True) ∧
  CallG ctx v_ [Value.agg #[Value.int .i64 g0, Value.int .i64 g1]] w1 (fun e2 w2 =>
  ∃ b : Bool, e2 = .returned (Value.bool b) ∧
  R (Value.bool (!b)) w2))
theorem vc142_eq (x0_ : Int) (x1_ : Int) (c0 : Option Addr) (w : World) (R : Value → World → Prop) : vc142 x0_ x1_ c0 w R = denFun ctx (bodyOf Tryz.f142) Tryz.f142.results.toList [Value.agg #[Value.int .i64 x0_, Value.int .i64 x1_], Value.pointer c0] w R := by kernel_rfl
theorem vc142_calls (x0_ : Int) (x1_ : Int) (c0 : Option Addr) (w : World) (R : Value → World → Prop) (h : vc142 x0_ x1_ c0 w R) : Calls Tryz.prog 142 #[Value.agg #[Value.int .i64 x0_, Value.int .i64 x1_], Value.pointer c0] w fun e w' => ∃ v, e = .returned v ∧ R v w' :=
  calls_of_den ctxOk (f := 142) (fn := Tryz.f142) (body := bodyOf Tryz.f142) (args := [Value.agg #[Value.int .i64 x0_, Value.int .i64 x1_], Value.pointer c0]) (by kernel_rfl) (by kernel_rfl) (by kernel_rfl) (by kernel_rfl) (Eq.mp (vc142_eq x0_ x1_ c0 w R) h)

/-! ### ligature/spec.within: function 143 -/
def vc143 (n : Int) (lo : Int) (hi : Int) (w : World) (R : Value → World → Prop) : Prop :=
  CondP (decide ((n : Int) ≥ lo))
    (R (Value.bool (decide ((n : Int) ≤ hi))) w)
    (R (Value.bool false) w)
theorem vc143_eq (n : Int) (lo : Int) (hi : Int) (w : World) (R : Value → World → Prop) : vc143 n lo hi w R = denFun ctx (bodyOf Tryz.f143) Tryz.f143.results.toList [Value.int .i64 n, Value.int .i64 lo, Value.int .i64 hi] w R := by kernel_rfl
theorem vc143_calls (n : Int) (lo : Int) (hi : Int) (w : World) (R : Value → World → Prop) (h : vc143 n lo hi w R) : Calls Tryz.prog 143 #[Value.int .i64 n, Value.int .i64 lo, Value.int .i64 hi] w fun e w' => ∃ v, e = .returned v ∧ R v w' :=
  calls_of_den ctxOk (f := 143) (fn := Tryz.f143) (body := bodyOf Tryz.f143) (args := [Value.int .i64 n, Value.int .i64 lo, Value.int .i64 hi]) (by kernel_rfl) (by kernel_rfl) (by kernel_rfl) (by kernel_rfl) (Eq.mp (vc143_eq n lo hi w R) h)

/-! ### slices.ContainsFunc[[]string,string]: function 144 -/
def vc144 (sA : Option Addr) (sN : Nat) (sC : Nat) (f : Value) (w : World) (R : Value → World → Prop) : Prop :=
  Calls Tryz.prog 187 #[Value.slice sA sN sC, f] w (fun e1 w1 =>
  ∃ n : Int, e1 = .returned (Value.int .i64 n) ∧
  R (Value.bool (decide ((n : Int) ≥ 0))) w1)
theorem vc144_eq (sA : Option Addr) (sN : Nat) (sC : Nat) (f : Value) (w : World) (R : Value → World → Prop) : vc144 sA sN sC f w R = denFun ctx (bodyOf Tryz.f144) Tryz.f144.results.toList [Value.slice sA sN sC, f] w R := by kernel_rfl
theorem vc144_calls (sA : Option Addr) (sN : Nat) (sC : Nat) (f : Value) (w : World) (R : Value → World → Prop) (h : vc144 sA sN sC f w R) : Calls Tryz.prog 144 #[Value.slice sA sN sC, f] w fun e w' => ∃ v, e = .returned v ∧ R v w' :=
  calls_of_den ctxOk (f := 144) (fn := Tryz.f144) (body := bodyOf Tryz.f144) (args := [Value.slice sA sN sC, f]) (by kernel_rfl) (by kernel_rfl) (by kernel_rfl) (by kernel_rfl) (Eq.mp (vc144_eq sA sN sC f w R) h)

/-! ### ligature/spec.all[string]$1: function 145 -/
def vc145 (x_ : ByteArray) (c0 : Option Addr) (w : World) (R : Value → World → Prop) : Prop :=
  NilC c0 (fun pa =>
  ∃ v_ : Value, w.cell? pa = some (v_) ∧
  CallG ctx v_ [Value.string x_] w (fun e1 w1 =>
  ∃ b : Bool, e1 = .returned (Value.bool b) ∧
  R (Value.bool (!b)) w1))
theorem vc145_eq (x_ : ByteArray) (c0 : Option Addr) (w : World) (R : Value → World → Prop) : vc145 x_ c0 w R = denFun ctx (bodyOf Tryz.f145) Tryz.f145.results.toList [Value.string x_, Value.pointer c0] w R := by kernel_rfl
theorem vc145_calls (x_ : ByteArray) (c0 : Option Addr) (w : World) (R : Value → World → Prop) (h : vc145 x_ c0 w R) : Calls Tryz.prog 145 #[Value.string x_, Value.pointer c0] w fun e w' => ∃ v, e = .returned v ∧ R v w' :=
  calls_of_den ctxOk (f := 145) (fn := Tryz.f145) (body := bodyOf Tryz.f145) (args := [Value.string x_, Value.pointer c0]) (by kernel_rfl) (by kernel_rfl) (by kernel_rfl) (by kernel_rfl) (Eq.mp (vc145_eq x_ c0 w R) h)

/-! ### slices.ContainsFunc[[]ligature/api.Special,ligature/api.Special]: function 146 -/
def vc146 (sA : Option Addr) (sN : Nat) (sC : Nat) (f : Value) (w : World) (R : Value → World → Prop) : Prop :=
  Calls Tryz.prog 116 #[Value.slice sA sN sC, f] w (fun e1 w1 =>
  ∃ n : Int, e1 = .returned (Value.int .i64 n) ∧
  R (Value.bool (decide ((n : Int) ≥ 0))) w1)
theorem vc146_eq (sA : Option Addr) (sN : Nat) (sC : Nat) (f : Value) (w : World) (R : Value → World → Prop) : vc146 sA sN sC f w R = denFun ctx (bodyOf Tryz.f146) Tryz.f146.results.toList [Value.slice sA sN sC, f] w R := by kernel_rfl
theorem vc146_calls (sA : Option Addr) (sN : Nat) (sC : Nat) (f : Value) (w : World) (R : Value → World → Prop) (h : vc146 sA sN sC f w R) : Calls Tryz.prog 146 #[Value.slice sA sN sC, f] w fun e w' => ∃ v, e = .returned v ∧ R v w' :=
  calls_of_den ctxOk (f := 146) (fn := Tryz.f146) (body := bodyOf Tryz.f146) (args := [Value.slice sA sN sC, f]) (by kernel_rfl) (by kernel_rfl) (by kernel_rfl) (by kernel_rfl) (Eq.mp (vc146_eq sA sN sC f w R) h)

/-! ### ligature/spec.all[ligature/api.Special]$1: function 147 -/
def vc147 (x0_ : Int) (x1_ : ByteArray) (c0 : Option Addr) (w : World) (R : Value → World → Prop) : Prop :=
  ∀ w1 : World, w1 = w.alloc (.cells #[Value.int .i64 x0_, Value.string x1_] 93) →
  NilC c0 (fun pa =>
  ∃ v_ : Value, w1.cell? pa = some (v_) ∧
  ∃ g0 : Int, ∃ g1 : ByteArray, (w1.cell? (nb w) = some (Value.int .i64 g0) ∧ w1.cell? ((nb w).add 1) = some (Value.string g1) ∧ True) ∧
  CallG ctx v_ [Value.agg #[Value.int .i64 g0, Value.string g1]] w1 (fun e2 w2 =>
  ∃ b : Bool, e2 = .returned (Value.bool b) ∧
  R (Value.bool (!b)) w2))
theorem vc147_eq (x0_ : Int) (x1_ : ByteArray) (c0 : Option Addr) (w : World) (R : Value → World → Prop) : vc147 x0_ x1_ c0 w R = denFun ctx (bodyOf Tryz.f147) Tryz.f147.results.toList [Value.agg #[Value.int .i64 x0_, Value.string x1_], Value.pointer c0] w R := by kernel_rfl
theorem vc147_calls (x0_ : Int) (x1_ : ByteArray) (c0 : Option Addr) (w : World) (R : Value → World → Prop) (h : vc147 x0_ x1_ c0 w R) : Calls Tryz.prog 147 #[Value.agg #[Value.int .i64 x0_, Value.string x1_], Value.pointer c0] w fun e w' => ∃ v, e = .returned v ∧ R v w' :=
  calls_of_den ctxOk (f := 147) (fn := Tryz.f147) (body := bodyOf Tryz.f147) (args := [Value.agg #[Value.int .i64 x0_, Value.string x1_], Value.pointer c0]) (by kernel_rfl) (by kernel_rfl) (by kernel_rfl) (by kernel_rfl) (Eq.mp (vc147_eq x0_ x1_ c0 w R) h)

/-! ### slices.ContainsFunc[[]ligature/api.Class,ligature/api.Class]: function 148 -/
def vc148 (sA : Option Addr) (sN : Nat) (sC : Nat) (f : Value) (w : World) (R : Value → World → Prop) : Prop :=
  Calls Tryz.prog 188 #[Value.slice sA sN sC, f] w (fun e1 w1 =>
  ∃ n : Int, e1 = .returned (Value.int .i64 n) ∧
  R (Value.bool (decide ((n : Int) ≥ 0))) w1)
theorem vc148_eq (sA : Option Addr) (sN : Nat) (sC : Nat) (f : Value) (w : World) (R : Value → World → Prop) : vc148 sA sN sC f w R = denFun ctx (bodyOf Tryz.f148) Tryz.f148.results.toList [Value.slice sA sN sC, f] w R := by kernel_rfl
theorem vc148_calls (sA : Option Addr) (sN : Nat) (sC : Nat) (f : Value) (w : World) (R : Value → World → Prop) (h : vc148 sA sN sC f w R) : Calls Tryz.prog 148 #[Value.slice sA sN sC, f] w fun e w' => ∃ v, e = .returned v ∧ R v w' :=
  calls_of_den ctxOk (f := 148) (fn := Tryz.f148) (body := bodyOf Tryz.f148) (args := [Value.slice sA sN sC, f]) (by kernel_rfl) (by kernel_rfl) (by kernel_rfl) (by kernel_rfl) (Eq.mp (vc148_eq sA sN sC f w R) h)

/-! ### ligature/spec.all[ligature/api.Class]$1: function 149 -/
def vc149 (x0_ : Int) (x1_ : Int) (x2_ : Int) (c0 : Option Addr) (w : World) (R : Value → World → Prop) : Prop :=
  ∀ w1 : World, w1 = w.alloc (.cells #[Value.int .i64 x0_, Value.int .i64 x1_, Value.int .i64 x2_] 125) →
  NilC c0 (fun pa =>
  ∃ v_ : Value, w1.cell? pa = some (v_) ∧
  ∃ g0 : Int, ∃ g1 : Int, ∃ g2 : Int, (w1.cell? (nb w) = some (Value.int .i64 g0) ∧ w1.cell? ((nb w).add 1) = some (Value.int .i64 g1) ∧ w1.cell? ((nb w).add 2) = some (Value.int .i64 g2) ∧ True) ∧
  CallG ctx v_ [Value.agg #[Value.int .i64 g0, Value.int .i64 g1, Value.int .i64 g2]] w1 (fun e2 w2 =>
  ∃ b : Bool, e2 = .returned (Value.bool b) ∧
  R (Value.bool (!b)) w2))
theorem vc149_eq (x0_ : Int) (x1_ : Int) (x2_ : Int) (c0 : Option Addr) (w : World) (R : Value → World → Prop) : vc149 x0_ x1_ x2_ c0 w R = denFun ctx (bodyOf Tryz.f149) Tryz.f149.results.toList [Value.agg #[Value.int .i64 x0_, Value.int .i64 x1_, Value.int .i64 x2_], Value.pointer c0] w R := by kernel_rfl
theorem vc149_calls (x0_ : Int) (x1_ : Int) (x2_ : Int) (c0 : Option Addr) (w : World) (R : Value → World → Prop) (h : vc149 x0_ x1_ x2_ c0 w R) : Calls Tryz.prog 149 #[Value.agg #[Value.int .i64 x0_, Value.int .i64 x1_, Value.int .i64 x2_], Value.pointer c0] w fun e w' => ∃ v, e = .returned v ∧ R v w' :=
  calls_of_den ctxOk (f := 149) (fn := Tryz.f149) (body := bodyOf Tryz.f149) (args := [Value.agg #[Value.int .i64 x0_, Value.int .i64 x1_, Value.int .i64 x2_], Value.pointer c0]) (by kernel_rfl) (by kernel_rfl) (by kernel_rfl) (by kernel_rfl) (Eq.mp (vc149_eq x0_ x1_ x2_ c0 w R) h)

/-! ### slices.ContainsFunc[[]ligature/api.Join,ligature/api.Join]: function 150 -/
def vc150 (sA : Option Addr) (sN : Nat) (sC : Nat) (f : Value) (w : World) (R : Value → World → Prop) : Prop :=
  Calls Tryz.prog 189 #[Value.slice sA sN sC, f] w (fun e1 w1 =>
  ∃ n : Int, e1 = .returned (Value.int .i64 n) ∧
  R (Value.bool (decide ((n : Int) ≥ 0))) w1)
theorem vc150_eq (sA : Option Addr) (sN : Nat) (sC : Nat) (f : Value) (w : World) (R : Value → World → Prop) : vc150 sA sN sC f w R = denFun ctx (bodyOf Tryz.f150) Tryz.f150.results.toList [Value.slice sA sN sC, f] w R := by kernel_rfl
theorem vc150_calls (sA : Option Addr) (sN : Nat) (sC : Nat) (f : Value) (w : World) (R : Value → World → Prop) (h : vc150 sA sN sC f w R) : Calls Tryz.prog 150 #[Value.slice sA sN sC, f] w fun e w' => ∃ v, e = .returned v ∧ R v w' :=
  calls_of_den ctxOk (f := 150) (fn := Tryz.f150) (body := bodyOf Tryz.f150) (args := [Value.slice sA sN sC, f]) (by kernel_rfl) (by kernel_rfl) (by kernel_rfl) (by kernel_rfl) (Eq.mp (vc150_eq sA sN sC f w R) h)

/-! ### ligature/spec.all[ligature/api.Join]$1: function 151 -/
def vc151 (x0_ : Int) (x1_ : Int) (c0 : Option Addr) (w : World) (R : Value → World → Prop) : Prop :=
  ∀ w1 : World, w1 = w.alloc (.cells #[Value.int .i64 x0_, Value.int .i64 x1_] 126) →
  NilC c0 (fun pa =>
  ∃ v_ : Value, w1.cell? pa = some (v_) ∧
  ∃ g0 : Int, ∃ g1 : Int, (w1.cell? (nb w) = some (Value.int .i64 g0) ∧ w1.cell? ((nb w).add 1) = some (Value.int .i64 g1) ∧ True) ∧
  CallG ctx v_ [Value.agg #[Value.int .i64 g0, Value.int .i64 g1]] w1 (fun e2 w2 =>
  ∃ b : Bool, e2 = .returned (Value.bool b) ∧
  R (Value.bool (!b)) w2))
theorem vc151_eq (x0_ : Int) (x1_ : Int) (c0 : Option Addr) (w : World) (R : Value → World → Prop) : vc151 x0_ x1_ c0 w R = denFun ctx (bodyOf Tryz.f151) Tryz.f151.results.toList [Value.agg #[Value.int .i64 x0_, Value.int .i64 x1_], Value.pointer c0] w R := by kernel_rfl
theorem vc151_calls (x0_ : Int) (x1_ : Int) (c0 : Option Addr) (w : World) (R : Value → World → Prop) (h : vc151 x0_ x1_ c0 w R) : Calls Tryz.prog 151 #[Value.agg #[Value.int .i64 x0_, Value.int .i64 x1_], Value.pointer c0] w fun e w' => ∃ v, e = .returned v ∧ R v w' :=
  calls_of_den ctxOk (f := 151) (fn := Tryz.f151) (body := bodyOf Tryz.f151) (args := [Value.agg #[Value.int .i64 x0_, Value.int .i64 x1_], Value.pointer c0]) (by kernel_rfl) (by kernel_rfl) (by kernel_rfl) (by kernel_rfl) (Eq.mp (vc151_eq x0_ x1_ c0 w R) h)

/-! ### ligature/grow.Import: function 152 -/
def vc152 (lA : Option Addr) (lN : Nat) (lC : Nat) (w : World) (R : Value → World → Prop) : Prop :=
  Calls Tryz.prog 153 #[Value.slice none 0 0] w (fun e1 w1 =>
  ∃ r0 : Option Addr, ∃ r1 : Int, ∃ r2 : Int, e1 = .returned (Value.tuple #[Value.pointer r0, Value.int .i64 r1, Value.int .i64 r2]) ∧
  CondP ((r2 : Int) != 0)
    (R (Value.tuple #[Value.pointer none, Value.int .i64 0, Value.int .i64 r2]) w1)
    (∀ I1 : List Value → World → Prop, (∀ y24 : Int, ∀ y4 : Int, ∀ y3 : Int, ∀ y2 : Option Addr, ∀ w2 : World, (CondP (decide ((y24 : Int) < ((lN : Nat) : Int)))
         (NilC lA (fun pa =>
          (0 : Int) ≤ y24 ∧ y24 < ((lN : Nat) : Int) ∧
          ∃ s : ByteArray, w2.cell? (pa.add ((y24 : Int).toNat * 1)) = some (Value.string s) ∧
          Calls Tryz.prog 190 #[Value.pointer r0, Value.string s] w2 (fun e3 w3 =>
          ∃ r00 : Int, ∃ r01 : Int, ∃ r1_2 : Bool, e3 = .returned (Value.tuple #[Value.agg #[Value.int .i64 r00, Value.int .i64 r01], Value.bool r1_2]) ∧
          ∀ w4 : World, w4 = w3.alloc (.cells #[Value.int .i64 0, Value.int .i64 0] 81) →
          StoreP w4 (nb w3) (fun w5 =>
          CondP (!r1_2)
            (R (Value.tuple #[Value.pointer none, Value.int .i64 y24, Value.int .i64 2]) w5)
            (∃ g0 : Int, ∃ g1 : Int, (w5.cell? (nb w3) = some (Value.int .i64 g0) ∧ w5.cell? ((nb w3).add 1) = some (Value.int .i64 g1) ∧ True) ∧
             Calls Tryz.prog 191 #[Value.pointer r0, Value.agg #[Value.int .i64 g0, Value.int .i64 g1]] w5 (fun e6 w6 =>
             ∃ r0_3 : Int, ∃ r1_4 : Int, e6 = .returned (Value.tuple #[Value.int .i64 r0_3, Value.int .i64 r1_4]) ∧
             CondP ((r1_4 : Int) != 0)
               (R (Value.tuple #[Value.pointer none, Value.int .i64 y24, Value.int .i64 r1_4]) w6)
               (Ar .i64 ((y24 : Int) + 1) (fun n =>
                I1 [Value.int .i64 n, Value.int .i64 y4, Value.int .i64 y3, Value.pointer y2] w6))))) [Value.int .i64 r00, Value.int .i64 r01] 0)))
         (R (Value.tuple #[Value.pointer r0, Value.int .i64 ((lN : Nat) : Int), Value.int .i64 0]) w2)) → I1 [Value.int .i64 y24, Value.int .i64 y4, Value.int .i64 y3, Value.pointer y2] w2) →
     I1 [Value.int .i64 0, Value.int .i64 0, Value.int .i64 0, Value.pointer none] w1))
theorem vc152_eq (lA : Option Addr) (lN : Nat) (lC : Nat) (w : World) (R : Value → World → Prop) : vc152 lA lN lC w R = denFun ctx (bodyOf Tryz.f152) Tryz.f152.results.toList [Value.slice lA lN lC] w R := by kernel_rfl
theorem vc152_calls (lA : Option Addr) (lN : Nat) (lC : Nat) (w : World) (R : Value → World → Prop) (h : vc152 lA lN lC w R) : Calls Tryz.prog 152 #[Value.slice lA lN lC] w fun e w' => ∃ v, e = .returned v ∧ R v w' :=
  calls_of_den ctxOk (f := 152) (fn := Tryz.f152) (body := bodyOf Tryz.f152) (args := [Value.slice lA lN lC]) (by kernel_rfl) (by kernel_rfl) (by kernel_rfl) (by kernel_rfl) (Eq.mp (vc152_eq lA lN lC w R) h)

/-! ### ligature/token.New: function 153 -/
def vc153 (lA : Option Addr) (lN : Nat) (lC : Nat) (w : World) (R : Value → World → Prop) : Prop :=
  Calls Tryz.prog 192 #[] w (fun e1 w1 =>
  ∃ p : Option Addr, e1 = .returned (Value.pointer p) ∧
  ∀ I1 : List Value → World → Prop, (∀ y13 : Int, ∀ y4 : Int, ∀ y3 : Int, ∀ y2 : Option Addr, ∀ w2 : World, (CondP (decide ((y13 : Int) < ((lN : Nat) : Int)))
      (NilC lA (fun pa =>
       (0 : Int) ≤ y13 ∧ y13 < ((lN : Nat) : Int) ∧
       ∃ g0 : Int, ∃ g1 : Int, (w2.cell? (pa.add ((y13 : Int).toNat * 2)) = some (Value.int .i64 g0) ∧ w2.cell? ((pa.add ((y13 : Int).toNat * 2)).add 1) = some (Value.int .i64 g1) ∧ True) ∧
       ∀ w3 : World, w3 = w2.alloc (.cells #[Value.int .i64 0, Value.int .i64 0] 81) →
       StoreP w3 (nb w2) (fun w4 =>
       ∃ g0_2 : Int, ∃ g1_3 : Int, (w4.cell? (nb w2) = some (Value.int .i64 g0_2) ∧ w4.cell? ((nb w2).add 1) = some (Value.int .i64 g1_3) ∧ True) ∧
       Calls Tryz.prog 191 #[Value.pointer p, Value.agg #[Value.int .i64 g0_2, Value.int .i64 g1_3]] w4 (fun e5 w5 =>
       ∃ r0 : Int, ∃ r1 : Int, e5 = .returned (Value.tuple #[Value.int .i64 r0, Value.int .i64 r1]) ∧
       CondP ((r1 : Int) != 0)
         (R (Value.tuple #[Value.pointer none, Value.int .i64 y13, Value.int .i64 r1]) w5)
         (Ar .i64 ((y13 : Int) + 1) (fun n =>
          I1 [Value.int .i64 n, Value.int .i64 y4, Value.int .i64 y3, Value.pointer y2] w5)))) [Value.int .i64 g0, Value.int .i64 g1] 0))
      (R (Value.tuple #[Value.pointer p, Value.int .i64 ((lN : Nat) : Int), Value.int .i64 0]) w2)) → I1 [Value.int .i64 y13, Value.int .i64 y4, Value.int .i64 y3, Value.pointer y2] w2) →
  I1 [Value.int .i64 0, Value.int .i64 0, Value.int .i64 0, Value.pointer none] w1)
theorem vc153_eq (lA : Option Addr) (lN : Nat) (lC : Nat) (w : World) (R : Value → World → Prop) : vc153 lA lN lC w R = denFun ctx (bodyOf Tryz.f153) Tryz.f153.results.toList [Value.slice lA lN lC] w R := by kernel_rfl
theorem vc153_calls (lA : Option Addr) (lN : Nat) (lC : Nat) (w : World) (R : Value → World → Prop) (h : vc153 lA lN lC w R) : Calls Tryz.prog 153 #[Value.slice lA lN lC] w fun e w' => ∃ v, e = .returned v ∧ R v w' :=
  calls_of_den ctxOk (f := 153) (fn := Tryz.f153) (body := bodyOf Tryz.f153) (args := [Value.slice lA lN lC]) (by kernel_rfl) (by kernel_rfl) (by kernel_rfl) (by kernel_rfl) (Eq.mp (vc153_eq lA lN lC w R) h)

/-! ### (*ligature/mark.Set).add: function 154 -/
def vc154 (s : Option Addr) (x0_ : Int) (x1_ : ByteArray) (w : World) (R : Value → World → Prop) : Prop :=
  ∀ w1 : World, w1 = w.alloc (.cells #[Value.int .i64 x0_, Value.string x1_] 93) →
  ∀ w2 : World, w2 = w1.drew →
  NilC s (fun pa =>
  ∃ m : Option Nat, w2.cell? (pa.add 1) = some (Value.map m) ∧
  ∃ n : Int, w2.cell? ((nb w).add 0) = some (Value.int .i64 n) ∧
  ∃ r0 : Int, ∃ r1 : Bool, ∃ w3 : World, (Instr.lookup 100 (Value.map m) (Value.int .i64 n) true).run Tryz.prog w2 = .ok (Value.tuple #[Value.int .i64 r0, Value.bool r1]) w3 ∧
  ∀ w4 : World, w4 = w3.drew →
  NilC s (fun pa_1 =>
  ∃ m_2 : Option Nat, w4.cell? (pa_1.add 2) = some (Value.map m_2) ∧
  ∃ s_3 : ByteArray, w4.cell? ((nb w).add 1) = some (Value.string s_3) ∧
  ∃ r0_4 : Int, ∃ r1_5 : Bool, ∃ w5 : World, (Instr.lookup 168 (Value.map m_2) (Value.string s_3) true).run Tryz.prog w4 = .ok (Value.tuple #[Value.int .i64 r0_4, Value.bool r1_5]) w5 ∧
  ∃ g0 : Int, ∃ g1 : ByteArray, (w5.cell? (nb w) = some (Value.int .i64 g0) ∧ w5.cell? ((nb w).add 1) = some (Value.string g1) ∧ True) ∧
  Calls Tryz.prog 193 #[Value.agg #[Value.int .i64 g0, Value.string g1]] w5 (fun e6 w6 =>
  ∃ b : Bool, e6 = .returned (Value.bool b) ∧
  CondP (!b)
    (R (Value.int .i64 1) w6)
    (NilC s (fun pa_6 =>
     ∃ lA : Option Addr, ∃ lN : Nat, ∃ lC : Nat, w6.cell? (pa_6.add 0) = some (Value.slice lA lN lC) ∧
     CondP (decide ((((lN : Nat) : Int) : Int) ≥ 32))
       (R (Value.int .i64 3) w6)
       (CondP r1
          (R (Value.int .i64 10) w6)
          (CondP r1_5
             (R (Value.int .i64 10) w6)
             (∀ w7 : World, w7 = w6.drew →
              NilC s (fun pa_7 =>
              ∃ m_8 : Option Nat, w7.cell? (pa_7.add 1) = some (Value.map m_8) ∧
              ∃ n_9 : Int, w7.cell? ((nb w).add 0) = some (Value.int .i64 n_9) ∧
              NilC s (fun pa_10 =>
              ∃ m_11 : Option Nat, w7.cell? (pa_10.add 2) = some (Value.map m_11) ∧
              ∃ s_12 : ByteArray, w7.cell? ((nb w).add 1) = some (Value.string s_12) ∧
              NilC s (fun pa_13 =>
              ∃ lA_14 : Option Addr, ∃ lN_15 : Nat, ∃ lC_16 : Nat, w7.cell? (pa_13.add 0) = some (Value.slice lA_14 lN_15 lC_16) ∧
              NilC s (fun pa_17 =>
              ∃ lA_18 : Option Addr, ∃ lN_19 : Nat, ∃ lC_20 : Nat, w7.cell? (pa_17.add 0) = some (Value.slice lA_18 lN_19 lC_20) ∧
              ∃ r0_21 : Int, ∃ r1_22 : Int, ∃ w8 : World, (Instr.mapEntry 100 (Value.map m_8) (Value.int .i64 n_9)).run Tryz.prog w7 = .ok (Value.tuple #[Value.int .i64 r0_21, Value.int .i64 r1_22]) w8 ∧
              (w8.cell? (pa_13.add 0) = some (Value.slice lA_14 lN_15 lC_16) ∧ True) ∧
              (w8.cell? ((nb w).add 1) = some (Value.string s_12) ∧ True) ∧
              ∃ w9 : World, (Instr.entryStore 100 (Value.map m_8) (Value.int .i64 r1_22) (Value.int .i64 ((lN_15 : Nat) : Int))).run Tryz.prog w8 = .ok () w9 ∧
              (w9.cell? ((nb w).add 1) = some (Value.string s_12) ∧ True) ∧
              ∃ r0_23 : Int, ∃ r1_24 : Int, ∃ w10 : World, (Instr.mapEntry 168 (Value.map m_11) (Value.string s_12)).run Tryz.prog w9 = .ok (Value.tuple #[Value.int .i64 r0_23, Value.int .i64 r1_24]) w10 ∧
              ∃ w11 : World, (Instr.entryStore 168 (Value.map m_11) (Value.int .i64 r1_24) (Value.int .i64 ((lN_19 : Nat) : Int))).run Tryz.prog w10 = .ok () w11 ∧
              ∀ w12 : World, w12 = w11.drew →
              ∃ s_25 : ByteArray, w12.cell? ((nb w).add 1) = some (Value.string s_25) ∧
              (0 : Int) ≤ 0 ∧ 0 < ((s_25 : ByteArray).size : Int) ∧
              NilC s (fun pa_26 =>
              (0 : Int) ≤ (btAt s_25 0) ∧ (btAt s_25 0) < ((256 : Nat) : Int) ∧
              (Value.bool true).oneCell' = true ∧ (∃ u, w12.cell? ((pa_26.add 3).add ((btAt s_25 0 : Int).toNat * 1)) = some u) ∧ w12.frozen? ((pa_26.add 3).add ((btAt s_25 0 : Int).toNat * 1)) = false ∧
              ∀ w13 : World, w13 = (w12.setCell ((pa_26.add 3).add ((btAt s_25 0 : Int).toNat * 1)) (Value.bool true)) →
              ∀ w14 : World, w14 = w13.drew →
              NilC s (fun pa_27 =>
              ∃ n_28 : Int, w14.cell? (pa_27.add 259) = some (Value.int .i64 n_28) ∧
              ∃ s_29 : ByteArray, w14.cell? ((nb w).add 1) = some (Value.string s_29) ∧
              ∃ n_30 : Int, ∃ w15 : World, (Builtin.max_ #[3, 3] 3 #[Value.int .i64 n_28, Value.int .i64 ((s_29 : ByteArray).size : Int)]).run Tryz.prog w14 = .ok (Value.int .i64 n_30) w15 ∧
              NilC s (fun pa_31 =>
              (Value.int .i64 n_30).oneCell' = true ∧ (∃ u, w15.cell? (pa_31.add 259) = some u) ∧ w15.frozen? (pa_31.add 259) = false ∧
              ∀ w16 : World, w16 = (w15.setCell (pa_31.add 259) (Value.int .i64 n_30)) →
              ∀ w17 : World, w17 = w16.drew →
              NilC s (fun pa_32 =>
              ∃ lA_33 : Option Addr, ∃ lN_34 : Nat, ∃ lC_35 : Nat, w17.cell? (pa_32.add 0) = some (Value.slice lA_33 lN_34 lC_35) ∧
              ∃ g0_36 : Int, ∃ g1_37 : ByteArray, (w17.cell? (nb w) = some (Value.int .i64 g0_36) ∧ w17.cell? ((nb w).add 1) = some (Value.string g1_37) ∧ True) ∧
              ∀ w18 : World, w18 = w17.alloc (.cells #[Value.int .i64 g0_36, Value.string g1_37] 93) →
              (w18.cell? (pa_32.add 0) = some (Value.slice lA_33 lN_34 lC_35) ∧ True) ∧
              ∃ lA_38 : Option Addr, ∃ lN_39 : Nat, ∃ lC_40 : Nat, ∃ w19 : World, (Builtin.append_ #[25, 25] 25 #[Value.slice lA_33 lN_34 lC_35, Value.slice (some (nb w17)) 1 1]).run Tryz.prog w18 = .ok (Value.slice lA_38 lN_39 lC_40) w19 ∧
              NilC s (fun pa_41 =>
              (Value.slice lA_38 lN_39 lC_40).oneCell' = true ∧ (∃ u, w19.cell? (pa_41.add 0) = some u) ∧ w19.frozen? (pa_41.add 0) = false ∧
              ∀ w20 : World, w20 = (w19.setCell (pa_41.add 0) (Value.slice lA_38 lN_39 lC_40)) →
              R (Value.int .i64 0) w20)))))))))))))))))
theorem vc154_eq (s : Option Addr) (x0_ : Int) (x1_ : ByteArray) (w : World) (R : Value → World → Prop) : vc154 s x0_ x1_ w R = denFun ctx (bodyOf Tryz.f154) Tryz.f154.results.toList [Value.pointer s, Value.agg #[Value.int .i64 x0_, Value.string x1_]] w R := by kernel_rfl
theorem vc154_calls (s : Option Addr) (x0_ : Int) (x1_ : ByteArray) (w : World) (R : Value → World → Prop) (h : vc154 s x0_ x1_ w R) : Calls Tryz.prog 154 #[Value.pointer s, Value.agg #[Value.int .i64 x0_, Value.string x1_]] w fun e w' => ∃ v, e = .returned v ∧ R v w' :=
  calls_of_den ctxOk (f := 154) (fn := Tryz.f154) (body := bodyOf Tryz.f154) (args := [Value.pointer s, Value.agg #[Value.int .i64 x0_, Value.string x1_]]) (by kernel_rfl) (by kernel_rfl) (by kernel_rfl) (by kernel_rfl) (Eq.mp (vc154_eq s x0_ x1_ w R) h)

/-! ### ligature/bound.span: function 155 -/
def vc155 (c0 : Int) (c1 : Int) (c2 : Int) (w : World) (R : Value → World → Prop) : Prop :=
  ∀ w1 : World, w1 = w.alloc (.cells #[Value.int .i64 c0, Value.int .i64 c1, Value.int .i64 c2] 125) →
  ∃ n : Int, w1.cell? ((nb w).add 0) = some (Value.int .i64 n) ∧
  CondP (decide ((n : Int) ≥ 0))
    (∃ n_1 : Int, w1.cell? ((nb w).add 0) = some (Value.int .i64 n_1) ∧
     ∃ n_2 : Int, w1.cell? ((nb w).add 1) = some (Value.int .i64 n_2) ∧
     CondP (decide ((n_1 : Int) ≤ n_2))
       (∃ n_3 : Int, w1.cell? ((nb w).add 1) = some (Value.int .i64 n_3) ∧
        CondP (decide ((n_3 : Int) < 256))
          (∃ n_4 : Int, w1.cell? ((nb w).add 2) = some (Value.int .i64 n_4) ∧
           Calls Tryz.prog 156 #[Value.int .i64 n_4] w1 (fun e2 w2 =>
           ∃ b : Bool, e2 = .returned (Value.bool b) ∧
           R (Value.bool b) w2))
          (R (Value.bool false) w1))
       (R (Value.bool false) w1))
    (R (Value.bool false) w1)
theorem vc155_eq (c0 : Int) (c1 : Int) (c2 : Int) (w : World) (R : Value → World → Prop) : vc155 c0 c1 c2 w R = denFun ctx (bodyOf Tryz.f155) Tryz.f155.results.toList [Value.agg #[Value.int .i64 c0, Value.int .i64 c1, Value.int .i64 c2]] w R := by kernel_rfl
theorem vc155_calls (c0 : Int) (c1 : Int) (c2 : Int) (w : World) (R : Value → World → Prop) (h : vc155 c0 c1 c2 w R) : Calls Tryz.prog 155 #[Value.agg #[Value.int .i64 c0, Value.int .i64 c1, Value.int .i64 c2]] w fun e w' => ∃ v, e = .returned v ∧ R v w' :=
  calls_of_den ctxOk (f := 155) (fn := Tryz.f155) (body := bodyOf Tryz.f155) (args := [Value.agg #[Value.int .i64 c0, Value.int .i64 c1, Value.int .i64 c2]]) (by kernel_rfl) (by kernel_rfl) (by kernel_rfl) (by kernel_rfl) (Eq.mp (vc155_eq c0 c1 c2 w R) h)

/-! ### ligature/bound.class: function 156 -/
def vc156 (n : Int) (w : World) (R : Value → World → Prop) : Prop :=
  CondP (decide ((n : Int) ≥ 0))
    (R (Value.bool (decide ((n : Int) < 16))) w)
    (R (Value.bool false) w)
theorem vc156_eq (n : Int) (w : World) (R : Value → World → Prop) : vc156 n w R = denFun ctx (bodyOf Tryz.f156) Tryz.f156.results.toList [Value.int .i64 n] w R := by kernel_rfl
theorem vc156_calls (n : Int) (w : World) (R : Value → World → Prop) (h : vc156 n w R) : Calls Tryz.prog 156 #[Value.int .i64 n] w fun e w' => ∃ v, e = .returned v ∧ R v w' :=
  calls_of_den ctxOk (f := 156) (fn := Tryz.f156) (body := bodyOf Tryz.f156) (args := [Value.int .i64 n]) (by kernel_rfl) (by kernel_rfl) (by kernel_rfl) (by kernel_rfl) (Eq.mp (vc156_eq n w R) h)

/-! ### slices.Clone[[]ligature/api.Merge,ligature/api.Merge]: function 157 -/
def vc157 (sA : Option Addr) (sN : Nat) (sC : Nat) (w : World) (R : Value → World → Prop) : Prop :=
  CondP (Option.isNone sA)
    (R (Value.slice none 0 0) w)
    (∀ w1 : World, w1 = w.alloc (.cells #[] 81) →
     ∃ lA : Option Addr, ∃ lN : Nat, ∃ lC : Nat, ∃ w2 : World, (Builtin.append_ #[33, 33] 33 #[Value.slice (some (nb w)) 0 0, Value.slice sA sN sC]).run Tryz.prog w1 = .ok (Value.slice lA lN lC) w2 ∧
     R (Value.slice lA lN lC) w2)
theorem vc157_eq (sA : Option Addr) (sN : Nat) (sC : Nat) (w : World) (R : Value → World → Prop) : vc157 sA sN sC w R = denFun ctx (bodyOf Tryz.f157) Tryz.f157.results.toList [Value.slice sA sN sC] w R := by kernel_rfl
theorem vc157_calls (sA : Option Addr) (sN : Nat) (sC : Nat) (w : World) (R : Value → World → Prop) (h : vc157 sA sN sC w R) : Calls Tryz.prog 157 #[Value.slice sA sN sC] w fun e w' => ∃ v, e = .returned v ∧ R v w' :=
  calls_of_den ctxOk (f := 157) (fn := Tryz.f157) (body := bodyOf Tryz.f157) (args := [Value.slice sA sN sC]) (by kernel_rfl) (by kernel_rfl) (by kernel_rfl) (by kernel_rfl) (Eq.mp (vc157_eq sA sN sC w R) h)

/-! ### slices.Clone[[]string,string]: function 158 -/
def vc158 (sA : Option Addr) (sN : Nat) (sC : Nat) (w : World) (R : Value → World → Prop) : Prop :=
  CondP (Option.isNone sA)
    (R (Value.slice none 0 0) w)
    (∀ w1 : World, w1 = w.alloc (.cells #[] 9) →
     ∃ lA : Option Addr, ∃ lN : Nat, ∃ lC : Nat, ∃ w2 : World, (Builtin.append_ #[32, 32] 32 #[Value.slice (some (nb w)) 0 0, Value.slice sA sN sC]).run Tryz.prog w1 = .ok (Value.slice lA lN lC) w2 ∧
     R (Value.slice lA lN lC) w2)
theorem vc158_eq (sA : Option Addr) (sN : Nat) (sC : Nat) (w : World) (R : Value → World → Prop) : vc158 sA sN sC w R = denFun ctx (bodyOf Tryz.f158) Tryz.f158.results.toList [Value.slice sA sN sC] w R := by kernel_rfl
theorem vc158_calls (sA : Option Addr) (sN : Nat) (sC : Nat) (w : World) (R : Value → World → Prop) (h : vc158 sA sN sC w R) : Calls Tryz.prog 158 #[Value.slice sA sN sC] w fun e w' => ∃ v, e = .returned v ∧ R v w' :=
  calls_of_den ctxOk (f := 158) (fn := Tryz.f158) (body := bodyOf Tryz.f158) (args := [Value.slice sA sN sC]) (by kernel_rfl) (by kernel_rfl) (by kernel_rfl) (by kernel_rfl) (Eq.mp (vc158_eq sA sN sC w R) h)

/-! ### slices.Clone[[]ligature/api.Class,ligature/api.Class]: function 159 -/
def vc159 (sA : Option Addr) (sN : Nat) (sC : Nat) (w : World) (R : Value → World → Prop) : Prop :=
  CondP (Option.isNone sA)
    (R (Value.slice none 0 0) w)
    (∀ w1 : World, w1 = w.alloc (.cells #[] 125) →
     ∃ lA : Option Addr, ∃ lN : Nat, ∃ lC : Nat, ∃ w2 : World, (Builtin.append_ #[23, 23] 23 #[Value.slice (some (nb w)) 0 0, Value.slice sA sN sC]).run Tryz.prog w1 = .ok (Value.slice lA lN lC) w2 ∧
     R (Value.slice lA lN lC) w2)
theorem vc159_eq (sA : Option Addr) (sN : Nat) (sC : Nat) (w : World) (R : Value → World → Prop) : vc159 sA sN sC w R = denFun ctx (bodyOf Tryz.f159) Tryz.f159.results.toList [Value.slice sA sN sC] w R := by kernel_rfl
theorem vc159_calls (sA : Option Addr) (sN : Nat) (sC : Nat) (w : World) (R : Value → World → Prop) (h : vc159 sA sN sC w R) : Calls Tryz.prog 159 #[Value.slice sA sN sC] w fun e w' => ∃ v, e = .returned v ∧ R v w' :=
  calls_of_den ctxOk (f := 159) (fn := Tryz.f159) (body := bodyOf Tryz.f159) (args := [Value.slice sA sN sC]) (by kernel_rfl) (by kernel_rfl) (by kernel_rfl) (by kernel_rfl) (Eq.mp (vc159_eq sA sN sC w R) h)

/-! ### slices.Clone[[]ligature/api.Join,ligature/api.Join]: function 160 -/
def vc160 (sA : Option Addr) (sN : Nat) (sC : Nat) (w : World) (R : Value → World → Prop) : Prop :=
  CondP (Option.isNone sA)
    (R (Value.slice none 0 0) w)
    (∀ w1 : World, w1 = w.alloc (.cells #[] 126) →
     ∃ lA : Option Addr, ∃ lN : Nat, ∃ lC : Nat, ∃ w2 : World, (Builtin.append_ #[24, 24] 24 #[Value.slice (some (nb w)) 0 0, Value.slice sA sN sC]).run Tryz.prog w1 = .ok (Value.slice lA lN lC) w2 ∧
     R (Value.slice lA lN lC) w2)
theorem vc160_eq (sA : Option Addr) (sN : Nat) (sC : Nat) (w : World) (R : Value → World → Prop) : vc160 sA sN sC w R = denFun ctx (bodyOf Tryz.f160) Tryz.f160.results.toList [Value.slice sA sN sC] w R := by kernel_rfl
theorem vc160_calls (sA : Option Addr) (sN : Nat) (sC : Nat) (w : World) (R : Value → World → Prop) (h : vc160 sA sN sC w R) : Calls Tryz.prog 160 #[Value.slice sA sN sC] w fun e w' => ∃ v, e = .returned v ∧ R v w' :=
  calls_of_den ctxOk (f := 160) (fn := Tryz.f160) (body := bodyOf Tryz.f160) (args := [Value.slice sA sN sC]) (by kernel_rfl) (by kernel_rfl) (by kernel_rfl) (by kernel_rfl) (Eq.mp (vc160_eq sA sN sC w R) h)

/-! ### (*ligature/token.Table).has: function 179 -/
def vc179 (t : Option Addr) (id : Int) (w : World) (R : Value → World → Prop) : Prop :=
  CondP (decide ((id : Int) ≥ 0))
    (Calls Tryz.prog 118 #[Value.pointer t] w (fun e1 w1 =>
     ∃ n : Int, e1 = .returned (Value.int .i64 n) ∧
     R (Value.bool (decide ((id : Int) < n))) w1))
    (R (Value.bool false) w)
theorem vc179_eq (t : Option Addr) (id : Int) (w : World) (R : Value → World → Prop) : vc179 t id w R = denFun ctx (bodyOf Tryz.f179) Tryz.f179.results.toList [Value.pointer t, Value.int .i64 id] w R := by kernel_rfl
theorem vc179_calls (t : Option Addr) (id : Int) (w : World) (R : Value → World → Prop) (h : vc179 t id w R) : Calls Tryz.prog 179 #[Value.pointer t, Value.int .i64 id] w fun e w' => ∃ v, e = .returned v ∧ R v w' :=
  calls_of_den ctxOk (f := 179) (fn := Tryz.f179) (body := bodyOf Tryz.f179) (args := [Value.pointer t, Value.int .i64 id]) (by kernel_rfl) (by kernel_rfl) (by kernel_rfl) (by kernel_rfl) (Eq.mp (vc179_eq t id w R) h)

/-! ### ligature/chain.Below: function 180 -/
def vc180 (t : Option Addr) (s : ByteArray) (below : Int) (w : World) (R : Value → World → Prop) : Prop :=
  CondP (Option.isNone t)
    (R (Value.slice none 0 0) w)
    (Calls Tryz.prog 204 #[Value.pointer t, Value.string s, Value.int .i64 below] w (fun e1 w1 =>
     ∃ p : Option Addr, e1 = .returned (Value.pointer p) ∧
     Calls Tryz.prog 205 #[Value.pointer p] w1 (fun e2 w2 =>
     e2 = .returned (Value.tuple #[]) ∧
     Calls Tryz.prog 206 #[Value.pointer p] w2 (fun e3 w3 =>
     ∃ lA : Option Addr, ∃ lN : Nat, ∃ lC : Nat, e3 = .returned (Value.slice lA lN lC) ∧
     R (Value.slice lA lN lC) w3))))
theorem vc180_eq (t : Option Addr) (s : ByteArray) (below : Int) (w : World) (R : Value → World → Prop) : vc180 t s below w R = denFun ctx (bodyOf Tryz.f180) Tryz.f180.results.toList [Value.pointer t, Value.string s, Value.int .i64 below] w R := by kernel_rfl
theorem vc180_calls (t : Option Addr) (s : ByteArray) (below : Int) (w : World) (R : Value → World → Prop) (h : vc180 t s below w R) : Calls Tryz.prog 180 #[Value.pointer t, Value.string s, Value.int .i64 below] w fun e w' => ∃ v, e = .returned v ∧ R v w' :=
  calls_of_den ctxOk (f := 180) (fn := Tryz.f180) (body := bodyOf Tryz.f180) (args := [Value.pointer t, Value.string s, Value.int .i64 below]) (by kernel_rfl) (by kernel_rfl) (by kernel_rfl) (by kernel_rfl) (Eq.mp (vc180_eq t s below w R) h)

/-! ### (*ligature/bound.Table).Pieces: function 181 -/
def vc181 (t : Option Addr) (s : ByteArray) (w : World) (R : Value → World → Prop) : Prop :=
  ∀ I1 : List Value → World → Prop, (∀ i : Int, ∀ from_2 : Int, ∀ lA : Option Addr, ∀ lN : Nat, ∀ lC : Nat, ∀ w1 : World, (CondP (decide ((i : Int) ≤ ((s : ByteArray).size : Int)))
      (∀ J3 : List Value → World → Prop, (∀ from_4 : Int, ∀ lA_5 : Option Addr, ∀ lN_6 : Nat, ∀ lC_7 : Nat, ∀ w2 : World, (Ar .i64 ((i : Int) + 1) (fun n =>
         I1 [Value.int .i64 n, Value.int .i64 from_4, Value.slice lA_5 lN_6 lC_7] w2)) → J3 [Value.int .i64 from_4, Value.slice lA_5 lN_6 lC_7] w2) →
       ∀ w3 : World, w3 = w1.drew →
       CondP ((i : Int) == ((s : ByteArray).size : Int))
         ((0 : Int) ≤ (from_2 : Int) ∧ (from_2 : Int) ≤ (i : Int) ∧ (i : Int) ≤ ((s : ByteArray).size : Int) ∧
          ∀ w4 : World, w4 = w3.alloc (.cells #[Value.string ((s : ByteArray).extract (from_2 : Int).toNat (i : Int).toNat)] 9) →
          ∃ lA_8 : Option Addr, ∃ lN_9 : Nat, ∃ lC_10 : Nat, ∃ w5 : World, (Builtin.append_ #[32, 32] 32 #[Value.slice lA lN lC, Value.slice (some (nb w3)) 1 1]).run Tryz.prog w4 = .ok (Value.slice lA_8 lN_9 lC_10) w5 ∧
          J3 [Value.int .i64 i, Value.slice lA_8 lN_9 lC_10] w5)
         (Ar .i64 ((i : Int) - 1) (fun n_11 =>
          (0 : Int) ≤ n_11 ∧ n_11 < ((s : ByteArray).size : Int) ∧
          (0 : Int) ≤ i ∧ i < ((s : ByteArray).size : Int) ∧
          Calls Tryz.prog 182 #[Value.pointer t, Value.int .u8 (btAt s n_11), Value.int .u8 (btAt s i)] w3 (fun e6 w6 =>
          ∃ b : Bool, e6 = .returned (Value.bool b) ∧
          CondP b
            ((0 : Int) ≤ (from_2 : Int) ∧ (from_2 : Int) ≤ (i : Int) ∧ (i : Int) ≤ ((s : ByteArray).size : Int) ∧
             ∀ w7 : World, w7 = w6.alloc (.cells #[Value.string ((s : ByteArray).extract (from_2 : Int).toNat (i : Int).toNat)] 9) →
             ∃ lA_12 : Option Addr, ∃ lN_13 : Nat, ∃ lC_14 : Nat, ∃ w8 : World, (Builtin.append_ #[32, 32] 32 #[Value.slice lA lN lC, Value.slice (some (nb w6)) 1 1]).run Tryz.prog w7 = .ok (Value.slice lA_12 lN_13 lC_14) w8 ∧
             J3 [Value.int .i64 i, Value.slice lA_12 lN_13 lC_14] w8)
            (J3 [Value.int .i64 from_2, Value.slice lA lN lC] w6)))))
      (R (Value.slice lA lN lC) w1)) → I1 [Value.int .i64 i, Value.int .i64 from_2, Value.slice lA lN lC] w1) →
  I1 [Value.int .i64 1, Value.int .i64 0, Value.slice none 0 0] w
theorem vc181_eq (t : Option Addr) (s : ByteArray) (w : World) (R : Value → World → Prop) : vc181 t s w R = denFun ctx (bodyOf Tryz.f181) Tryz.f181.results.toList [Value.pointer t, Value.string s] w R := by kernel_rfl
theorem vc181_calls (t : Option Addr) (s : ByteArray) (w : World) (R : Value → World → Prop) (h : vc181 t s w R) : Calls Tryz.prog 181 #[Value.pointer t, Value.string s] w fun e w' => ∃ v, e = .returned v ∧ R v w' :=
  calls_of_den ctxOk (f := 181) (fn := Tryz.f181) (body := bodyOf Tryz.f181) (args := [Value.pointer t, Value.string s]) (by kernel_rfl) (by kernel_rfl) (by kernel_rfl) (by kernel_rfl) (Eq.mp (vc181_eq t s w R) h)

/-! ### (*ligature/bound.Table).Cuts: function 182 -/
def vc182 (t : Option Addr) (a : Int) (b : Int) (w : World) (R : Value → World → Prop) : Prop :=
  CondP (Option.isNone t)
    (R (Value.bool false) w)
    (∀ w1 : World, w1 = w.drew →
     NilC t (fun pa =>
     (0 : Int) ≤ a ∧ a < ((256 : Nat) : Int) ∧
     ∃ n : Int, w1.cell? ((pa.add 0).add ((a : Int).toNat * 1)) = some (Value.int .i64 n) ∧
     NilC t (fun pa_1 =>
     (0 : Int) ≤ b ∧ b < ((256 : Nat) : Int) ∧
     ∃ n_2 : Int, w1.cell? ((pa_1.add 0).add ((b : Int).toNat * 1)) = some (Value.int .i64 n_2) ∧
     CondP ((n : Int) != n_2)
       (NilC t (fun pa_3 =>
        (0 : Int) ≤ n ∧ n < ((16 : Nat) : Int) ∧
        (0 : Int) ≤ n_2 ∧ n_2 < ((16 : Nat) : Int) ∧
        ∃ b_4 : Bool, w1.cell? (((pa_3.add 256).add ((n : Int).toNat * 16)).add ((n_2 : Int).toNat * 1)) = some (Value.bool b_4) ∧
        R (Value.bool (!b_4)) w1))
       (R (Value.bool false) w1))))
theorem vc182_eq (t : Option Addr) (a : Int) (b : Int) (w : World) (R : Value → World → Prop) : vc182 t a b w R = denFun ctx (bodyOf Tryz.f182) Tryz.f182.results.toList [Value.pointer t, Value.int .u8 a, Value.int .u8 b] w R := by kernel_rfl
theorem vc182_calls (t : Option Addr) (a : Int) (b : Int) (w : World) (R : Value → World → Prop) (h : vc182 t a b w R) : Calls Tryz.prog 182 #[Value.pointer t, Value.int .u8 a, Value.int .u8 b] w fun e w' => ∃ v, e = .returned v ∧ R v w' :=
  calls_of_den ctxOk (f := 182) (fn := Tryz.f182) (body := bodyOf Tryz.f182) (args := [Value.pointer t, Value.int .u8 a, Value.int .u8 b]) (by kernel_rfl) (by kernel_rfl) (by kernel_rfl) (by kernel_rfl) (Eq.mp (vc182_eq t a b w R) h)

/-! ### ligature/spine.has: function 183 -/
def vc183 (t : Option Addr) (a : Int) (b : Int) (w : World) (R : Value → World → Prop) : Prop :=
  CondP (decide ((a : Int) ≥ 0))
    (Calls Tryz.prog 118 #[Value.pointer t] w (fun e1 w1 =>
     ∃ n : Int, e1 = .returned (Value.int .i64 n) ∧
     CondP (decide ((a : Int) < n))
       (CondP (decide ((b : Int) ≥ 0))
          (Calls Tryz.prog 118 #[Value.pointer t] w1 (fun e2 w2 =>
           ∃ n_1 : Int, e2 = .returned (Value.int .i64 n_1) ∧
           R (Value.bool (decide ((b : Int) < n_1))) w2))
          (R (Value.bool false) w1))
       (R (Value.bool false) w1)))
    (R (Value.bool false) w)
theorem vc183_eq (t : Option Addr) (a : Int) (b : Int) (w : World) (R : Value → World → Prop) : vc183 t a b w R = denFun ctx (bodyOf Tryz.f183) Tryz.f183.results.toList [Value.pointer t, Value.int .i64 a, Value.int .i64 b] w R := by kernel_rfl
theorem vc183_calls (t : Option Addr) (a : Int) (b : Int) (w : World) (R : Value → World → Prop) (h : vc183 t a b w R) : Calls Tryz.prog 183 #[Value.pointer t, Value.int .i64 a, Value.int .i64 b] w fun e w' => ∃ v, e = .returned v ∧ R v w' :=
  calls_of_den ctxOk (f := 183) (fn := Tryz.f183) (body := bodyOf Tryz.f183) (args := [Value.pointer t, Value.int .i64 a, Value.int .i64 b]) (by kernel_rfl) (by kernel_rfl) (by kernel_rfl) (by kernel_rfl) (Eq.mp (vc183_eq t a b w R) h)

/-! ### ligature/spine.begin: function 184 -/
def vc184 (t : Option Addr) (a : Int) (b : Int) (limit : Int) (w : World) (R : Value → World → Prop) : Prop :=
  ∀ w1 : World, w1 = w.alloc (.cells #[Value.int .i64 a, Value.int .i64 b, Value.pointer t, Value.int .i64 limit, Value.int .i64 0] 276) →
  R (Value.pointer (some (nb w))) w1
theorem vc184_eq (t : Option Addr) (a : Int) (b : Int) (limit : Int) (w : World) (R : Value → World → Prop) : vc184 t a b limit w R = denFun ctx (bodyOf Tryz.f184) Tryz.f184.results.toList [Value.pointer t, Value.int .i64 a, Value.int .i64 b, Value.int .i64 limit] w R := by kernel_rfl
theorem vc184_calls (t : Option Addr) (a : Int) (b : Int) (limit : Int) (w : World) (R : Value → World → Prop) (h : vc184 t a b limit w R) : Calls Tryz.prog 184 #[Value.pointer t, Value.int .i64 a, Value.int .i64 b, Value.int .i64 limit] w fun e w' => ∃ v, e = .returned v ∧ R v w' :=
  calls_of_den ctxOk (f := 184) (fn := Tryz.f184) (body := bodyOf Tryz.f184) (args := [Value.pointer t, Value.int .i64 a, Value.int .i64 b, Value.int .i64 limit]) (by kernel_rfl) (by kernel_rfl) (by kernel_rfl) (by kernel_rfl) (Eq.mp (vc184_eq t a b limit w R) h)

/-! ### (*ligature/spine.walk).free: function 185 -/
def vc185 (w_ : Option Addr) (w : World) (R : Value → World → Prop) : Prop :=
  ∀ I1 : List Value → World → Prop, (∀ y2 : Bool, ∀ w1 : World, (Calls Tryz.prog 207 #[Value.pointer w_] w1 (fun e2 w2 =>
    ∃ b : Bool, e2 = .returned (Value.bool b) ∧
    CondP (!b)
      (Calls Tryz.prog 208 #[Value.pointer w_] w2 (fun e3 w3 =>
       ∃ b_2 : Bool, e3 = .returned (Value.bool b_2) ∧
       CondP (!b_2)
         (R (Value.bool true) w3)
         (I1 [Value.bool y2] w3)))
      (R (Value.bool false) w2))) → I1 [Value.bool y2] w1) →
  I1 [Value.bool false] w
theorem vc185_eq (w_ : Option Addr) (w : World) (R : Value → World → Prop) : vc185 w_ w R = denFun ctx (bodyOf Tryz.f185) Tryz.f185.results.toList [Value.pointer w_] w R := by kernel_rfl
theorem vc185_calls (w_ : Option Addr) (w : World) (R : Value → World → Prop) (h : vc185 w_ w R) : Calls Tryz.prog 185 #[Value.pointer w_] w fun e w' => ∃ v, e = .returned v ∧ R v w' :=
  calls_of_den ctxOk (f := 185) (fn := Tryz.f185) (body := bodyOf Tryz.f185) (args := [Value.pointer w_]) (by kernel_rfl) (by kernel_rfl) (by kernel_rfl) (by kernel_rfl) (Eq.mp (vc185_eq w_ w R) h)

/-! ### slices.IndexFunc[[]ligature/api.Merge,ligature/api.Merge]: function 186 -/
def vc186 (sA : Option Addr) (sN : Nat) (sC : Nat) (f : Value) (w : World) (R : Value → World → Prop) : Prop :=
  ∀ I1 : List Value → World → Prop, (∀ y8 : Int, ∀ y4 : Int, ∀ w1 : World, (CondP (decide ((y8 : Int) < ((sN : Nat) : Int)))
      (NilC sA (fun pa =>
       (0 : Int) ≤ y8 ∧ y8 < ((sN : Nat) : Int) ∧
       ∃ g0 : Int, ∃ g1 : Int, (w1.cell? (pa.add ((y8 : Int).toNat * 2)) = some (Value.int .i64 g0) ∧ w1.cell? ((pa.add ((y8 : Int).toNat * 2)).add 1) = some (Value.int .i64 g1) ∧ True) ∧
       CallG ctx f [Value.agg #[Value.int .i64 g0, Value.int .i64 g1]] w1 (fun e2 w2 =>
       ∃ b : Bool, e2 = .returned (Value.bool b) ∧
       CondP b
         (R (Value.int .i64 y8) w2)
         (Ar .i64 ((y8 : Int) + 1) (fun n =>
          I1 [Value.int .i64 n, Value.int .i64 y4] w2)))))
      (R (Value.int .i64 (-1)) w1)) → I1 [Value.int .i64 y8, Value.int .i64 y4] w1) →
  I1 [Value.int .i64 0, Value.int .i64 0] w
theorem vc186_eq (sA : Option Addr) (sN : Nat) (sC : Nat) (f : Value) (w : World) (R : Value → World → Prop) : vc186 sA sN sC f w R = denFun ctx (bodyOf Tryz.f186) Tryz.f186.results.toList [Value.slice sA sN sC, f] w R := by kernel_rfl
theorem vc186_calls (sA : Option Addr) (sN : Nat) (sC : Nat) (f : Value) (w : World) (R : Value → World → Prop) (h : vc186 sA sN sC f w R) : Calls Tryz.prog 186 #[Value.slice sA sN sC, f] w fun e w' => ∃ v, e = .returned v ∧ R v w' :=
  calls_of_den ctxOk (f := 186) (fn := Tryz.f186) (body := bodyOf Tryz.f186) (args := [Value.slice sA sN sC, f]) (by kernel_rfl) (by kernel_rfl) (by kernel_rfl) (by kernel_rfl) (Eq.mp (vc186_eq sA sN sC f w R) h)

/-! ### slices.IndexFunc[[]string,string]: function 187 -/
def vc187 (sA : Option Addr) (sN : Nat) (sC : Nat) (f : Value) (w : World) (R : Value → World → Prop) : Prop :=
  ∀ I1 : List Value → World → Prop, (∀ y8 : Int, ∀ y4 : Int, ∀ w1 : World, (CondP (decide ((y8 : Int) < ((sN : Nat) : Int)))
      (NilC sA (fun pa =>
       (0 : Int) ≤ y8 ∧ y8 < ((sN : Nat) : Int) ∧
       ∃ s : ByteArray, w1.cell? (pa.add ((y8 : Int).toNat * 1)) = some (Value.string s) ∧
       CallG ctx f [Value.string s] w1 (fun e2 w2 =>
       ∃ b : Bool, e2 = .returned (Value.bool b) ∧
       CondP b
         (R (Value.int .i64 y8) w2)
         (Ar .i64 ((y8 : Int) + 1) (fun n =>
          I1 [Value.int .i64 n, Value.int .i64 y4] w2)))))
      (R (Value.int .i64 (-1)) w1)) → I1 [Value.int .i64 y8, Value.int .i64 y4] w1) →
  I1 [Value.int .i64 0, Value.int .i64 0] w
theorem vc187_eq (sA : Option Addr) (sN : Nat) (sC : Nat) (f : Value) (w : World) (R : Value → World → Prop) : vc187 sA sN sC f w R = denFun ctx (bodyOf Tryz.f187) Tryz.f187.results.toList [Value.slice sA sN sC, f] w R := by kernel_rfl
theorem vc187_calls (sA : Option Addr) (sN : Nat) (sC : Nat) (f : Value) (w : World) (R : Value → World → Prop) (h : vc187 sA sN sC f w R) : Calls Tryz.prog 187 #[Value.slice sA sN sC, f] w fun e w' => ∃ v, e = .returned v ∧ R v w' :=
  calls_of_den ctxOk (f := 187) (fn := Tryz.f187) (body := bodyOf Tryz.f187) (args := [Value.slice sA sN sC, f]) (by kernel_rfl) (by kernel_rfl) (by kernel_rfl) (by kernel_rfl) (Eq.mp (vc187_eq sA sN sC f w R) h)

/-! ### slices.IndexFunc[[]ligature/api.Class,ligature/api.Class]: function 188 -/
def vc188 (sA : Option Addr) (sN : Nat) (sC : Nat) (f : Value) (w : World) (R : Value → World → Prop) : Prop :=
  ∀ I1 : List Value → World → Prop, (∀ y8 : Int, ∀ y4 : Int, ∀ w1 : World, (CondP (decide ((y8 : Int) < ((sN : Nat) : Int)))
      (NilC sA (fun pa =>
       (0 : Int) ≤ y8 ∧ y8 < ((sN : Nat) : Int) ∧
       ∃ g0 : Int, ∃ g1 : Int, ∃ g2 : Int, (w1.cell? (pa.add ((y8 : Int).toNat * 3)) = some (Value.int .i64 g0) ∧ w1.cell? ((pa.add ((y8 : Int).toNat * 3)).add 1) = some (Value.int .i64 g1) ∧ w1.cell? ((pa.add ((y8 : Int).toNat * 3)).add 2) = some (Value.int .i64 g2) ∧ True) ∧
       CallG ctx f [Value.agg #[Value.int .i64 g0, Value.int .i64 g1, Value.int .i64 g2]] w1 (fun e2 w2 =>
       ∃ b : Bool, e2 = .returned (Value.bool b) ∧
       CondP b
         (R (Value.int .i64 y8) w2)
         (Ar .i64 ((y8 : Int) + 1) (fun n =>
          I1 [Value.int .i64 n, Value.int .i64 y4] w2)))))
      (R (Value.int .i64 (-1)) w1)) → I1 [Value.int .i64 y8, Value.int .i64 y4] w1) →
  I1 [Value.int .i64 0, Value.int .i64 0] w
theorem vc188_eq (sA : Option Addr) (sN : Nat) (sC : Nat) (f : Value) (w : World) (R : Value → World → Prop) : vc188 sA sN sC f w R = denFun ctx (bodyOf Tryz.f188) Tryz.f188.results.toList [Value.slice sA sN sC, f] w R := by kernel_rfl
theorem vc188_calls (sA : Option Addr) (sN : Nat) (sC : Nat) (f : Value) (w : World) (R : Value → World → Prop) (h : vc188 sA sN sC f w R) : Calls Tryz.prog 188 #[Value.slice sA sN sC, f] w fun e w' => ∃ v, e = .returned v ∧ R v w' :=
  calls_of_den ctxOk (f := 188) (fn := Tryz.f188) (body := bodyOf Tryz.f188) (args := [Value.slice sA sN sC, f]) (by kernel_rfl) (by kernel_rfl) (by kernel_rfl) (by kernel_rfl) (Eq.mp (vc188_eq sA sN sC f w R) h)

/-! ### slices.IndexFunc[[]ligature/api.Join,ligature/api.Join]: function 189 -/
def vc189 (sA : Option Addr) (sN : Nat) (sC : Nat) (f : Value) (w : World) (R : Value → World → Prop) : Prop :=
  ∀ I1 : List Value → World → Prop, (∀ y8 : Int, ∀ y4 : Int, ∀ w1 : World, (CondP (decide ((y8 : Int) < ((sN : Nat) : Int)))
      (NilC sA (fun pa =>
       (0 : Int) ≤ y8 ∧ y8 < ((sN : Nat) : Int) ∧
       ∃ g0 : Int, ∃ g1 : Int, (w1.cell? (pa.add ((y8 : Int).toNat * 2)) = some (Value.int .i64 g0) ∧ w1.cell? ((pa.add ((y8 : Int).toNat * 2)).add 1) = some (Value.int .i64 g1) ∧ True) ∧
       CallG ctx f [Value.agg #[Value.int .i64 g0, Value.int .i64 g1]] w1 (fun e2 w2 =>
       ∃ b : Bool, e2 = .returned (Value.bool b) ∧
       CondP b
         (R (Value.int .i64 y8) w2)
         (Ar .i64 ((y8 : Int) + 1) (fun n =>
          I1 [Value.int .i64 n, Value.int .i64 y4] w2)))))
      (R (Value.int .i64 (-1)) w1)) → I1 [Value.int .i64 y8, Value.int .i64 y4] w1) →
  I1 [Value.int .i64 0, Value.int .i64 0] w
theorem vc189_eq (sA : Option Addr) (sN : Nat) (sC : Nat) (f : Value) (w : World) (R : Value → World → Prop) : vc189 sA sN sC f w R = denFun ctx (bodyOf Tryz.f189) Tryz.f189.results.toList [Value.slice sA sN sC, f] w R := by kernel_rfl
theorem vc189_calls (sA : Option Addr) (sN : Nat) (sC : Nat) (f : Value) (w : World) (R : Value → World → Prop) (h : vc189 sA sN sC f w R) : Calls Tryz.prog 189 #[Value.slice sA sN sC, f] w fun e w' => ∃ v, e = .returned v ∧ R v w' :=
  calls_of_den ctxOk (f := 189) (fn := Tryz.f189) (body := bodyOf Tryz.f189) (args := [Value.slice sA sN sC, f]) (by kernel_rfl) (by kernel_rfl) (by kernel_rfl) (by kernel_rfl) (Eq.mp (vc189_eq sA sN sC f w R) h)

/-! ### ligature/grow.parents: function 190 -/
def vc190 (t : Option Addr) (s : ByteArray) (w : World) (R : Value → World → Prop) : Prop :=
  ∀ w1 : World, w1 = w.alloc (.cells #[Value.int .i64 0, Value.int .i64 0] 81) →
  Calls Tryz.prog 135 #[Value.pointer t, Value.string s] w1 (fun e2 w2 =>
  ∃ lA : Option Addr, ∃ lN : Nat, ∃ lC : Nat, e2 = .returned (Value.slice lA lN lC) ∧
  CondP ((((lN : Nat) : Int) : Int) != 2)
    (StoreP w2 (nb w) (fun w3 =>
     ∃ res0 : Int, ∃ res1 : Int, (w3.cell? (nb w) = some (Value.int .i64 res0) ∧ w3.cell? ((nb w).add 1) = some (Value.int .i64 res1) ∧ True) ∧
     R (Value.tuple #[Value.agg #[Value.int .i64 res0, Value.int .i64 res1], Value.bool false]) w3) [Value.int .i64 0, Value.int .i64 0] 0)
    (∀ w4 : World, w4 = w2.drew →
     NilC lA (fun pa =>
     (0 : Int) ≤ 0 ∧ 0 < ((lN : Nat) : Int) ∧
     ∃ n : Int, w4.cell? (pa.add ((0 : Int).toNat * 1)) = some (Value.int .i64 n) ∧
     NilC lA (fun pa_1 =>
     (0 : Int) ≤ 1 ∧ 1 < ((lN : Nat) : Int) ∧
     ∃ n_2 : Int, w4.cell? (pa_1.add ((1 : Int).toNat * 1)) = some (Value.int .i64 n_2) ∧
     StoreP w4 (nb w) (fun w5 =>
     ∃ res0_3 : Int, ∃ res1_4 : Int, (w5.cell? (nb w) = some (Value.int .i64 res0_3) ∧ w5.cell? ((nb w).add 1) = some (Value.int .i64 res1_4) ∧ True) ∧
     R (Value.tuple #[Value.agg #[Value.int .i64 res0_3, Value.int .i64 res1_4], Value.bool true]) w5) [Value.int .i64 n, Value.int .i64 n_2] 0))))
theorem vc190_eq (t : Option Addr) (s : ByteArray) (w : World) (R : Value → World → Prop) : vc190 t s w R = denFun ctx (bodyOf Tryz.f190) Tryz.f190.results.toList [Value.pointer t, Value.string s] w R := by kernel_rfl
theorem vc190_calls (t : Option Addr) (s : ByteArray) (w : World) (R : Value → World → Prop) (h : vc190 t s w R) : Calls Tryz.prog 190 #[Value.pointer t, Value.string s] w fun e w' => ∃ v, e = .returned v ∧ R v w' :=
  calls_of_den ctxOk (f := 190) (fn := Tryz.f190) (body := bodyOf Tryz.f190) (args := [Value.pointer t, Value.string s]) (by kernel_rfl) (by kernel_rfl) (by kernel_rfl) (by kernel_rfl) (Eq.mp (vc190_eq t s w R) h)

/-! ### (*ligature/token.Table).Add: function 191 -/
def vc191 (t : Option Addr) (m0 : Int) (m1 : Int) (w : World) (R : Value → World → Prop) : Prop :=
  ∀ w1 : World, w1 = w.alloc (.cells #[Value.int .i64 m0, Value.int .i64 m1] 81) →
  CondP (Option.isNone t)
    (R (Value.tuple #[Value.int .i64 0, Value.int .i64 1]) w1)
    (∃ n : Int, w1.cell? ((nb w).add 0) = some (Value.int .i64 n) ∧
     Calls Tryz.prog 179 #[Value.pointer t, Value.int .i64 n] w1 (fun e2 w2 =>
     ∃ b : Bool, e2 = .returned (Value.bool b) ∧
     CondP (!b)
       (R (Value.tuple #[Value.int .i64 0, Value.int .i64 4]) w2)
       (∃ n_1 : Int, w2.cell? ((nb w).add 1) = some (Value.int .i64 n_1) ∧
        Calls Tryz.prog 179 #[Value.pointer t, Value.int .i64 n_1] w2 (fun e3 w3 =>
        ∃ b_2 : Bool, e3 = .returned (Value.bool b_2) ∧
        CondP (!b_2)
          (R (Value.tuple #[Value.int .i64 0, Value.int .i64 4]) w3)
          (∀ w4 : World, w4 = w3.drew →
           NilC t (fun pa =>
           ∃ lA : Option Addr, ∃ lN : Nat, ∃ lC : Nat, w4.cell? (pa.add 0) = some (Value.slice lA lN lC) ∧
           ∃ n_3 : Int, w4.cell? ((nb w).add 0) = some (Value.int .i64 n_3) ∧
           NilC lA (fun pa_4 =>
           (0 : Int) ≤ n_3 ∧ n_3 < ((lN : Nat) : Int) ∧
           ∃ s : ByteArray, w4.cell? ((pa_4.add ((n_3 : Int).toNat * 3)).add 0) = some (Value.string s) ∧
           NilC t (fun pa_5 =>
           ∃ lA_6 : Option Addr, ∃ lN_7 : Nat, ∃ lC_8 : Nat, w4.cell? (pa_5.add 0) = some (Value.slice lA_6 lN_7 lC_8) ∧
           ∃ n_9 : Int, w4.cell? ((nb w).add 1) = some (Value.int .i64 n_9) ∧
           NilC lA_6 (fun pa_10 =>
           (0 : Int) ≤ n_9 ∧ n_9 < ((lN_7 : Nat) : Int) ∧
           ∃ s_11 : ByteArray, w4.cell? ((pa_10.add ((n_9 : Int).toNat * 3)).add 0) = some (Value.string s_11) ∧
           (((s : ByteArray).size + (s_11 : ByteArray).size : Nat) : Int) ≤ IntKind.i64.max ∧
           CondP (decide (((((s : ByteArray) ++ (s_11 : ByteArray) : ByteArray).size : Int) : Int) > 64))
             (R (Value.tuple #[Value.int .i64 0, Value.int .i64 3]) w4)
             (NilC t (fun pa_12 =>
              ∃ lA_13 : Option Addr, ∃ lN_14 : Nat, ∃ lC_15 : Nat, w4.cell? (pa_12.add 0) = some (Value.slice lA_13 lN_14 lC_15) ∧
              CondP (decide ((((lN_14 : Nat) : Int) : Int) ≥ 1000))
                (R (Value.tuple #[Value.int .i64 0, Value.int .i64 5]) w4)
                (NilC t (fun pa_16 =>
                 ∃ m : Option Nat, w4.cell? (pa_16.add 1) = some (Value.map m) ∧
                 ∃ r0 : Int, ∃ r1 : Bool, ∃ w5 : World, (Instr.lookup 168 (Value.map m) (Value.string ((s : ByteArray) ++ (s_11 : ByteArray))) true).run Tryz.prog w4 = .ok (Value.tuple #[Value.int .i64 r0, Value.bool r1]) w5 ∧
                 CondP r1
                   (R (Value.tuple #[Value.int .i64 0, Value.int .i64 10]) w5)
                   (NilC t (fun pa_17 =>
                    ∃ lA_18 : Option Addr, ∃ lN_19 : Nat, ∃ lC_20 : Nat, w5.cell? (pa_17.add 0) = some (Value.slice lA_18 lN_19 lC_20) ∧
                    ∀ w6 : World, w6 = w5.drew →
                    NilC t (fun pa_21 =>
                    ∃ lA_22 : Option Addr, ∃ lN_23 : Nat, ∃ lC_24 : Nat, w6.cell? (pa_21.add 0) = some (Value.slice lA_22 lN_23 lC_24) ∧
                    ∃ g0 : Int, ∃ g1 : Int, (w6.cell? (nb w) = some (Value.int .i64 g0) ∧ w6.cell? ((nb w).add 1) = some (Value.int .i64 g1) ∧ True) ∧
                    ∀ w7 : World, w7 = w6.alloc (.cells #[Value.string ((s : ByteArray) ++ (s_11 : ByteArray)), Value.int .i64 g0, Value.int .i64 g1] 250) →
                    (w7.cell? (pa_21.add 0) = some (Value.slice lA_22 lN_23 lC_24) ∧ True) ∧
                    ∃ lA_25 : Option Addr, ∃ lN_26 : Nat, ∃ lC_27 : Nat, ∃ w8 : World, (Builtin.append_ #[221, 221] 221 #[Value.slice lA_22 lN_23 lC_24, Value.slice (some (nb w6)) 1 1]).run Tryz.prog w7 = .ok (Value.slice lA_25 lN_26 lC_27) w8 ∧
                    NilC t (fun pa_28 =>
                    (Value.slice lA_25 lN_26 lC_27).oneCell' = true ∧ (∃ u, w8.cell? (pa_28.add 0) = some u) ∧ w8.frozen? (pa_28.add 0) = false ∧
                    ∀ w9 : World, w9 = (w8.setCell (pa_28.add 0) (Value.slice lA_25 lN_26 lC_27)) →
                    ∀ w10 : World, w10 = w9.drew →
                    NilC t (fun pa_29 =>
                    ∃ m_30 : Option Nat, w10.cell? (pa_29.add 1) = some (Value.map m_30) ∧
                    NilC t (fun pa_31 =>
                    ∃ m_32 : Option Nat, w10.cell? (pa_31.add 2) = some (Value.map m_32) ∧
                    ∃ g0_33 : Int, ∃ g1_34 : Int, (w10.cell? (nb w) = some (Value.int .i64 g0_33) ∧ w10.cell? ((nb w).add 1) = some (Value.int .i64 g1_34) ∧ True) ∧
                    ∃ r0_35 : Int, ∃ r1_36 : Int, ∃ w11 : World, (Instr.mapEntry 168 (Value.map m_30) (Value.string ((s : ByteArray) ++ (s_11 : ByteArray)))).run Tryz.prog w10 = .ok (Value.tuple #[Value.int .i64 r0_35, Value.int .i64 r1_36]) w11 ∧
                    (w11.cell? (nb w) = some (Value.int .i64 g0_33) ∧ w11.cell? ((nb w).add 1) = some (Value.int .i64 g1_34) ∧ True) ∧
                    ∃ w12 : World, (Instr.entryStore 168 (Value.map m_30) (Value.int .i64 r1_36) (Value.int .i64 ((lN_19 : Nat) : Int))).run Tryz.prog w11 = .ok () w12 ∧
                    (w12.cell? (nb w) = some (Value.int .i64 g0_33) ∧ w12.cell? ((nb w).add 1) = some (Value.int .i64 g1_34) ∧ True) ∧
                    ∃ r0_37 : Int, ∃ r1_38 : Int, ∃ w13 : World, (Instr.mapEntry 222 (Value.map m_32) (Value.agg #[Value.int .i64 g0_33, Value.int .i64 g1_34])).run Tryz.prog w12 = .ok (Value.tuple #[Value.int .i64 r0_37, Value.int .i64 r1_38]) w13 ∧
                    ∃ w14 : World, (Instr.entryStore 222 (Value.map m_32) (Value.int .i64 r1_38) (Value.int .i64 ((lN_19 : Nat) : Int))).run Tryz.prog w13 = .ok () w14 ∧
                    NilC t (fun pa_39 =>
                    ∃ n_40 : Int, w14.cell? (pa_39.add 3) = some (Value.int .i64 n_40) ∧
                    ∃ n_41 : Int, ∃ w15 : World, (Builtin.max_ #[3, 3] 3 #[Value.int .i64 n_40, Value.int .i64 (((s : ByteArray) ++ (s_11 : ByteArray) : ByteArray).size : Int)]).run Tryz.prog w14 = .ok (Value.int .i64 n_41) w15 ∧
                    NilC t (fun pa_42 =>
                    (Value.int .i64 n_41).oneCell' = true ∧ (∃ u, w15.cell? (pa_42.add 3) = some u) ∧ w15.frozen? (pa_42.add 3) = false ∧
                    ∀ w16 : World, w16 = (w15.setCell (pa_42.add 3) (Value.int .i64 n_41)) →
                    R (Value.tuple #[Value.int .i64 ((lN_19 : Nat) : Int), Value.int .i64 0]) w16)))))))))))))))))))))
theorem vc191_eq (t : Option Addr) (m0 : Int) (m1 : Int) (w : World) (R : Value → World → Prop) : vc191 t m0 m1 w R = denFun ctx (bodyOf Tryz.f191) Tryz.f191.results.toList [Value.pointer t, Value.agg #[Value.int .i64 m0, Value.int .i64 m1]] w R := by kernel_rfl
theorem vc191_calls (t : Option Addr) (m0 : Int) (m1 : Int) (w : World) (R : Value → World → Prop) (h : vc191 t m0 m1 w R) : Calls Tryz.prog 191 #[Value.pointer t, Value.agg #[Value.int .i64 m0, Value.int .i64 m1]] w fun e w' => ∃ v, e = .returned v ∧ R v w' :=
  calls_of_den ctxOk (f := 191) (fn := Tryz.f191) (body := bodyOf Tryz.f191) (args := [Value.pointer t, Value.agg #[Value.int .i64 m0, Value.int .i64 m1]]) (by kernel_rfl) (by kernel_rfl) (by kernel_rfl) (by kernel_rfl) (Eq.mp (vc191_eq t m0 m1 w R) h)

/-! ### ligature/token.begin: function 192 -/
def vc192 (w : World) (R : Value → World → Prop) : Prop :=
  ∃ m : Option Nat, ∃ w1 : World, (Instr.makeMap 168 none).run Tryz.prog w = .ok (Value.map m) w1 ∧
  ∃ m_1 : Option Nat, ∃ w2 : World, (Instr.makeMap 222 none).run Tryz.prog w1 = .ok (Value.map m_1) w2 ∧
  ∀ w3 : World, w3 = w2.alloc (.cells #[Value.slice none 0 0, Value.map m, Value.map m_1, Value.int .i64 1] 224) →
  ∀ I2 : List Value → World → Prop, (∀ y8 : Int, ∀ w4 : World, (CondP (decide ((y8 : Int) < 256))
      (∀ w5 : World, w5 = w4.alloc (.cells #[Value.int .u8 (IntKind.wrap .u8 y8)] 5) →
       ∃ s : ByteArray, ∃ w6 : World, (convert 89 9 (Value.slice (some (nb w4)) 1 1)).run Tryz.prog w5 = .ok (Value.string s) w6 ∧
       ∃ lA : Option Addr, ∃ lN : Nat, ∃ lC : Nat, w6.cell? ((nb w2).add 0) = some (Value.slice lA lN lC) ∧
       ∀ w7 : World, w7 = w6.alloc (.cells #[Value.string s, Value.int .i64 (-1), Value.int .i64 (-1)] 250) →
       ∃ lA_3 : Option Addr, ∃ lN_4 : Nat, ∃ lC_5 : Nat, ∃ w8 : World, (Builtin.append_ #[221, 221] 221 #[Value.slice lA lN lC, Value.slice (some (nb w6)) 1 1]).run Tryz.prog w7 = .ok (Value.slice lA_3 lN_4 lC_5) w8 ∧
       (Value.slice lA_3 lN_4 lC_5).oneCell' = true ∧ (∃ u, w8.cell? ((nb w2).add 0) = some u) ∧ w8.frozen? ((nb w2).add 0) = false ∧
       ∀ w9 : World, w9 = (w8.setCell ((nb w2).add 0) (Value.slice lA_3 lN_4 lC_5)) →
       ∃ m_6 : Option Nat, w9.cell? ((nb w2).add 1) = some (Value.map m_6) ∧
       ∃ w10 : World, (Instr.mapUpdate 168 (Value.map m_6) (Value.string s) (Value.int .i64 y8)).run Tryz.prog w9 = .ok () w10 ∧
       Ar .i64 ((y8 : Int) + 1) (fun n =>
       I2 [Value.int .i64 n] w10))
      (R (Value.pointer (some (nb w2))) w4)) → I2 [Value.int .i64 y8] w4) →
  I2 [Value.int .i64 0] w3
theorem vc192_eq (w : World) (R : Value → World → Prop) : vc192 w R = denFun ctx (bodyOf Tryz.f192) Tryz.f192.results.toList [] w R := by kernel_rfl
theorem vc192_calls (w : World) (R : Value → World → Prop) (h : vc192 w R) : Calls Tryz.prog 192 #[] w fun e w' => ∃ v, e = .returned v ∧ R v w' :=
  calls_of_den ctxOk (f := 192) (fn := Tryz.f192) (body := bodyOf Tryz.f192) (args := []) (by kernel_rfl) (by kernel_rfl) (by kernel_rfl) (by kernel_rfl) (Eq.mp (vc192_eq w R) h)

/-! ### ligature/mark.right: function 193 -/
def vc193 (x0_ : Int) (x1_ : ByteArray) (w : World) (R : Value → World → Prop) : Prop :=
  ∀ w1 : World, w1 = w.alloc (.cells #[Value.int .i64 x0_, Value.string x1_] 93) →
  ∃ n : Int, w1.cell? ((nb w).add 0) = some (Value.int .i64 n) ∧
  CondP (decide ((n : Int) ≥ 0))
    (∃ n_1 : Int, w1.cell? ((nb w).add 0) = some (Value.int .i64 n_1) ∧
     CondP (decide ((n_1 : Int) ≤ 1073741824))
       (∃ s : ByteArray, w1.cell? ((nb w).add 1) = some (Value.string s) ∧
        CondP (!((s : ByteArray).toList == (⟨#[]⟩ : ByteArray).toList))
          (∃ s_2 : ByteArray, w1.cell? ((nb w).add 1) = some (Value.string s_2) ∧
           R (Value.bool (decide ((((s_2 : ByteArray).size : Int) : Int) ≤ 64))) w1)
          (R (Value.bool false) w1))
       (R (Value.bool false) w1))
    (R (Value.bool false) w1)
theorem vc193_eq (x0_ : Int) (x1_ : ByteArray) (w : World) (R : Value → World → Prop) : vc193 x0_ x1_ w R = denFun ctx (bodyOf Tryz.f193) Tryz.f193.results.toList [Value.agg #[Value.int .i64 x0_, Value.string x1_]] w R := by kernel_rfl
theorem vc193_calls (x0_ : Int) (x1_ : ByteArray) (w : World) (R : Value → World → Prop) (h : vc193 x0_ x1_ w R) : Calls Tryz.prog 193 #[Value.agg #[Value.int .i64 x0_, Value.string x1_]] w fun e w' => ∃ v, e = .returned v ∧ R v w' :=
  calls_of_den ctxOk (f := 193) (fn := Tryz.f193) (body := bodyOf Tryz.f193) (args := [Value.agg #[Value.int .i64 x0_, Value.string x1_]]) (by kernel_rfl) (by kernel_rfl) (by kernel_rfl) (by kernel_rfl) (Eq.mp (vc193_eq x0_ x1_ w R) h)

/-! ### ligature/chain.begin: function 204 -/
def vc204 (t : Option Addr) (s : ByteArray) (below : Int) (w : World) (R : Value → World → Prop) : Prop :=
  Calls Tryz.prog 218 #[] w (fun e1 w1 =>
  ∃ p : Option Addr, e1 = .returned (Value.pointer p) ∧
  ∀ w2 : World, w2 = w1.alloc (.cells #[Value.pointer t, Value.slice none 0 0, Value.pointer p, Value.int .i64 below, Value.int .i64 0] 292) →
  ∀ I1 : List Value → World → Prop, (∀ y18 : Int, ∀ w3 : World, (CondP (decide ((y18 : Int) < ((s : ByteArray).size : Int)))
      (∀ w4 : World, w4 = w3.drew →
       ∃ lA : Option Addr, ∃ lN : Nat, ∃ lC : Nat, w4.cell? ((nb w1).add 1) = some (Value.slice lA lN lC) ∧
       (0 : Int) ≤ y18 ∧ y18 < ((s : ByteArray).size : Int) ∧
       Ar .i64 ((y18 : Int) - 1) (fun n =>
       Ar .i64 ((y18 : Int) + 1) (fun n_2 =>
       ∀ w5 : World, w5 = w4.alloc (.cells #[Value.int .i64 (IntKind.wrap .i64 (btAt s y18)), Value.int .i64 n, Value.int .i64 n_2] 294) →
       (w5.cell? ((nb w1).add 1) = some (Value.slice lA lN lC) ∧ True) ∧
       ∃ lA_3 : Option Addr, ∃ lN_4 : Nat, ∃ lC_5 : Nat, ∃ w6 : World, (Builtin.append_ #[290, 290] 290 #[Value.slice lA lN lC, Value.slice (some (nb w4)) 1 1]).run Tryz.prog w5 = .ok (Value.slice lA_3 lN_4 lC_5) w6 ∧
       (Value.slice lA_3 lN_4 lC_5).oneCell' = true ∧ (∃ u, w6.cell? ((nb w1).add 1) = some u) ∧ w6.frozen? ((nb w1).add 1) = false ∧
       ∀ w7 : World, w7 = (w6.setCell ((nb w1).add 1) (Value.slice lA_3 lN_4 lC_5)) →
       Ar .i64 ((y18 : Int) + 1) (fun n_6 =>
       I1 [Value.int .i64 n_6] w7))))
      (∀ J7 : List Value → World → Prop, (∀ w8 : World, (∃ lA_8 : Option Addr, ∃ lN_9 : Nat, ∃ lC_10 : Nat, w8.cell? ((nb w1).add 1) = some (Value.slice lA_8 lN_9 lC_10) ∧
         ∀ I11 : List Value → World → Prop, (∀ y60 : Int, ∀ w9 : World, (CondP (decide ((y60 : Int) < ((lN_9 : Nat) : Int)))
             (Calls Tryz.prog 219 #[Value.pointer (some (nb w1)), Value.int .i64 y60] w9 (fun e10 w10 =>
              e10 = .returned (Value.tuple #[]) ∧
              Ar .i64 ((y60 : Int) + 1) (fun n_12 =>
              I11 [Value.int .i64 n_12] w10)))
             (R (Value.pointer (some (nb w1))) w9)) → I11 [Value.int .i64 y60] w9) →
         I11 [Value.int .i64 0] w8) → J7 [] w8) →
       ∃ lA_13 : Option Addr, ∃ lN_14 : Nat, ∃ lC_15 : Nat, w3.cell? ((nb w1).add 1) = some (Value.slice lA_13 lN_14 lC_15) ∧
       CondP (decide ((((lN_14 : Nat) : Int) : Int) > 0))
         (∃ lA_16 : Option Addr, ∃ lN_17 : Nat, ∃ lC_18 : Nat, w3.cell? ((nb w1).add 1) = some (Value.slice lA_16 lN_17 lC_18) ∧
          Ar .i64 ((((lN_14 : Nat) : Int) : Int) - 1) (fun n_19 =>
          NilC lA_16 (fun pa =>
          (0 : Int) ≤ n_19 ∧ n_19 < ((lN_17 : Nat) : Int) ∧
          (Value.int .i64 (-1)).oneCell' = true ∧ (∃ u, w3.cell? ((pa.add ((n_19 : Int).toNat * 3)).add 2) = some u) ∧ w3.frozen? ((pa.add ((n_19 : Int).toNat * 3)).add 2) = false ∧
          ∀ w11 : World, w11 = (w3.setCell ((pa.add ((n_19 : Int).toNat * 3)).add 2) (Value.int .i64 (-1))) →
          J7 [] w11)))
         (J7 [] w3))) → I1 [Value.int .i64 y18] w3) →
  I1 [Value.int .i64 0] w2)
theorem vc204_eq (t : Option Addr) (s : ByteArray) (below : Int) (w : World) (R : Value → World → Prop) : vc204 t s below w R = denFun ctx (bodyOf Tryz.f204) Tryz.f204.results.toList [Value.pointer t, Value.string s, Value.int .i64 below] w R := by kernel_rfl
theorem vc204_calls (t : Option Addr) (s : ByteArray) (below : Int) (w : World) (R : Value → World → Prop) (h : vc204 t s below w R) : Calls Tryz.prog 204 #[Value.pointer t, Value.string s, Value.int .i64 below] w fun e w' => ∃ v, e = .returned v ∧ R v w' :=
  calls_of_den ctxOk (f := 204) (fn := Tryz.f204) (body := bodyOf Tryz.f204) (args := [Value.pointer t, Value.string s, Value.int .i64 below]) (by kernel_rfl) (by kernel_rfl) (by kernel_rfl) (by kernel_rfl) (Eq.mp (vc204_eq t s below w R) h)

/-! ### (*ligature/chain.link).run: function 205 -/
def vc205 (c : Option Addr) (w : World) (R : Value → World → Prop) : Prop :=
  ∀ I1 : List Value → World → Prop, (∀ w1 : World, (∀ J2 : List Value → World → Prop, (∀ w2 : World, (I1 [] w2) → J2 [] w2) →
    NilC c (fun pa =>
    ∃ p : Option Addr, w1.cell? (pa.add 2) = some (Value.pointer p) ∧
    Calls Tryz.prog 220 #[Value.pointer p] w1 (fun e3 w3 =>
    ∃ r00 : Int, ∃ r01 : Int, ∃ r02 : Int, ∃ r1 : Int, ∃ r2 : Int, ∃ r3 : Bool, e3 = .returned (Value.tuple #[Value.agg #[Value.int .i64 r00, Value.int .i64 r01, Value.int .i64 r02], Value.int .i64 r1, Value.int .i64 r2, Value.bool r3]) ∧
    ∀ w4 : World, w4 = w3.alloc (.cells #[Value.int .i64 0, Value.int .i64 0, Value.int .i64 0] 289) →
    StoreP w4 (nb w3) (fun w5 =>
    CondP (!r3)
      (R (Value.tuple #[]) w5)
      (∃ g0 : Int, ∃ g1 : Int, ∃ g2 : Int, (w5.cell? (nb w3) = some (Value.int .i64 g0) ∧ w5.cell? ((nb w3).add 1) = some (Value.int .i64 g1) ∧ w5.cell? ((nb w3).add 2) = some (Value.int .i64 g2) ∧ True) ∧
       Calls Tryz.prog 221 #[Value.pointer c, Value.agg #[Value.int .i64 g0, Value.int .i64 g1, Value.int .i64 g2]] w5 (fun e6 w6 =>
       ∃ b : Bool, e6 = .returned (Value.bool b) ∧
       CondP (!b)
         (∃ n : Int, w6.cell? ((nb w3).add 0) = some (Value.int .i64 n) ∧
          Calls Tryz.prog 222 #[Value.pointer c, Value.int .i64 n, Value.int .i64 r1] w6 (fun e7 w7 =>
          e7 = .returned (Value.tuple #[]) ∧
          J2 [] w7))
         (J2 [] w6)))) [Value.int .i64 r00, Value.int .i64 r01, Value.int .i64 r02] 0))) → I1 [] w1) →
  I1 [] w
theorem vc205_eq (c : Option Addr) (w : World) (R : Value → World → Prop) : vc205 c w R = denFun ctx (bodyOf Tryz.f205) Tryz.f205.results.toList [Value.pointer c] w R := by kernel_rfl
theorem vc205_calls (c : Option Addr) (w : World) (R : Value → World → Prop) (h : vc205 c w R) : Calls Tryz.prog 205 #[Value.pointer c] w fun e w' => ∃ v, e = .returned v ∧ R v w' :=
  calls_of_den ctxOk (f := 205) (fn := Tryz.f205) (body := bodyOf Tryz.f205) (args := [Value.pointer c]) (by kernel_rfl) (by kernel_rfl) (by kernel_rfl) (by kernel_rfl) (Eq.mp (vc205_eq c w R) h)

/-! ### (*ligature/chain.link).ids: function 206 -/
def vc206 (c : Option Addr) (w : World) (R : Value → World → Prop) : Prop :=
  ∀ I1 : List Value → World → Prop, (∀ i : Int, ∀ outA : Option Addr, ∀ outN : Nat, ∀ outC : Nat, ∀ w1 : World, (CondP ((i : Int) != (-1))
      (NilC c (fun pa =>
       ∃ lA : Option Addr, ∃ lN : Nat, ∃ lC : Nat, w1.cell? (pa.add 1) = some (Value.slice lA lN lC) ∧
       CondP (decide ((i : Int) < ((lN : Nat) : Int)))
         (NilC c (fun pa_2 =>
          ∃ lA_3 : Option Addr, ∃ lN_4 : Nat, ∃ lC_5 : Nat, w1.cell? (pa_2.add 1) = some (Value.slice lA_3 lN_4 lC_5) ∧
          NilC lA_3 (fun pa_6 =>
          (0 : Int) ≤ i ∧ i < ((lN_4 : Nat) : Int) ∧
          ∃ n : Int, w1.cell? ((pa_6.add ((i : Int).toNat * 3)).add 0) = some (Value.int .i64 n) ∧
          ∀ w2 : World, w2 = w1.alloc (.cells #[Value.int .i64 n] 3) →
          ∃ lA_7 : Option Addr, ∃ lN_8 : Nat, ∃ lC_9 : Nat, ∃ w3 : World, (Builtin.append_ #[28, 28] 28 #[Value.slice outA outN outC, Value.slice (some (nb w1)) 1 1]).run Tryz.prog w2 = .ok (Value.slice lA_7 lN_8 lC_9) w3 ∧
          NilC c (fun pa_10 =>
          ∃ lA_11 : Option Addr, ∃ lN_12 : Nat, ∃ lC_13 : Nat, w3.cell? (pa_10.add 1) = some (Value.slice lA_11 lN_12 lC_13) ∧
          NilC lA_11 (fun pa_14 =>
          (0 : Int) ≤ i ∧ i < ((lN_12 : Nat) : Int) ∧
          ∃ n_15 : Int, w3.cell? ((pa_14.add ((i : Int).toNat * 3)).add 2) = some (Value.int .i64 n_15) ∧
          I1 [Value.int .i64 n_15, Value.slice lA_7 lN_8 lC_9] w3)))))
         (R (Value.slice outA outN outC) w1)))
      (R (Value.slice outA outN outC) w1)) → I1 [Value.int .i64 i, Value.slice outA outN outC] w1) →
  I1 [Value.int .i64 0, Value.slice none 0 0] w
theorem vc206_eq (c : Option Addr) (w : World) (R : Value → World → Prop) : vc206 c w R = denFun ctx (bodyOf Tryz.f206) Tryz.f206.results.toList [Value.pointer c] w R := by kernel_rfl
theorem vc206_calls (c : Option Addr) (w : World) (R : Value → World → Prop) (h : vc206 c w R) : Calls Tryz.prog 206 #[Value.pointer c] w fun e w' => ∃ v, e = .returned v ∧ R v w' :=
  calls_of_den ctxOk (f := 206) (fn := Tryz.f206) (body := bodyOf Tryz.f206) (args := [Value.pointer c]) (by kernel_rfl) (by kernel_rfl) (by kernel_rfl) (by kernel_rfl) (Eq.mp (vc206_eq c w R) h)

/-! ### (*ligature/spine.walk).blocked: function 207 -/
def vc207 (w_ : Option Addr) (w : World) (R : Value → World → Prop) : Prop :=
  ∀ w1 : World, w1 = w.drew →
  NilC w_ (fun pa =>
  ∃ p : Option Addr, w1.cell? (pa.add 2) = some (Value.pointer p) ∧
  NilC w_ (fun pa_1 =>
  ∃ n : Int, w1.cell? (((pa_1.add 0).add 0).add 0) = some (Value.int .i64 n) ∧
  NilC w_ (fun pa_2 =>
  ∃ n_3 : Int, w1.cell? (((pa_2.add 0).add 0).add 1) = some (Value.int .i64 n_3) ∧
  Calls Tryz.prog 223 #[Value.pointer p, Value.int .i64 n, Value.int .i64 n_3] w1 (fun e2 w2 =>
  ∃ r0 : Int, ∃ r1 : Bool, e2 = .returned (Value.tuple #[Value.int .i64 r0, Value.bool r1]) ∧
  CondP r1
    (NilC w_ (fun pa_4 =>
     ∃ n_5 : Int, w2.cell? (pa_4.add 3) = some (Value.int .i64 n_5) ∧
     R (Value.bool (decide ((r0 : Int) < n_5))) w2))
    (R (Value.bool false) w2)))))
theorem vc207_eq (w_ : Option Addr) (w : World) (R : Value → World → Prop) : vc207 w_ w R = denFun ctx (bodyOf Tryz.f207) Tryz.f207.results.toList [Value.pointer w_] w R := by kernel_rfl
theorem vc207_calls (w_ : Option Addr) (w : World) (R : Value → World → Prop) (h : vc207 w_ w R) : Calls Tryz.prog 207 #[Value.pointer w_] w fun e w' => ∃ v, e = .returned v ∧ R v w' :=
  calls_of_den ctxOk (f := 207) (fn := Tryz.f207) (body := bodyOf Tryz.f207) (args := [Value.pointer w_]) (by kernel_rfl) (by kernel_rfl) (by kernel_rfl) (by kernel_rfl) (Eq.mp (vc207_eq w_ w R) h)

/-! ### (*ligature/spine.walk).apart: function 208 -/
def vc208 (w_ : Option Addr) (w : World) (R : Value → World → Prop) : Prop :=
  ∀ w1 : World, w1 = w.drew →
  NilC w_ (fun pa =>
  ∃ n : Int, w1.cell? (((pa.add 0).add 0).add 0) = some (Value.int .i64 n) ∧
  NilC w_ (fun pa_1 =>
  ∃ n_2 : Int, w1.cell? (((pa_1.add 0).add 0).add 1) = some (Value.int .i64 n_2) ∧
  CondP (decide ((n : Int) > n_2))
    (Calls Tryz.prog 224 #[Value.pointer w_] w1 (fun e2 w2 =>
     ∃ b : Bool, e2 = .returned (Value.bool b) ∧
     CondP b
       (R (Value.bool true) w2)
       (Calls Tryz.prog 225 #[Value.pointer w_] w2 (fun e3 w3 =>
        ∃ b_3 : Bool, e3 = .returned (Value.bool b_3) ∧
        R (Value.bool b_3) w3))))
    (Calls Tryz.prog 225 #[Value.pointer w_] w1 (fun e4 w4 =>
     ∃ b_4 : Bool, e4 = .returned (Value.bool b_4) ∧
     CondP b_4
       (R (Value.bool true) w4)
       (Calls Tryz.prog 224 #[Value.pointer w_] w4 (fun e5 w5 =>
        ∃ b_5 : Bool, e5 = .returned (Value.bool b_5) ∧
        R (Value.bool b_5) w5))))))
theorem vc208_eq (w_ : Option Addr) (w : World) (R : Value → World → Prop) : vc208 w_ w R = denFun ctx (bodyOf Tryz.f208) Tryz.f208.results.toList [Value.pointer w_] w R := by kernel_rfl
theorem vc208_calls (w_ : Option Addr) (w : World) (R : Value → World → Prop) (h : vc208 w_ w R) : Calls Tryz.prog 208 #[Value.pointer w_] w fun e w' => ∃ v, e = .returned v ∧ R v w' :=
  calls_of_den ctxOk (f := 208) (fn := Tryz.f208) (body := bodyOf Tryz.f208) (args := [Value.pointer w_]) (by kernel_rfl) (by kernel_rfl) (by kernel_rfl) (by kernel_rfl) (Eq.mp (vc208_eq w_ w R) h)

/-! ### ligature/heap.New[ligature/chain.waits]: function 218 -/
def vc218 (w : World) (R : Value → World → Prop) : Prop :=
  ∀ w1 : World, w1 = w.alloc (.cells #[Value.slice none 0 0, Value.int .i64 0] 305) →
  R (Value.pointer (some (nb w))) w1
theorem vc218_eq (w : World) (R : Value → World → Prop) : vc218 w R = denFun ctx (bodyOf Tryz.f218) Tryz.f218.results.toList [] w R := by kernel_rfl
theorem vc218_calls (w : World) (R : Value → World → Prop) (h : vc218 w R) : Calls Tryz.prog 218 #[] w fun e w' => ∃ v, e = .returned v ∧ R v w' :=
  calls_of_den ctxOk (f := 218) (fn := Tryz.f218) (body := bodyOf Tryz.f218) (args := []) (by kernel_rfl) (by kernel_rfl) (by kernel_rfl) (by kernel_rfl) (Eq.mp (vc218_eq w R) h)

/-! ### (*ligature/chain.link).asks: function 219 -/
def vc219 (c : Option Addr) (i : Int) (w : World) (R : Value → World → Prop) : Prop :=
  CondP ((i : Int) == (-1))
    (R (Value.tuple #[]) w)
    (NilC c (fun pa =>
     ∃ lA : Option Addr, ∃ lN : Nat, ∃ lC : Nat, w.cell? (pa.add 1) = some (Value.slice lA lN lC) ∧
     NilC lA (fun pa_1 =>
     (0 : Int) ≤ i ∧ i < ((lN : Nat) : Int) ∧
     ∃ n : Int, w.cell? ((pa_1.add ((i : Int).toNat * 3)).add 2) = some (Value.int .i64 n) ∧
     CondP ((n : Int) == (-1))
       (R (Value.tuple #[]) w)
       (∀ w1 : World, w1 = w.drew →
        NilC c (fun pa_2 =>
        ∃ lA_3 : Option Addr, ∃ lN_4 : Nat, ∃ lC_5 : Nat, w1.cell? (pa_2.add 1) = some (Value.slice lA_3 lN_4 lC_5) ∧
        NilC lA_3 (fun pa_6 =>
        (0 : Int) ≤ i ∧ i < ((lN_4 : Nat) : Int) ∧
        ∃ n_7 : Int, w1.cell? ((pa_6.add ((i : Int).toNat * 3)).add 0) = some (Value.int .i64 n_7) ∧
        NilC c (fun pa_8 =>
        ∃ lA_9 : Option Addr, ∃ lN_10 : Nat, ∃ lC_11 : Nat, w1.cell? (pa_8.add 1) = some (Value.slice lA_9 lN_10 lC_11) ∧
        NilC c (fun pa_12 =>
        ∃ lA_13 : Option Addr, ∃ lN_14 : Nat, ∃ lC_15 : Nat, w1.cell? (pa_12.add 1) = some (Value.slice lA_13 lN_14 lC_15) ∧
        NilC lA_13 (fun pa_16 =>
        (0 : Int) ≤ i ∧ i < ((lN_14 : Nat) : Int) ∧
        ∃ n_17 : Int, w1.cell? ((pa_16.add ((i : Int).toNat * 3)).add 2) = some (Value.int .i64 n_17) ∧
        NilC lA_9 (fun pa_18 =>
        (0 : Int) ≤ n_17 ∧ n_17 < ((lN_10 : Nat) : Int) ∧
        ∃ n_19 : Int, w1.cell? ((pa_18.add ((n_17 : Int).toNat * 3)).add 0) = some (Value.int .i64 n_19) ∧
        ∀ w2 : World, w2 = w1.alloc (.cells #[Value.int .i64 0, Value.int .i64 0] 81) →
        (w2.cell? ((pa_18.add ((n_17 : Int).toNat * 3)).add 0) = some (Value.int .i64 n_19) ∧ True) ∧
        (w2.cell? ((pa_16.add ((i : Int).toNat * 3)).add 2) = some (Value.int .i64 n_17) ∧ True) ∧
        (w2.cell? (pa_12.add 1) = some (Value.slice lA_13 lN_14 lC_15) ∧ True) ∧
        (w2.cell? (pa_8.add 1) = some (Value.slice lA_9 lN_10 lC_11) ∧ True) ∧
        (w2.cell? ((pa_6.add ((i : Int).toNat * 3)).add 0) = some (Value.int .i64 n_7) ∧ True) ∧
        (w2.cell? (pa_2.add 1) = some (Value.slice lA_3 lN_4 lC_5) ∧ True) ∧
        StoreP w2 (nb w1) (fun w3 =>
        ∀ w4 : World, w4 = w3.drew →
        NilC c (fun pa_20 =>
        ∃ p : Option Addr, w4.cell? (pa_20.add 0) = some (Value.pointer p) ∧
        ∃ n_21 : Int, w4.cell? ((nb w1).add 0) = some (Value.int .i64 n_21) ∧
        ∃ n_22 : Int, w4.cell? ((nb w1).add 1) = some (Value.int .i64 n_22) ∧
        Calls Tryz.prog 223 #[Value.pointer p, Value.int .i64 n_21, Value.int .i64 n_22] w4 (fun e5 w5 =>
        ∃ r0 : Int, ∃ r1 : Bool, e5 = .returned (Value.tuple #[Value.int .i64 r0, Value.bool r1]) ∧
        CondP r1
          (NilC c (fun pa_23 =>
           ∃ n_24 : Int, w5.cell? (pa_23.add 3) = some (Value.int .i64 n_24) ∧
           CondP (decide ((r0 : Int) < n_24))
             (∀ w6 : World, w6 = w5.drew →
              NilC c (fun pa_25 =>
              ∃ p_26 : Option Addr, w6.cell? (pa_25.add 2) = some (Value.pointer p_26) ∧
              ∃ g0 : Int, ∃ g1 : Int, (w6.cell? (nb w1) = some (Value.int .i64 g0) ∧ w6.cell? ((nb w1).add 1) = some (Value.int .i64 g1) ∧ True) ∧
              Calls Tryz.prog 233 #[Value.pointer p_26, Value.int .i64 r0, Value.int .i64 i, Value.agg #[Value.int .i64 i, Value.int .i64 g0, Value.int .i64 g1]] w6 (fun e7 w7 =>
              e7 = .returned (Value.tuple #[]) ∧
              R (Value.tuple #[]) w7)))
             (R (Value.tuple #[]) w5)))
          (R (Value.tuple #[]) w5)))) [Value.int .i64 n_7, Value.int .i64 n_19] 0))))))))))
theorem vc219_eq (c : Option Addr) (i : Int) (w : World) (R : Value → World → Prop) : vc219 c i w R = denFun ctx (bodyOf Tryz.f219) Tryz.f219.results.toList [Value.pointer c, Value.int .i64 i] w R := by kernel_rfl
theorem vc219_calls (c : Option Addr) (i : Int) (w : World) (R : Value → World → Prop) (h : vc219 c i w R) : Calls Tryz.prog 219 #[Value.pointer c, Value.int .i64 i] w fun e w' => ∃ v, e = .returned v ∧ R v w' :=
  calls_of_den ctxOk (f := 219) (fn := Tryz.f219) (body := bodyOf Tryz.f219) (args := [Value.pointer c, Value.int .i64 i]) (by kernel_rfl) (by kernel_rfl) (by kernel_rfl) (by kernel_rfl) (Eq.mp (vc219_eq c i w R) h)

/-! ### (*ligature/heap.Heap[ligature/chain.waits]).Pop: function 220 -/
def vc220 (h_ : Option Addr) (w : World) (R : Value → World → Prop) : Prop :=
  ∀ w1 : World, w1 = w.alloc (.cells #[Value.int .i64 0, Value.int .i64 0, Value.int .i64 0] 289) →
  Calls Tryz.prog 234 #[Value.pointer h_] w1 (fun e2 w2 =>
  ∃ r00 : Int, ∃ r01 : Int, ∃ r02 : Int, ∃ r1 : Int, ∃ r2 : Int, ∃ r3 : Bool, e2 = .returned (Value.tuple #[Value.agg #[Value.int .i64 r00, Value.int .i64 r01, Value.int .i64 r02], Value.int .i64 r1, Value.int .i64 r2, Value.bool r3]) ∧
  ∀ w3 : World, w3 = w2.alloc (.cells #[Value.int .i64 0, Value.int .i64 0, Value.int .i64 0] 289) →
  StoreP w3 (nb w2) (fun w4 =>
  ∀ J1 : List Value → World → Prop, (∀ w5 : World, (∃ g0 : Int, ∃ g1 : Int, ∃ g2 : Int, (w5.cell? (nb w2) = some (Value.int .i64 g0) ∧ w5.cell? ((nb w2).add 1) = some (Value.int .i64 g1) ∧ w5.cell? ((nb w2).add 2) = some (Value.int .i64 g2) ∧ True) ∧
    StoreP w5 (nb w) (fun w6 =>
    ∃ res0 : Int, ∃ res1 : Int, ∃ res2 : Int, (w6.cell? (nb w) = some (Value.int .i64 res0) ∧ w6.cell? ((nb w).add 1) = some (Value.int .i64 res1) ∧ w6.cell? ((nb w).add 2) = some (Value.int .i64 res2) ∧ True) ∧
    R (Value.tuple #[Value.agg #[Value.int .i64 res0, Value.int .i64 res1, Value.int .i64 res2], Value.int .i64 r1, Value.int .i64 r2, Value.bool r3]) w6) [Value.int .i64 g0, Value.int .i64 g1, Value.int .i64 g2] 0) → J1 [] w5) →
  CondP r3
    (NilC h_ (fun pa =>
     ∃ lA : Option Addr, ∃ lN : Nat, ∃ lC : Nat, w4.cell? (pa.add 0) = some (Value.slice lA lN lC) ∧
     Ar .i64 ((((lN : Nat) : Int) : Int) - 1) (fun n =>
     Calls Tryz.prog 235 #[Value.pointer h_, Value.int .i64 0, Value.int .i64 n] w4 (fun e7 w7 =>
     e7 = .returned (Value.tuple #[]) ∧
     NilC h_ (fun pa_2 =>
     ∃ lA_3 : Option Addr, ∃ lN_4 : Nat, ∃ lC_5 : Nat, w7.cell? (pa_2.add 0) = some (Value.slice lA_3 lN_4 lC_5) ∧
     (0 : Int) ≤ ((0 : Nat) : Int) ∧ ((0 : Nat) : Int) ≤ (n : Int) ∧ (n : Int) ≤ ((lC_5 : Nat) : Int) ∧ True ∧ True ∧
     NilC h_ (fun pa_6 =>
     (Value.slice (slBase lA_3 ((0 : Nat) : Int).toNat ((lC_5 : Nat) : Int).toNat 6) ((n : Int).toNat - ((0 : Nat) : Int).toNat) (((lC_5 : Nat) : Int).toNat - ((0 : Nat) : Int).toNat)).oneCell' = true ∧ (∃ u, w7.cell? (pa_6.add 0) = some u) ∧ w7.frozen? (pa_6.add 0) = false ∧
     ∀ w8 : World, w8 = (w7.setCell (pa_6.add 0) (Value.slice (slBase lA_3 ((0 : Nat) : Int).toNat ((lC_5 : Nat) : Int).toNat 6) ((n : Int).toNat - ((0 : Nat) : Int).toNat) (((lC_5 : Nat) : Int).toNat - ((0 : Nat) : Int).toNat))) →
     Calls Tryz.prog 236 #[Value.pointer h_, Value.int .i64 0] w8 (fun e9 w9 =>
     e9 = .returned (Value.tuple #[]) ∧
     J1 [] w9)))))))
    (J1 [] w4)) [Value.int .i64 r00, Value.int .i64 r01, Value.int .i64 r02] 0)
theorem vc220_eq (h_ : Option Addr) (w : World) (R : Value → World → Prop) : vc220 h_ w R = denFun ctx (bodyOf Tryz.f220) Tryz.f220.results.toList [Value.pointer h_] w R := by kernel_rfl
theorem vc220_calls (h_ : Option Addr) (w : World) (R : Value → World → Prop) (h : vc220 h_ w R) : Calls Tryz.prog 220 #[Value.pointer h_] w fun e w' => ∃ v, e = .returned v ∧ R v w' :=
  calls_of_den ctxOk (f := 220) (fn := Tryz.f220) (body := bodyOf Tryz.f220) (args := [Value.pointer h_]) (by kernel_rfl) (by kernel_rfl) (by kernel_rfl) (by kernel_rfl) (Eq.mp (vc220_eq h_ w R) h)

/-! ### (*ligature/chain.link).stale: function 221 -/
def vc221 (c : Option Addr) (w0_ : Int) (w1_ : Int) (w2_ : Int) (w : World) (R : Value → World → Prop) : Prop :=
  ∀ w1 : World, w1 = w.alloc (.cells #[Value.int .i64 w0_, Value.int .i64 w1_, Value.int .i64 w2_] 289) →
  ∀ w2 : World, w2 = w1.drew →
  NilC c (fun pa =>
  ∃ lA : Option Addr, ∃ lN : Nat, ∃ lC : Nat, w2.cell? (pa.add 1) = some (Value.slice lA lN lC) ∧
  ∃ n : Int, w2.cell? ((nb w).add 0) = some (Value.int .i64 n) ∧
  NilC lA (fun pa_1 =>
  (0 : Int) ≤ n ∧ n < ((lN : Nat) : Int) ∧
  ∃ g0 : Int, ∃ g1 : Int, ∃ g2 : Int, (w2.cell? (pa_1.add ((n : Int).toNat * 3)) = some (Value.int .i64 g0) ∧ w2.cell? ((pa_1.add ((n : Int).toNat * 3)).add 1) = some (Value.int .i64 g1) ∧ w2.cell? ((pa_1.add ((n : Int).toNat * 3)).add 2) = some (Value.int .i64 g2) ∧ True) ∧
  ∀ w3 : World, w3 = w2.alloc (.cells #[Value.int .i64 0, Value.int .i64 0, Value.int .i64 0] 294) →
  (w3.cell? (pa_1.add ((n : Int).toNat * 3)) = some (Value.int .i64 g0) ∧ w3.cell? ((pa_1.add ((n : Int).toNat * 3)).add 1) = some (Value.int .i64 g1) ∧ w3.cell? ((pa_1.add ((n : Int).toNat * 3)).add 2) = some (Value.int .i64 g2) ∧ True) ∧
  (w3.cell? ((nb w).add 0) = some (Value.int .i64 n) ∧ True) ∧
  (w3.cell? (pa.add 1) = some (Value.slice lA lN lC) ∧ True) ∧
  StoreP w3 (nb w2) (fun w4 =>
  ∀ w5 : World, w5 = w4.drew →
  ∃ n_2 : Int, w5.cell? ((nb w2).add 0) = some (Value.int .i64 n_2) ∧
  ∃ n_3 : Int, w5.cell? (((nb w).add 1).add 0) = some (Value.int .i64 n_3) ∧
  CondP ((n_2 : Int) != n_3)
    (R (Value.bool true) w5)
    (∃ n_4 : Int, w5.cell? ((nb w2).add 2) = some (Value.int .i64 n_4) ∧
     CondP ((n_4 : Int) == (-1))
       (R (Value.bool true) w5)
       (NilC c (fun pa_5 =>
        ∃ lA_6 : Option Addr, ∃ lN_7 : Nat, ∃ lC_8 : Nat, w5.cell? (pa_5.add 1) = some (Value.slice lA_6 lN_7 lC_8) ∧
        ∃ n_9 : Int, w5.cell? ((nb w2).add 2) = some (Value.int .i64 n_9) ∧
        NilC lA_6 (fun pa_10 =>
        (0 : Int) ≤ n_9 ∧ n_9 < ((lN_7 : Nat) : Int) ∧
        ∃ n_11 : Int, w5.cell? ((pa_10.add ((n_9 : Int).toNat * 3)).add 0) = some (Value.int .i64 n_11) ∧
        ∃ n_12 : Int, w5.cell? (((nb w).add 1).add 1) = some (Value.int .i64 n_12) ∧
        R (Value.bool ((n_11 : Int) != n_12)) w5))))) [Value.int .i64 g0, Value.int .i64 g1, Value.int .i64 g2] 0))
theorem vc221_eq (c : Option Addr) (w0_ : Int) (w1_ : Int) (w2_ : Int) (w : World) (R : Value → World → Prop) : vc221 c w0_ w1_ w2_ w R = denFun ctx (bodyOf Tryz.f221) Tryz.f221.results.toList [Value.pointer c, Value.agg #[Value.int .i64 w0_, Value.int .i64 w1_, Value.int .i64 w2_]] w R := by kernel_rfl
theorem vc221_calls (c : Option Addr) (w0_ : Int) (w1_ : Int) (w2_ : Int) (w : World) (R : Value → World → Prop) (h : vc221 c w0_ w1_ w2_ w R) : Calls Tryz.prog 221 #[Value.pointer c, Value.agg #[Value.int .i64 w0_, Value.int .i64 w1_, Value.int .i64 w2_]] w fun e w' => ∃ v, e = .returned v ∧ R v w' :=
  calls_of_den ctxOk (f := 221) (fn := Tryz.f221) (body := bodyOf Tryz.f221) (args := [Value.pointer c, Value.agg #[Value.int .i64 w0_, Value.int .i64 w1_, Value.int .i64 w2_]]) (by kernel_rfl) (by kernel_rfl) (by kernel_rfl) (by kernel_rfl) (Eq.mp (vc221_eq c w0_ w1_ w2_ w R) h)

/-! ### (*ligature/chain.link).join: function 222 -/
def vc222 (c : Option Addr) (i : Int) (id : Int) (w : World) (R : Value → World → Prop) : Prop :=
  NilC c (fun pa =>
  ∃ lA : Option Addr, ∃ lN : Nat, ∃ lC : Nat, w.cell? (pa.add 1) = some (Value.slice lA lN lC) ∧
  NilC lA (fun pa_1 =>
  (0 : Int) ≤ i ∧ i < ((lN : Nat) : Int) ∧
  ∃ n : Int, w.cell? ((pa_1.add ((i : Int).toNat * 3)).add 2) = some (Value.int .i64 n) ∧
  NilC c (fun pa_2 =>
  ∃ lA_3 : Option Addr, ∃ lN_4 : Nat, ∃ lC_5 : Nat, w.cell? (pa_2.add 1) = some (Value.slice lA_3 lN_4 lC_5) ∧
  NilC lA_3 (fun pa_6 =>
  (0 : Int) ≤ n ∧ n < ((lN_4 : Nat) : Int) ∧
  ∃ n_7 : Int, w.cell? ((pa_6.add ((n : Int).toNat * 3)).add 2) = some (Value.int .i64 n_7) ∧
  NilC c (fun pa_8 =>
  ∃ lA_9 : Option Addr, ∃ lN_10 : Nat, ∃ lC_11 : Nat, w.cell? (pa_8.add 1) = some (Value.slice lA_9 lN_10 lC_11) ∧
  NilC lA_9 (fun pa_12 =>
  (0 : Int) ≤ n ∧ n < ((lN_10 : Nat) : Int) ∧
  (Value.int .i64 (-2)).oneCell' = true ∧ (∃ u, w.cell? ((pa_12.add ((n : Int).toNat * 3)).add 0) = some u) ∧ w.frozen? ((pa_12.add ((n : Int).toNat * 3)).add 0) = false ∧
  ∀ w1 : World, w1 = (w.setCell ((pa_12.add ((n : Int).toNat * 3)).add 0) (Value.int .i64 (-2))) →
  ∀ w2 : World, w2 = w1.drew →
  NilC c (fun pa_13 =>
  ∃ lA_14 : Option Addr, ∃ lN_15 : Nat, ∃ lC_16 : Nat, w2.cell? (pa_13.add 1) = some (Value.slice lA_14 lN_15 lC_16) ∧
  NilC c (fun pa_17 =>
  ∃ lA_18 : Option Addr, ∃ lN_19 : Nat, ∃ lC_20 : Nat, w2.cell? (pa_17.add 1) = some (Value.slice lA_18 lN_19 lC_20) ∧
  NilC lA_14 (fun pa_21 =>
  (0 : Int) ≤ i ∧ i < ((lN_15 : Nat) : Int) ∧
  (Value.int .i64 id).oneCell' = true ∧ (∃ u, w2.cell? ((pa_21.add ((i : Int).toNat * 3)).add 0) = some u) ∧ w2.frozen? ((pa_21.add ((i : Int).toNat * 3)).add 0) = false ∧
  ∀ w3 : World, w3 = (w2.setCell ((pa_21.add ((i : Int).toNat * 3)).add 0) (Value.int .i64 id)) →
  NilC lA_18 (fun pa_22 =>
  (0 : Int) ≤ i ∧ i < ((lN_19 : Nat) : Int) ∧
  (Value.int .i64 n_7).oneCell' = true ∧ (∃ u, w3.cell? ((pa_22.add ((i : Int).toNat * 3)).add 2) = some u) ∧ w3.frozen? ((pa_22.add ((i : Int).toNat * 3)).add 2) = false ∧
  ∀ w4 : World, w4 = (w3.setCell ((pa_22.add ((i : Int).toNat * 3)).add 2) (Value.int .i64 n_7)) →
  ∀ J23 : List Value → World → Prop, (∀ w5 : World, (NilC c (fun pa_24 =>
    ∃ n_25 : Int, w5.cell? (pa_24.add 4) = some (Value.int .i64 n_25) ∧
    Ar .i64 ((n_25 : Int) + 1) (fun n_26 =>
    NilC c (fun pa_27 =>
    (Value.int .i64 n_26).oneCell' = true ∧ (∃ u, w5.cell? (pa_27.add 4) = some u) ∧ w5.frozen? (pa_27.add 4) = false ∧
    ∀ w6 : World, w6 = (w5.setCell (pa_27.add 4) (Value.int .i64 n_26)) →
    NilC c (fun pa_28 =>
    ∃ lA_29 : Option Addr, ∃ lN_30 : Nat, ∃ lC_31 : Nat, w6.cell? (pa_28.add 1) = some (Value.slice lA_29 lN_30 lC_31) ∧
    NilC lA_29 (fun pa_32 =>
    (0 : Int) ≤ i ∧ i < ((lN_30 : Nat) : Int) ∧
    ∃ n_33 : Int, w6.cell? ((pa_32.add ((i : Int).toNat * 3)).add 1) = some (Value.int .i64 n_33) ∧
    Calls Tryz.prog 219 #[Value.pointer c, Value.int .i64 n_33] w6 (fun e7 w7 =>
    e7 = .returned (Value.tuple #[]) ∧
    Calls Tryz.prog 219 #[Value.pointer c, Value.int .i64 i] w7 (fun e8 w8 =>
    e8 = .returned (Value.tuple #[]) ∧
    R (Value.tuple #[]) w8)))))))) → J23 [] w5) →
  CondP ((n_7 : Int) != (-1))
    (NilC c (fun pa_34 =>
     ∃ lA_35 : Option Addr, ∃ lN_36 : Nat, ∃ lC_37 : Nat, w4.cell? (pa_34.add 1) = some (Value.slice lA_35 lN_36 lC_37) ∧
     NilC lA_35 (fun pa_38 =>
     (0 : Int) ≤ n_7 ∧ n_7 < ((lN_36 : Nat) : Int) ∧
     (Value.int .i64 i).oneCell' = true ∧ (∃ u, w4.cell? ((pa_38.add ((n_7 : Int).toNat * 3)).add 1) = some u) ∧ w4.frozen? ((pa_38.add ((n_7 : Int).toNat * 3)).add 1) = false ∧
     ∀ w9 : World, w9 = (w4.setCell ((pa_38.add ((n_7 : Int).toNat * 3)).add 1) (Value.int .i64 i)) →
     J23 [] w9)))
    (J23 [] w4)))))))))))
theorem vc222_eq (c : Option Addr) (i : Int) (id : Int) (w : World) (R : Value → World → Prop) : vc222 c i id w R = denFun ctx (bodyOf Tryz.f222) Tryz.f222.results.toList [Value.pointer c, Value.int .i64 i, Value.int .i64 id] w R := by kernel_rfl
theorem vc222_calls (c : Option Addr) (i : Int) (id : Int) (w : World) (R : Value → World → Prop) (h : vc222 c i id w R) : Calls Tryz.prog 222 #[Value.pointer c, Value.int .i64 i, Value.int .i64 id] w fun e w' => ∃ v, e = .returned v ∧ R v w' :=
  calls_of_den ctxOk (f := 222) (fn := Tryz.f222) (body := bodyOf Tryz.f222) (args := [Value.pointer c, Value.int .i64 i, Value.int .i64 id]) (by kernel_rfl) (by kernel_rfl) (by kernel_rfl) (by kernel_rfl) (Eq.mp (vc222_eq c i id w R) h)

/-! ### (*ligature/token.Table).Pair: function 223 -/
def vc223 (t : Option Addr) (a : Int) (b : Int) (w : World) (R : Value → World → Prop) : Prop :=
  CondP (Option.isNone t)
    (R (Value.tuple #[Value.int .i64 0, Value.bool false]) w)
    (NilC t (fun pa =>
     ∃ m : Option Nat, w.cell? (pa.add 2) = some (Value.map m) ∧
     ∃ r0 : Int, ∃ r1 : Bool, ∃ w1 : World, (Instr.lookup 222 (Value.map m) (Value.agg #[Value.int .i64 a, Value.int .i64 b]) true).run Tryz.prog w = .ok (Value.tuple #[Value.int .i64 r0, Value.bool r1]) w1 ∧
     R (Value.tuple #[Value.int .i64 r0, Value.bool r1]) w1))
theorem vc223_eq (t : Option Addr) (a : Int) (b : Int) (w : World) (R : Value → World → Prop) : vc223 t a b w R = denFun ctx (bodyOf Tryz.f223) Tryz.f223.results.toList [Value.pointer t, Value.int .i64 a, Value.int .i64 b] w R := by kernel_rfl
theorem vc223_calls (t : Option Addr) (a : Int) (b : Int) (w : World) (R : Value → World → Prop) (h : vc223 t a b w R) : Calls Tryz.prog 223 #[Value.pointer t, Value.int .i64 a, Value.int .i64 b] w fun e w' => ∃ v, e = .returned v ∧ R v w' :=
  calls_of_den ctxOk (f := 223) (fn := Tryz.f223) (body := bodyOf Tryz.f223) (args := [Value.pointer t, Value.int .i64 a, Value.int .i64 b]) (by kernel_rfl) (by kernel_rfl) (by kernel_rfl) (by kernel_rfl) (Eq.mp (vc223_eq t a b w R) h)

/-! ### (*ligature/spine.walk).left: function 224 -/
def vc224 (w_ : Option Addr) (w : World) (R : Value → World → Prop) : Prop :=
  ∀ w1 : World, w1 = w.drew →
  NilC w_ (fun pa =>
  ∃ p : Option Addr, w1.cell? (pa.add 2) = some (Value.pointer p) ∧
  NilC w_ (fun pa_1 =>
  ∃ n : Int, w1.cell? (((pa_1.add 0).add 0).add 0) = some (Value.int .i64 n) ∧
  (Calls Tryz.prog 237 #[Value.pointer p, Value.int .i64 n] w1 (fun e2 w2 =>
   ∃ r00 : Int, ∃ r01 : Int, ∃ r1 : Bool, e2 = .returned (Value.tuple #[Value.agg #[Value.int .i64 r00, Value.int .i64 r01], Value.bool r1]) ∧
   ∀ w3 : World, w3 = w2.alloc (.cells #[Value.int .i64 0, Value.int .i64 0] 81) →
   StoreP w3 (nb w2) (fun w4 =>
   ∀ J2 : List Value → World → Prop, (∀ w5 : World, (R (Value.bool r1) w5) → J2 [] w5) →
   CondP r1
     (∀ w6 : World, w6 = w4.drew →
      NilC w_ (fun pa_3 =>
      ∃ n_4 : Int, w6.cell? (((pa_3.add 0).add 0).add 0) = some (Value.int .i64 n_4) ∧
      ∃ n_5 : Int, w6.cell? ((nb w2).add 1) = some (Value.int .i64 n_5) ∧
      NilC w_ (fun pa_6 =>
      (Value.int .i64 n_4).oneCell' = true ∧ (∃ u, w6.cell? (pa_6.add 3) = some u) ∧ w6.frozen? (pa_6.add 3) = false ∧
      ∀ w7 : World, w7 = (w6.setCell (pa_6.add 3) (Value.int .i64 n_4)) →
      (w7.cell? ((nb w2).add 1) = some (Value.int .i64 n_5) ∧ True) ∧
      NilC w_ (fun pa_7 =>
      (Value.int .i64 n_5).oneCell' = true ∧ (∃ u, w7.cell? (((pa_7.add 0).add 0).add 0) = some u) ∧ w7.frozen? (((pa_7.add 0).add 0).add 0) = false ∧
      ∀ w8 : World, w8 = (w7.setCell (((pa_7.add 0).add 0).add 0) (Value.int .i64 n_5)) →
      NilC w_ (fun pa_8 =>
      ∃ n_9 : Int, w8.cell? (pa_8.add 4) = some (Value.int .i64 n_9) ∧
      Ar .i64 ((n_9 : Int) + 1) (fun n_10 =>
      NilC w_ (fun pa_11 =>
      (Value.int .i64 n_10).oneCell' = true ∧ (∃ u, w8.cell? (pa_11.add 4) = some u) ∧ w8.frozen? (pa_11.add 4) = false ∧
      ∀ w9 : World, w9 = (w8.setCell (pa_11.add 4) (Value.int .i64 n_10)) →
      J2 [] w9)))))))
     (J2 [] w4)) [Value.int .i64 r00, Value.int .i64 r01] 0)) ∧
  (∀ w10 : World, w10 = w1.alloc (.cells #[Value.int .i64 0, Value.int .i64 0] 81) →
   (w10.cell? (((pa_1.add 0).add 0).add 0) = some (Value.int .i64 n) ∧ True) ∧
   (w10.cell? (pa.add 2) = some (Value.pointer p) ∧ True) ∧
   Calls Tryz.prog 237 #[Value.pointer p, Value.int .i64 n] w10 (fun e11 w11 =>
   ∃ r00_12 : Int, ∃ r01_13 : Int, ∃ r1_14 : Bool, e11 = .returned (Value.tuple #[Value.agg #[Value.int .i64 r00_12, Value.int .i64 r01_13], Value.bool r1_14]) ∧
   StoreP w11 (nb w1) (fun w12 =>
   ∀ J15 : List Value → World → Prop, (∀ w13 : World, (R (Value.bool r1_14) w13) → J15 [] w13) →
   CondP r1_14
     (∀ w14 : World, w14 = w12.drew →
      NilC w_ (fun pa_16 =>
      ∃ n_17 : Int, w14.cell? (((pa_16.add 0).add 0).add 0) = some (Value.int .i64 n_17) ∧
      ∃ n_18 : Int, w14.cell? ((nb w1).add 1) = some (Value.int .i64 n_18) ∧
      NilC w_ (fun pa_19 =>
      (Value.int .i64 n_17).oneCell' = true ∧ (∃ u, w14.cell? (pa_19.add 3) = some u) ∧ w14.frozen? (pa_19.add 3) = false ∧
      ∀ w15 : World, w15 = (w14.setCell (pa_19.add 3) (Value.int .i64 n_17)) →
      (w15.cell? ((nb w1).add 1) = some (Value.int .i64 n_18) ∧ True) ∧
      NilC w_ (fun pa_20 =>
      (Value.int .i64 n_18).oneCell' = true ∧ (∃ u, w15.cell? (((pa_20.add 0).add 0).add 0) = some u) ∧ w15.frozen? (((pa_20.add 0).add 0).add 0) = false ∧
      ∀ w16 : World, w16 = (w15.setCell (((pa_20.add 0).add 0).add 0) (Value.int .i64 n_18)) →
      NilC w_ (fun pa_21 =>
      ∃ n_22 : Int, w16.cell? (pa_21.add 4) = some (Value.int .i64 n_22) ∧
      Ar .i64 ((n_22 : Int) + 1) (fun n_23 =>
      NilC w_ (fun pa_24 =>
      (Value.int .i64 n_23).oneCell' = true ∧ (∃ u, w16.cell? (pa_24.add 4) = some u) ∧ w16.frozen? (pa_24.add 4) = false ∧
      ∀ w17 : World, w17 = (w16.setCell (pa_24.add 4) (Value.int .i64 n_23)) →
      J15 [] w17)))))))
     (J15 [] w12)) [Value.int .i64 r00_12, Value.int .i64 r01_13] 0))))
theorem vc224_eq (w_ : Option Addr) (w : World) (R : Value → World → Prop) : vc224 w_ w R = denFun ctx (bodyOf Tryz.f224) Tryz.f224.results.toList [Value.pointer w_] w R := by kernel_rfl
theorem vc224_calls (w_ : Option Addr) (w : World) (R : Value → World → Prop) (h : vc224 w_ w R) : Calls Tryz.prog 224 #[Value.pointer w_] w fun e w' => ∃ v, e = .returned v ∧ R v w' :=
  calls_of_den ctxOk (f := 224) (fn := Tryz.f224) (body := bodyOf Tryz.f224) (args := [Value.pointer w_]) (by kernel_rfl) (by kernel_rfl) (by kernel_rfl) (by kernel_rfl) (Eq.mp (vc224_eq w_ w R) h)

/-! ### (*ligature/spine.walk).right: function 225 -/
def vc225 (w_ : Option Addr) (w : World) (R : Value → World → Prop) : Prop :=
  ∀ w1 : World, w1 = w.drew →
  NilC w_ (fun pa =>
  ∃ p : Option Addr, w1.cell? (pa.add 2) = some (Value.pointer p) ∧
  NilC w_ (fun pa_1 =>
  ∃ n : Int, w1.cell? (((pa_1.add 0).add 0).add 1) = some (Value.int .i64 n) ∧
  (Calls Tryz.prog 237 #[Value.pointer p, Value.int .i64 n] w1 (fun e2 w2 =>
   ∃ r00 : Int, ∃ r01 : Int, ∃ r1 : Bool, e2 = .returned (Value.tuple #[Value.agg #[Value.int .i64 r00, Value.int .i64 r01], Value.bool r1]) ∧
   ∀ w3 : World, w3 = w2.alloc (.cells #[Value.int .i64 0, Value.int .i64 0] 81) →
   StoreP w3 (nb w2) (fun w4 =>
   ∀ J2 : List Value → World → Prop, (∀ w5 : World, (R (Value.bool r1) w5) → J2 [] w5) →
   CondP r1
     (∀ w6 : World, w6 = w4.drew →
      NilC w_ (fun pa_3 =>
      ∃ n_4 : Int, w6.cell? (((pa_3.add 0).add 0).add 1) = some (Value.int .i64 n_4) ∧
      Ar .i64 ((n_4 : Int) + 1) (fun n_5 =>
      ∃ n_6 : Int, w6.cell? ((nb w2).add 0) = some (Value.int .i64 n_6) ∧
      NilC w_ (fun pa_7 =>
      (Value.int .i64 n_5).oneCell' = true ∧ (∃ u, w6.cell? (pa_7.add 3) = some u) ∧ w6.frozen? (pa_7.add 3) = false ∧
      ∀ w7 : World, w7 = (w6.setCell (pa_7.add 3) (Value.int .i64 n_5)) →
      (w7.cell? ((nb w2).add 0) = some (Value.int .i64 n_6) ∧ True) ∧
      NilC w_ (fun pa_8 =>
      (Value.int .i64 n_6).oneCell' = true ∧ (∃ u, w7.cell? (((pa_8.add 0).add 0).add 1) = some u) ∧ w7.frozen? (((pa_8.add 0).add 0).add 1) = false ∧
      ∀ w8 : World, w8 = (w7.setCell (((pa_8.add 0).add 0).add 1) (Value.int .i64 n_6)) →
      NilC w_ (fun pa_9 =>
      ∃ n_10 : Int, w8.cell? (pa_9.add 4) = some (Value.int .i64 n_10) ∧
      Ar .i64 ((n_10 : Int) + 1) (fun n_11 =>
      NilC w_ (fun pa_12 =>
      (Value.int .i64 n_11).oneCell' = true ∧ (∃ u, w8.cell? (pa_12.add 4) = some u) ∧ w8.frozen? (pa_12.add 4) = false ∧
      ∀ w9 : World, w9 = (w8.setCell (pa_12.add 4) (Value.int .i64 n_11)) →
      J2 [] w9))))))))
     (J2 [] w4)) [Value.int .i64 r00, Value.int .i64 r01] 0)) ∧
  (∀ w10 : World, w10 = w1.alloc (.cells #[Value.int .i64 0, Value.int .i64 0] 81) →
   (w10.cell? (((pa_1.add 0).add 0).add 1) = some (Value.int .i64 n) ∧ True) ∧
   (w10.cell? (pa.add 2) = some (Value.pointer p) ∧ True) ∧
   Calls Tryz.prog 237 #[Value.pointer p, Value.int .i64 n] w10 (fun e11 w11 =>
   ∃ r00_13 : Int, ∃ r01_14 : Int, ∃ r1_15 : Bool, e11 = .returned (Value.tuple #[Value.agg #[Value.int .i64 r00_13, Value.int .i64 r01_14], Value.bool r1_15]) ∧
   StoreP w11 (nb w1) (fun w12 =>
   ∀ J16 : List Value → World → Prop, (∀ w13 : World, (R (Value.bool r1_15) w13) → J16 [] w13) →
   CondP r1_15
     (∀ w14 : World, w14 = w12.drew →
      NilC w_ (fun pa_17 =>
      ∃ n_18 : Int, w14.cell? (((pa_17.add 0).add 0).add 1) = some (Value.int .i64 n_18) ∧
      Ar .i64 ((n_18 : Int) + 1) (fun n_19 =>
      ∃ n_20 : Int, w14.cell? ((nb w1).add 0) = some (Value.int .i64 n_20) ∧
      NilC w_ (fun pa_21 =>
      (Value.int .i64 n_19).oneCell' = true ∧ (∃ u, w14.cell? (pa_21.add 3) = some u) ∧ w14.frozen? (pa_21.add 3) = false ∧
      ∀ w15 : World, w15 = (w14.setCell (pa_21.add 3) (Value.int .i64 n_19)) →
      (w15.cell? ((nb w1).add 0) = some (Value.int .i64 n_20) ∧ True) ∧
      NilC w_ (fun pa_22 =>
      (Value.int .i64 n_20).oneCell' = true ∧ (∃ u, w15.cell? (((pa_22.add 0).add 0).add 1) = some u) ∧ w15.frozen? (((pa_22.add 0).add 0).add 1) = false ∧
      ∀ w16 : World, w16 = (w15.setCell (((pa_22.add 0).add 0).add 1) (Value.int .i64 n_20)) →
      NilC w_ (fun pa_23 =>
      ∃ n_24 : Int, w16.cell? (pa_23.add 4) = some (Value.int .i64 n_24) ∧
      Ar .i64 ((n_24 : Int) + 1) (fun n_25 =>
      NilC w_ (fun pa_26 =>
      (Value.int .i64 n_25).oneCell' = true ∧ (∃ u, w16.cell? (pa_26.add 4) = some u) ∧ w16.frozen? (pa_26.add 4) = false ∧
      ∀ w17 : World, w17 = (w16.setCell (pa_26.add 4) (Value.int .i64 n_25)) →
      J16 [] w17))))))))
     (J16 [] w12)) [Value.int .i64 r00_13, Value.int .i64 r01_14] 0))))
theorem vc225_eq (w_ : Option Addr) (w : World) (R : Value → World → Prop) : vc225 w_ w R = denFun ctx (bodyOf Tryz.f225) Tryz.f225.results.toList [Value.pointer w_] w R := by kernel_rfl
theorem vc225_calls (w_ : Option Addr) (w : World) (R : Value → World → Prop) (h : vc225 w_ w R) : Calls Tryz.prog 225 #[Value.pointer w_] w fun e w' => ∃ v, e = .returned v ∧ R v w' :=
  calls_of_den ctxOk (f := 225) (fn := Tryz.f225) (body := bodyOf Tryz.f225) (args := [Value.pointer w_]) (by kernel_rfl) (by kernel_rfl) (by kernel_rfl) (by kernel_rfl) (Eq.mp (vc225_eq w_ w R) h)

/-! ### (*ligature/heap.Heap[ligature/chain.waits]).Push: function 233 -/
def vc233 (h_ : Option Addr) (rank : Int) (place : Int) (x0_ : Int) (x1_ : Int) (x2_ : Int) (w : World) (R : Value → World → Prop) : Prop :=
  ∀ w1 : World, w1 = w.alloc (.cells #[Value.int .i64 x0_, Value.int .i64 x1_, Value.int .i64 x2_] 289) →
  CondP (Option.isNone h_)
    (R (Value.tuple #[]) w1)
    (∀ w2 : World, w2 = w1.drew →
     NilC h_ (fun pa =>
     ∃ lA : Option Addr, ∃ lN : Nat, ∃ lC : Nat, w2.cell? (pa.add 0) = some (Value.slice lA lN lC) ∧
     NilC h_ (fun pa_1 =>
     ∃ n : Int, w2.cell? (pa_1.add 1) = some (Value.int .i64 n) ∧
     ∃ g0 : Int, ∃ g1 : Int, ∃ g2 : Int, (w2.cell? (nb w) = some (Value.int .i64 g0) ∧ w2.cell? ((nb w).add 1) = some (Value.int .i64 g1) ∧ w2.cell? ((nb w).add 2) = some (Value.int .i64 g2) ∧ True) ∧
     ∀ w3 : World, w3 = w2.alloc (.cells #[Value.int .i64 rank, Value.int .i64 place, Value.int .i64 n, Value.int .i64 g0, Value.int .i64 g1, Value.int .i64 g2] 311) →
     (w3.cell? (pa.add 0) = some (Value.slice lA lN lC) ∧ True) ∧
     ∃ lA_2 : Option Addr, ∃ lN_3 : Nat, ∃ lC_4 : Nat, ∃ w4 : World, (Builtin.append_ #[303, 303] 303 #[Value.slice lA lN lC, Value.slice (some (nb w2)) 1 1]).run Tryz.prog w3 = .ok (Value.slice lA_2 lN_3 lC_4) w4 ∧
     NilC h_ (fun pa_5 =>
     (Value.slice lA_2 lN_3 lC_4).oneCell' = true ∧ (∃ u, w4.cell? (pa_5.add 0) = some u) ∧ w4.frozen? (pa_5.add 0) = false ∧
     ∀ w5 : World, w5 = (w4.setCell (pa_5.add 0) (Value.slice lA_2 lN_3 lC_4)) →
     NilC h_ (fun pa_6 =>
     ∃ n_7 : Int, w5.cell? (pa_6.add 1) = some (Value.int .i64 n_7) ∧
     Ar .i64 ((n_7 : Int) + 1) (fun n_8 =>
     NilC h_ (fun pa_9 =>
     (Value.int .i64 n_8).oneCell' = true ∧ (∃ u, w5.cell? (pa_9.add 1) = some u) ∧ w5.frozen? (pa_9.add 1) = false ∧
     ∀ w6 : World, w6 = (w5.setCell (pa_9.add 1) (Value.int .i64 n_8)) →
     NilC h_ (fun pa_10 =>
     ∃ lA_11 : Option Addr, ∃ lN_12 : Nat, ∃ lC_13 : Nat, w6.cell? (pa_10.add 0) = some (Value.slice lA_11 lN_12 lC_13) ∧
     Ar .i64 ((((lN_12 : Nat) : Int) : Int) - 1) (fun n_14 =>
     Calls Tryz.prog 238 #[Value.pointer h_, Value.int .i64 n_14] w6 (fun e7 w7 =>
     e7 = .returned (Value.tuple #[]) ∧
     R (Value.tuple #[]) w7))))))))))
theorem vc233_eq (h_ : Option Addr) (rank : Int) (place : Int) (x0_ : Int) (x1_ : Int) (x2_ : Int) (w : World) (R : Value → World → Prop) : vc233 h_ rank place x0_ x1_ x2_ w R = denFun ctx (bodyOf Tryz.f233) Tryz.f233.results.toList [Value.pointer h_, Value.int .i64 rank, Value.int .i64 place, Value.agg #[Value.int .i64 x0_, Value.int .i64 x1_, Value.int .i64 x2_]] w R := by kernel_rfl
theorem vc233_calls (h_ : Option Addr) (rank : Int) (place : Int) (x0_ : Int) (x1_ : Int) (x2_ : Int) (w : World) (R : Value → World → Prop) (h : vc233 h_ rank place x0_ x1_ x2_ w R) : Calls Tryz.prog 233 #[Value.pointer h_, Value.int .i64 rank, Value.int .i64 place, Value.agg #[Value.int .i64 x0_, Value.int .i64 x1_, Value.int .i64 x2_]] w fun e w' => ∃ v, e = .returned v ∧ R v w' :=
  calls_of_den ctxOk (f := 233) (fn := Tryz.f233) (body := bodyOf Tryz.f233) (args := [Value.pointer h_, Value.int .i64 rank, Value.int .i64 place, Value.agg #[Value.int .i64 x0_, Value.int .i64 x1_, Value.int .i64 x2_]]) (by kernel_rfl) (by kernel_rfl) (by kernel_rfl) (by kernel_rfl) (Eq.mp (vc233_eq h_ rank place x0_ x1_ x2_ w R) h)

/-! ### (*ligature/heap.Heap[ligature/chain.waits]).Peek: function 234 -/
def vc234 (h_ : Option Addr) (w : World) (R : Value → World → Prop) : Prop :=
  ∀ w1 : World, w1 = w.alloc (.cells #[Value.int .i64 0, Value.int .i64 0, Value.int .i64 0] 289) →
  Calls Tryz.prog 239 #[Value.pointer h_] w1 (fun e2 w2 =>
  ∃ n : Int, e2 = .returned (Value.int .i64 n) ∧
  CondP ((n : Int) == 0)
    (∀ w3 : World, w3 = w2.alloc (.cells #[Value.int .i64 0, Value.int .i64 0, Value.int .i64 0] 289) →
     ∃ g0 : Int, ∃ g1 : Int, ∃ g2 : Int, (w3.cell? (nb w2) = some (Value.int .i64 g0) ∧ w3.cell? ((nb w2).add 1) = some (Value.int .i64 g1) ∧ w3.cell? ((nb w2).add 2) = some (Value.int .i64 g2) ∧ True) ∧
     StoreP w3 (nb w) (fun w4 =>
     ∃ res0 : Int, ∃ res1 : Int, ∃ res2 : Int, (w4.cell? (nb w) = some (Value.int .i64 res0) ∧ w4.cell? ((nb w).add 1) = some (Value.int .i64 res1) ∧ w4.cell? ((nb w).add 2) = some (Value.int .i64 res2) ∧ True) ∧
     R (Value.tuple #[Value.agg #[Value.int .i64 res0, Value.int .i64 res1, Value.int .i64 res2], Value.int .i64 0, Value.int .i64 0, Value.bool false]) w4) [Value.int .i64 g0, Value.int .i64 g1, Value.int .i64 g2] 0)
    (NilC h_ (fun pa =>
     ∃ lA : Option Addr, ∃ lN : Nat, ∃ lC : Nat, w2.cell? (pa.add 0) = some (Value.slice lA lN lC) ∧
     NilC lA (fun pa_1 =>
     (0 : Int) ≤ 0 ∧ 0 < ((lN : Nat) : Int) ∧
     ∃ g0_2 : Int, ∃ g1_3 : Int, ∃ g2_4 : Int, ∃ g3 : Int, ∃ g4 : Int, ∃ g5 : Int, (w2.cell? (pa_1.add ((0 : Int).toNat * 6)) = some (Value.int .i64 g0_2) ∧ w2.cell? ((pa_1.add ((0 : Int).toNat * 6)).add 1) = some (Value.int .i64 g1_3) ∧ w2.cell? ((pa_1.add ((0 : Int).toNat * 6)).add 2) = some (Value.int .i64 g2_4) ∧ w2.cell? ((pa_1.add ((0 : Int).toNat * 6)).add 3) = some (Value.int .i64 g3) ∧ w2.cell? ((pa_1.add ((0 : Int).toNat * 6)).add 4) = some (Value.int .i64 g4) ∧ w2.cell? ((pa_1.add ((0 : Int).toNat * 6)).add 5) = some (Value.int .i64 g5) ∧ True) ∧
     ∀ w5 : World, w5 = w2.alloc (.cells #[Value.int .i64 0, Value.int .i64 0, Value.int .i64 0, Value.int .i64 0, Value.int .i64 0, Value.int .i64 0] 311) →
     StoreP w5 (nb w2) (fun w6 =>
     ∀ w7 : World, w7 = w6.drew →
     ∃ g0_5 : Int, ∃ g1_6 : Int, ∃ g2_7 : Int, (w7.cell? ((nb w2).add 3) = some (Value.int .i64 g0_5) ∧ w7.cell? (((nb w2).add 3).add 1) = some (Value.int .i64 g1_6) ∧ w7.cell? (((nb w2).add 3).add 2) = some (Value.int .i64 g2_7) ∧ True) ∧
     ∃ n_8 : Int, w7.cell? (((nb w2).add 0).add 0) = some (Value.int .i64 n_8) ∧
     ∃ n_9 : Int, w7.cell? (((nb w2).add 0).add 1) = some (Value.int .i64 n_9) ∧
     StoreP w7 (nb w) (fun w8 =>
     (w8.cell? (((nb w2).add 0).add 1) = some (Value.int .i64 n_9) ∧ True) ∧
     (w8.cell? (((nb w2).add 0).add 0) = some (Value.int .i64 n_8) ∧ True) ∧
     ∃ res0_10 : Int, ∃ res1_11 : Int, ∃ res2_12 : Int, (w8.cell? (nb w) = some (Value.int .i64 res0_10) ∧ w8.cell? ((nb w).add 1) = some (Value.int .i64 res1_11) ∧ w8.cell? ((nb w).add 2) = some (Value.int .i64 res2_12) ∧ True) ∧
     R (Value.tuple #[Value.agg #[Value.int .i64 res0_10, Value.int .i64 res1_11, Value.int .i64 res2_12], Value.int .i64 n_8, Value.int .i64 n_9, Value.bool true]) w8) [Value.int .i64 g0_5, Value.int .i64 g1_6, Value.int .i64 g2_7] 0) [Value.int .i64 g0_2, Value.int .i64 g1_3, Value.int .i64 g2_4, Value.int .i64 g3, Value.int .i64 g4, Value.int .i64 g5] 0))))
theorem vc234_eq (h_ : Option Addr) (w : World) (R : Value → World → Prop) : vc234 h_ w R = denFun ctx (bodyOf Tryz.f234) Tryz.f234.results.toList [Value.pointer h_] w R := by kernel_rfl
theorem vc234_calls (h_ : Option Addr) (w : World) (R : Value → World → Prop) (h : vc234 h_ w R) : Calls Tryz.prog 234 #[Value.pointer h_] w fun e w' => ∃ v, e = .returned v ∧ R v w' :=
  calls_of_den ctxOk (f := 234) (fn := Tryz.f234) (body := bodyOf Tryz.f234) (args := [Value.pointer h_]) (by kernel_rfl) (by kernel_rfl) (by kernel_rfl) (by kernel_rfl) (Eq.mp (vc234_eq h_ w R) h)

/-! ### (*ligature/heap.Heap[ligature/chain.waits]).swap: function 235 -/
def vc235 (h_ : Option Addr) (i : Int) (k : Int) (w : World) (R : Value → World → Prop) : Prop :=
  ∀ w1 : World, w1 = w.drew →
  NilC h_ (fun pa =>
  ∃ lA : Option Addr, ∃ lN : Nat, ∃ lC : Nat, w1.cell? (pa.add 0) = some (Value.slice lA lN lC) ∧
  NilC h_ (fun pa_1 =>
  ∃ lA_2 : Option Addr, ∃ lN_3 : Nat, ∃ lC_4 : Nat, w1.cell? (pa_1.add 0) = some (Value.slice lA_2 lN_3 lC_4) ∧
  NilC h_ (fun pa_5 =>
  ∃ lA_6 : Option Addr, ∃ lN_7 : Nat, ∃ lC_8 : Nat, w1.cell? (pa_5.add 0) = some (Value.slice lA_6 lN_7 lC_8) ∧
  NilC lA_6 (fun pa_9 =>
  (0 : Int) ≤ k ∧ k < ((lN_7 : Nat) : Int) ∧
  ∃ g0 : Int, ∃ g1 : Int, ∃ g2 : Int, ∃ g3 : Int, ∃ g4 : Int, ∃ g5 : Int, (w1.cell? (pa_9.add ((k : Int).toNat * 6)) = some (Value.int .i64 g0) ∧ w1.cell? ((pa_9.add ((k : Int).toNat * 6)).add 1) = some (Value.int .i64 g1) ∧ w1.cell? ((pa_9.add ((k : Int).toNat * 6)).add 2) = some (Value.int .i64 g2) ∧ w1.cell? ((pa_9.add ((k : Int).toNat * 6)).add 3) = some (Value.int .i64 g3) ∧ w1.cell? ((pa_9.add ((k : Int).toNat * 6)).add 4) = some (Value.int .i64 g4) ∧ w1.cell? ((pa_9.add ((k : Int).toNat * 6)).add 5) = some (Value.int .i64 g5) ∧ True) ∧
  NilC h_ (fun pa_10 =>
  ∃ lA_11 : Option Addr, ∃ lN_12 : Nat, ∃ lC_13 : Nat, w1.cell? (pa_10.add 0) = some (Value.slice lA_11 lN_12 lC_13) ∧
  NilC lA_11 (fun pa_14 =>
  (0 : Int) ≤ i ∧ i < ((lN_12 : Nat) : Int) ∧
  ∃ g0_15 : Int, ∃ g1_16 : Int, ∃ g2_17 : Int, ∃ g3_18 : Int, ∃ g4_19 : Int, ∃ g5_20 : Int, (w1.cell? (pa_14.add ((i : Int).toNat * 6)) = some (Value.int .i64 g0_15) ∧ w1.cell? ((pa_14.add ((i : Int).toNat * 6)).add 1) = some (Value.int .i64 g1_16) ∧ w1.cell? ((pa_14.add ((i : Int).toNat * 6)).add 2) = some (Value.int .i64 g2_17) ∧ w1.cell? ((pa_14.add ((i : Int).toNat * 6)).add 3) = some (Value.int .i64 g3_18) ∧ w1.cell? ((pa_14.add ((i : Int).toNat * 6)).add 4) = some (Value.int .i64 g4_19) ∧ w1.cell? ((pa_14.add ((i : Int).toNat * 6)).add 5) = some (Value.int .i64 g5_20) ∧ True) ∧
  NilC lA (fun pa_21 =>
  (0 : Int) ≤ i ∧ i < ((lN : Nat) : Int) ∧
  StoreP w1 (pa_21.add ((i : Int).toNat * 6)) (fun w2 =>
  NilC lA_2 (fun pa_22 =>
  (0 : Int) ≤ k ∧ k < ((lN_3 : Nat) : Int) ∧
  StoreP w2 (pa_22.add ((k : Int).toNat * 6)) (fun w3 =>
  R (Value.tuple #[]) w3) [Value.int .i64 g0_15, Value.int .i64 g1_16, Value.int .i64 g2_17, Value.int .i64 g3_18, Value.int .i64 g4_19, Value.int .i64 g5_20] 0)) [Value.int .i64 g0, Value.int .i64 g1, Value.int .i64 g2, Value.int .i64 g3, Value.int .i64 g4, Value.int .i64 g5] 0)))))))
theorem vc235_eq (h_ : Option Addr) (i : Int) (k : Int) (w : World) (R : Value → World → Prop) : vc235 h_ i k w R = denFun ctx (bodyOf Tryz.f235) Tryz.f235.results.toList [Value.pointer h_, Value.int .i64 i, Value.int .i64 k] w R := by kernel_rfl
theorem vc235_calls (h_ : Option Addr) (i : Int) (k : Int) (w : World) (R : Value → World → Prop) (h : vc235 h_ i k w R) : Calls Tryz.prog 235 #[Value.pointer h_, Value.int .i64 i, Value.int .i64 k] w fun e w' => ∃ v, e = .returned v ∧ R v w' :=
  calls_of_den ctxOk (f := 235) (fn := Tryz.f235) (body := bodyOf Tryz.f235) (args := [Value.pointer h_, Value.int .i64 i, Value.int .i64 k]) (by kernel_rfl) (by kernel_rfl) (by kernel_rfl) (by kernel_rfl) (Eq.mp (vc235_eq h_ i k w R) h)

/-! ### (*ligature/heap.Heap[ligature/chain.waits]).down: function 236 -/
def vc236 (h_ : Option Addr) (i : Int) (w : World) (R : Value → World → Prop) : Prop :=
  ∀ I1 : List Value → World → Prop, (∀ i_2 : Int, ∀ w1 : World, (Ar .i64 ((2 : Int) * i_2) (fun n =>
    Ar .i64 ((n : Int) + 1) (fun n_3 =>
    Ar .i64 ((2 : Int) * i_2) (fun n_4 =>
    Ar .i64 ((n_4 : Int) + 2) (fun n_5 =>
    ∀ I6 : List Value → World → Prop, (∀ y15 : Int, ∀ least : Int, ∀ w2 : World, (CondP (decide ((y15 : Int) < 2))
        (∀ J7 : List Value → World → Prop, (∀ least_8 : Int, ∀ w3 : World, (Ar .i64 ((y15 : Int) + 1) (fun n_9 =>
           I6 [Value.int .i64 n_9, Value.int .i64 least_8] w3)) → J7 [Value.int .i64 least_8] w3) →
         ∃ n_10 : Int, ∃ w4 : World, (Instr.index 312 (Value.agg #[Value.int .i64 n_3, Value.int .i64 n_5]) (Value.int .i64 y15)).run Tryz.prog w2 = .ok (Value.int .i64 n_10) w4 ∧
         ∀ w5 : World, w5 = w4.drew →
         NilC h_ (fun pa =>
         ∃ lA : Option Addr, ∃ lN : Nat, ∃ lC : Nat, w5.cell? (pa.add 0) = some (Value.slice lA lN lC) ∧
         CondP (decide ((n_10 : Int) < ((lN : Nat) : Int)))
           (NilC h_ (fun pa_11 =>
            ∃ lA_12 : Option Addr, ∃ lN_13 : Nat, ∃ lC_14 : Nat, w5.cell? (pa_11.add 0) = some (Value.slice lA_12 lN_13 lC_14) ∧
            NilC lA_12 (fun pa_15 =>
            (0 : Int) ≤ n_10 ∧ n_10 < ((lN_13 : Nat) : Int) ∧
            ∃ g0 : Int, ∃ g1 : Int, ∃ g2 : Int, (w5.cell? ((pa_15.add ((n_10 : Int).toNat * 6)).add 0) = some (Value.int .i64 g0) ∧ w5.cell? (((pa_15.add ((n_10 : Int).toNat * 6)).add 0).add 1) = some (Value.int .i64 g1) ∧ w5.cell? (((pa_15.add ((n_10 : Int).toNat * 6)).add 0).add 2) = some (Value.int .i64 g2) ∧ True) ∧
            NilC h_ (fun pa_16 =>
            ∃ lA_17 : Option Addr, ∃ lN_18 : Nat, ∃ lC_19 : Nat, w5.cell? (pa_16.add 0) = some (Value.slice lA_17 lN_18 lC_19) ∧
            NilC lA_17 (fun pa_20 =>
            (0 : Int) ≤ least ∧ least < ((lN_18 : Nat) : Int) ∧
            ∃ g0_21 : Int, ∃ g1_22 : Int, ∃ g2_23 : Int, (w5.cell? ((pa_20.add ((least : Int).toNat * 6)).add 0) = some (Value.int .i64 g0_21) ∧ w5.cell? (((pa_20.add ((least : Int).toNat * 6)).add 0).add 1) = some (Value.int .i64 g1_22) ∧ w5.cell? (((pa_20.add ((least : Int).toNat * 6)).add 0).add 2) = some (Value.int .i64 g2_23) ∧ True) ∧
            Calls Tryz.prog 240 #[Value.agg #[Value.int .i64 g0, Value.int .i64 g1, Value.int .i64 g2], Value.agg #[Value.int .i64 g0_21, Value.int .i64 g1_22, Value.int .i64 g2_23]] w5 (fun e6 w6 =>
            ∃ b : Bool, e6 = .returned (Value.bool b) ∧
            CondP b
              (J7 [Value.int .i64 n_10] w6)
              (J7 [Value.int .i64 least] w6)))))))
           (J7 [Value.int .i64 least] w5)))
        (CondP ((least : Int) == i_2)
           (R (Value.tuple #[]) w2)
           (Calls Tryz.prog 235 #[Value.pointer h_, Value.int .i64 i_2, Value.int .i64 least] w2 (fun e7 w7 =>
            e7 = .returned (Value.tuple #[]) ∧
            I1 [Value.int .i64 least] w7)))) → I6 [Value.int .i64 y15, Value.int .i64 least] w2) →
    I6 [Value.int .i64 0, Value.int .i64 i_2] w1))))) → I1 [Value.int .i64 i_2] w1) →
  I1 [Value.int .i64 i] w
theorem vc236_eq (h_ : Option Addr) (i : Int) (w : World) (R : Value → World → Prop) : vc236 h_ i w R = denFun ctx (bodyOf Tryz.f236) Tryz.f236.results.toList [Value.pointer h_, Value.int .i64 i] w R := by kernel_rfl
theorem vc236_calls (h_ : Option Addr) (i : Int) (w : World) (R : Value → World → Prop) (h : vc236 h_ i w R) : Calls Tryz.prog 236 #[Value.pointer h_, Value.int .i64 i] w fun e w' => ∃ v, e = .returned v ∧ R v w' :=
  calls_of_den ctxOk (f := 236) (fn := Tryz.f236) (body := bodyOf Tryz.f236) (args := [Value.pointer h_, Value.int .i64 i]) (by kernel_rfl) (by kernel_rfl) (by kernel_rfl) (by kernel_rfl) (Eq.mp (vc236_eq h_ i w R) h)

/-! ### (*ligature/token.Table).Parents: function 237 -/
def vc237 (t : Option Addr) (id : Int) (w : World) (R : Value → World → Prop) : Prop :=
  ∀ w1 : World, w1 = w.alloc (.cells #[Value.int .i64 0, Value.int .i64 0] 81) →
  Calls Tryz.prog 179 #[Value.pointer t, Value.int .i64 id] w1 (fun e2 w2 =>
  ∃ b : Bool, e2 = .returned (Value.bool b) ∧
  CondP (!b)
    (StoreP w2 (nb w) (fun w3 =>
     ∃ res0 : Int, ∃ res1 : Int, (w3.cell? (nb w) = some (Value.int .i64 res0) ∧ w3.cell? ((nb w).add 1) = some (Value.int .i64 res1) ∧ True) ∧
     R (Value.tuple #[Value.agg #[Value.int .i64 res0, Value.int .i64 res1], Value.bool false]) w3) [Value.int .i64 0, Value.int .i64 0] 0)
    (NilC t (fun pa =>
     ∃ lA : Option Addr, ∃ lN : Nat, ∃ lC : Nat, w2.cell? (pa.add 0) = some (Value.slice lA lN lC) ∧
     NilC lA (fun pa_1 =>
     (0 : Int) ≤ id ∧ id < ((lN : Nat) : Int) ∧
     ∃ g0 : Int, ∃ g1 : Int, (w2.cell? ((pa_1.add ((id : Int).toNat * 3)).add 1) = some (Value.int .i64 g0) ∧ w2.cell? (((pa_1.add ((id : Int).toNat * 3)).add 1).add 1) = some (Value.int .i64 g1) ∧ True) ∧
     CondP (((g0 : Int) == -1) && (((g1 : Int) == -1) && (true)))
       (StoreP w2 (nb w) (fun w4 =>
        ∃ res0_2 : Int, ∃ res1_3 : Int, (w4.cell? (nb w) = some (Value.int .i64 res0_2) ∧ w4.cell? ((nb w).add 1) = some (Value.int .i64 res1_3) ∧ True) ∧
        R (Value.tuple #[Value.agg #[Value.int .i64 res0_2, Value.int .i64 res1_3], Value.bool false]) w4) [Value.int .i64 0, Value.int .i64 0] 0)
       (NilC t (fun pa_4 =>
        ∃ lA_5 : Option Addr, ∃ lN_6 : Nat, ∃ lC_7 : Nat, w2.cell? (pa_4.add 0) = some (Value.slice lA_5 lN_6 lC_7) ∧
        NilC lA_5 (fun pa_8 =>
        (0 : Int) ≤ id ∧ id < ((lN_6 : Nat) : Int) ∧
        ∃ g0_9 : Int, ∃ g1_10 : Int, (w2.cell? ((pa_8.add ((id : Int).toNat * 3)).add 1) = some (Value.int .i64 g0_9) ∧ w2.cell? (((pa_8.add ((id : Int).toNat * 3)).add 1).add 1) = some (Value.int .i64 g1_10) ∧ True) ∧
        StoreP w2 (nb w) (fun w5 =>
        ∃ res0_11 : Int, ∃ res1_12 : Int, (w5.cell? (nb w) = some (Value.int .i64 res0_11) ∧ w5.cell? ((nb w).add 1) = some (Value.int .i64 res1_12) ∧ True) ∧
        R (Value.tuple #[Value.agg #[Value.int .i64 res0_11, Value.int .i64 res1_12], Value.bool true]) w5) [Value.int .i64 g0_9, Value.int .i64 g1_10] 0)))))))
theorem vc237_eq (t : Option Addr) (id : Int) (w : World) (R : Value → World → Prop) : vc237 t id w R = denFun ctx (bodyOf Tryz.f237) Tryz.f237.results.toList [Value.pointer t, Value.int .i64 id] w R := by kernel_rfl
theorem vc237_calls (t : Option Addr) (id : Int) (w : World) (R : Value → World → Prop) (h : vc237 t id w R) : Calls Tryz.prog 237 #[Value.pointer t, Value.int .i64 id] w fun e w' => ∃ v, e = .returned v ∧ R v w' :=
  calls_of_den ctxOk (f := 237) (fn := Tryz.f237) (body := bodyOf Tryz.f237) (args := [Value.pointer t, Value.int .i64 id]) (by kernel_rfl) (by kernel_rfl) (by kernel_rfl) (by kernel_rfl) (Eq.mp (vc237_eq t id w R) h)

/-! ### (*ligature/heap.Heap[ligature/chain.waits]).up: function 238 -/
def vc238 (h_ : Option Addr) (i : Int) (w : World) (R : Value → World → Prop) : Prop :=
  ∀ I1 : List Value → World → Prop, (∀ i_2 : Int, ∀ w1 : World, (CondP (decide ((i_2 : Int) > 0))
      (Ar .i64 ((i_2 : Int) - 1) (fun n =>
       (2 : Int) ≠ 0 ∧
       ∀ w2 : World, w2 = w1.drew →
       NilC h_ (fun pa =>
       ∃ lA : Option Addr, ∃ lN : Nat, ∃ lC : Nat, w2.cell? (pa.add 0) = some (Value.slice lA lN lC) ∧
       NilC lA (fun pa_3 =>
       (0 : Int) ≤ i_2 ∧ i_2 < ((lN : Nat) : Int) ∧
       ∃ g0 : Int, ∃ g1 : Int, ∃ g2 : Int, (w2.cell? ((pa_3.add ((i_2 : Int).toNat * 6)).add 0) = some (Value.int .i64 g0) ∧ w2.cell? (((pa_3.add ((i_2 : Int).toNat * 6)).add 0).add 1) = some (Value.int .i64 g1) ∧ w2.cell? (((pa_3.add ((i_2 : Int).toNat * 6)).add 0).add 2) = some (Value.int .i64 g2) ∧ True) ∧
       NilC h_ (fun pa_4 =>
       ∃ lA_5 : Option Addr, ∃ lN_6 : Nat, ∃ lC_7 : Nat, w2.cell? (pa_4.add 0) = some (Value.slice lA_5 lN_6 lC_7) ∧
       NilC lA_5 (fun pa_8 =>
       (0 : Int) ≤ (IntKind.wrap .i64 (Int.tdiv n 2)) ∧ (IntKind.wrap .i64 (Int.tdiv n 2)) < ((lN_6 : Nat) : Int) ∧
       ∃ g0_9 : Int, ∃ g1_10 : Int, ∃ g2_11 : Int, (w2.cell? ((pa_8.add ((IntKind.wrap .i64 (Int.tdiv n 2) : Int).toNat * 6)).add 0) = some (Value.int .i64 g0_9) ∧ w2.cell? (((pa_8.add ((IntKind.wrap .i64 (Int.tdiv n 2) : Int).toNat * 6)).add 0).add 1) = some (Value.int .i64 g1_10) ∧ w2.cell? (((pa_8.add ((IntKind.wrap .i64 (Int.tdiv n 2) : Int).toNat * 6)).add 0).add 2) = some (Value.int .i64 g2_11) ∧ True) ∧
       Calls Tryz.prog 240 #[Value.agg #[Value.int .i64 g0, Value.int .i64 g1, Value.int .i64 g2], Value.agg #[Value.int .i64 g0_9, Value.int .i64 g1_10, Value.int .i64 g2_11]] w2 (fun e3 w3 =>
       ∃ b : Bool, e3 = .returned (Value.bool b) ∧
       CondP (!b)
         (R (Value.tuple #[]) w3)
         (Calls Tryz.prog 235 #[Value.pointer h_, Value.int .i64 i_2, Value.int .i64 (IntKind.wrap .i64 (Int.tdiv n 2))] w3 (fun e4 w4 =>
          e4 = .returned (Value.tuple #[]) ∧
          I1 [Value.int .i64 (IntKind.wrap .i64 (Int.tdiv n 2))] w4)))))))))
      (R (Value.tuple #[]) w1)) → I1 [Value.int .i64 i_2] w1) →
  I1 [Value.int .i64 i] w
theorem vc238_eq (h_ : Option Addr) (i : Int) (w : World) (R : Value → World → Prop) : vc238 h_ i w R = denFun ctx (bodyOf Tryz.f238) Tryz.f238.results.toList [Value.pointer h_, Value.int .i64 i] w R := by kernel_rfl
theorem vc238_calls (h_ : Option Addr) (i : Int) (w : World) (R : Value → World → Prop) (h : vc238 h_ i w R) : Calls Tryz.prog 238 #[Value.pointer h_, Value.int .i64 i] w fun e w' => ∃ v, e = .returned v ∧ R v w' :=
  calls_of_den ctxOk (f := 238) (fn := Tryz.f238) (body := bodyOf Tryz.f238) (args := [Value.pointer h_, Value.int .i64 i]) (by kernel_rfl) (by kernel_rfl) (by kernel_rfl) (by kernel_rfl) (Eq.mp (vc238_eq h_ i w R) h)

/-! ### (*ligature/heap.Heap[ligature/chain.waits]).Len: function 239 -/
def vc239 (h_ : Option Addr) (w : World) (R : Value → World → Prop) : Prop :=
  CondP (Option.isNone h_)
    (R (Value.int .i64 0) w)
    (NilC h_ (fun pa =>
     ∃ lA : Option Addr, ∃ lN : Nat, ∃ lC : Nat, w.cell? (pa.add 0) = some (Value.slice lA lN lC) ∧
     R (Value.int .i64 ((lN : Nat) : Int)) w))
theorem vc239_eq (h_ : Option Addr) (w : World) (R : Value → World → Prop) : vc239 h_ w R = denFun ctx (bodyOf Tryz.f239) Tryz.f239.results.toList [Value.pointer h_] w R := by kernel_rfl
theorem vc239_calls (h_ : Option Addr) (w : World) (R : Value → World → Prop) (h : vc239 h_ w R) : Calls Tryz.prog 239 #[Value.pointer h_] w fun e w' => ∃ v, e = .returned v ∧ R v w' :=
  calls_of_den ctxOk (f := 239) (fn := Tryz.f239) (body := bodyOf Tryz.f239) (args := [Value.pointer h_]) (by kernel_rfl) (by kernel_rfl) (by kernel_rfl) (by kernel_rfl) (Eq.mp (vc239_eq h_ w R) h)

end Go.Proofs.YtpklkijdlnioaaaGreat.Eng
