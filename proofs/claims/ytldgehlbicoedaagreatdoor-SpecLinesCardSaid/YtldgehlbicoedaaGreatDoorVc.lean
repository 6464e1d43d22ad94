/- What these functions owe, printed by a program of this repo out of the translation. -/
import Derived.Test.YtldgehlbicoedaaGreatDoorTab
import Derived.Test.YtldgehlbicoedaaGreatDoorVcp0
set_option linter.unusedVariables false
set_option maxRecDepth 100000
namespace Go.Proofs.YtldgehlbicoedaaGreatDoor.Eng
open Go

/-! ### slices.Equal[[]ligature/api.Join,ligature/api.Join]: function 45 -/
def vc45 (s1A : Option Addr) (s1N : Nat) (s1C : Nat) (s2A : Option Addr) (s2N : Nat) (s2C : Nat) (w : World) (R : Value → World → Prop) : Prop :=
  CondP ((((s1N : Nat) : Int) : Int) != ((s2N : Nat) : Int))
    (R (Value.bool false) w)
    (∀ I1 : List Value → World → Prop, (∀ y13 : Int, ∀ y4 : Bool, ∀ w1 : World, (CondP (decide ((y13 : Int) < ((s1N : Nat) : Int)))
         (∀ w2 : World, w2 = w1.drew →
          NilC s1A (fun pa =>
          (0 : Int) ≤ y13 ∧ y13 < ((s1N : Nat) : Int) ∧
          ∃ g0 : Int, ∃ g1 : Int, (w2.cell? (pa.add ((y13 : Int).toNat * 2)) = some (Value.int .i64 g0) ∧ w2.cell? ((pa.add ((y13 : Int).toNat * 2)).add 1) = some (Value.int .i64 g1) ∧ True) ∧
          NilC s2A (fun pa_2 =>
          (0 : Int) ≤ y13 ∧ y13 < ((s2N : Nat) : Int) ∧
          ∃ g0_3 : Int, ∃ g1_4 : Int, (w2.cell? (pa_2.add ((y13 : Int).toNat * 2)) = some (Value.int .i64 g0_3) ∧ w2.cell? ((pa_2.add ((y13 : Int).toNat * 2)).add 1) = some (Value.int .i64 g1_4) ∧ True) ∧
          CondP (!(((g0 : Int) == g0_3) && (((g1 : Int) == g1_4) && (true))))
            (R (Value.bool false) w2)
            (Ar .i64 ((y13 : Int) + 1) (fun n =>
             I1 [Value.int .i64 n, Value.bool y4] w2)))))
         (R (Value.bool true) w1)) → I1 [Value.int .i64 y13, Value.bool y4] w1) →
     I1 [Value.int .i64 0, Value.bool false] w)
theorem vc45_eq (s1A : Option Addr) (s1N : Nat) (s1C : Nat) (s2A : Option Addr) (s2N : Nat) (s2C : Nat) (w : World) (R : Value → World → Prop) : vc45 s1A s1N s1C s2A s2N s2C w R = denFun ctx (bodyOf Tryz.f45) Tryz.f45.results.toList [Value.slice s1A s1N s1C, Value.slice s2A s2N s2C] w R := by kernel_rfl
theorem vc45_calls (s1A : Option Addr) (s1N : Nat) (s1C : Nat) (s2A : Option Addr) (s2N : Nat) (s2C : Nat) (w : World) (R : Value → World → Prop) (h : vc45 s1A s1N s1C s2A s2N s2C w R) : Calls Tryz.prog 45 #[Value.slice s1A s1N s1C, Value.slice s2A s2N s2C] w fun e w' => ∃ v, e = .returned v ∧ R v w' :=
  calls_of_den ctxOk (f := 45) (fn := Tryz.f45) (body := bodyOf Tryz.f45) (args := [Value.slice s1A s1N s1C, Value.slice s2A s2N s2C]) (by kernel_rfl) (by kernel_rfl) (by kernel_rfl) (by kernel_rfl) (Eq.mp (vc45_eq s1A s1N s1C s2A s2N s2C w R) h)

/-! ### ligature/word.Cut: function 47 -/
def vc47 (line : ByteArray) (w : World) (R : Value → World → Prop) : Prop :=
  Calls Tryz.prog 70 #[Value.string line, Value.string ⟨#[32]⟩] w (fun e1 w1 =>
  ∃ lA : Option Addr, ∃ lN : Nat, ∃ lC : Nat, e1 = .returned (Value.slice lA lN lC) ∧
  R (Value.slice lA lN lC) w1)
theorem vc47_eq (line : ByteArray) (w : World) (R : Value → World → Prop) : vc47 line w R = denFun ctx (bodyOf Tryz.f47) Tryz.f47.results.toList [Value.string line] w R := by kernel_rfl
theorem vc47_calls (line : ByteArray) (w : World) (R : Value → World → Prop) (h : vc47 line w R) : Calls Tryz.prog 47 #[Value.string line] w fun e w' => ∃ v, e = .returned v ∧ R v w' :=
  calls_of_den ctxOk (f := 47) (fn := Tryz.f47) (body := bodyOf Tryz.f47) (args := [Value.string line]) (by kernel_rfl) (by kernel_rfl) (by kernel_rfl) (by kernel_rfl) (Eq.mp (vc47_eq line w R) h)

/-! ### (*ligature/spec.reader).take: function 48 -/
def vc48 (r : Option Addr) (first : ByteArray) (lA : Option Addr) (lN : Nat) (lC : Nat) (w : World) (R : Value → World → Prop) : Prop :=
  CondP ((first : ByteArray).toList == (⟨#[118, 111, 99, 97, 98]⟩ : ByteArray).toList)
    (Calls Tryz.prog 71 #[Value.pointer r, Value.slice lA lN lC] w (fun e1 w1 =>
     ∃ b : Bool, e1 = .returned (Value.bool b) ∧
     R (Value.tuple #[Value.int .i64 0, Value.bool b]) w1))
    (CondP ((first : ByteArray).toList == (⟨#[109, 101, 114, 103, 101]⟩ : ByteArray).toList)
       (Calls Tryz.prog 72 #[Value.pointer r, Value.slice lA lN lC] w (fun e2 w2 =>
        ∃ b_1 : Bool, e2 = .returned (Value.bool b_1) ∧
        R (Value.tuple #[Value.int .i64 1, Value.bool b_1]) w2))
       (CondP ((first : ByteArray).toList == (⟨#[116, 111, 107, 101, 110]⟩ : ByteArray).toList)
          (Calls Tryz.prog 73 #[Value.pointer r, Value.slice lA lN lC] w (fun e3 w3 =>
           ∃ b_2 : Bool, e3 = .returned (Value.bool b_2) ∧
           R (Value.tuple #[Value.int .i64 1, Value.bool b_2]) w3))
          (CondP ((first : ByteArray).toList == (⟨#[115, 112, 101, 99, 105, 97, 108]⟩ : ByteArray).toList)
             (Calls Tryz.prog 74 #[Value.pointer r, Value.slice lA lN lC] w (fun e4 w4 =>
              ∃ b_3 : Bool, e4 = .returned (Value.bool b_3) ∧
              R (Value.tuple #[Value.int .i64 2, Value.bool b_3]) w4))
             (CondP ((first : ByteArray).toList == (⟨#[99, 108, 97, 115, 115]⟩ : ByteArray).toList)
                (Calls Tryz.prog 75 #[Value.pointer r, Value.slice lA lN lC] w (fun e5 w5 =>
                 ∃ b_4 : Bool, e5 = .returned (Value.bool b_4) ∧
                 R (Value.tuple #[Value.int .i64 3, Value.bool b_4]) w5))
                (CondP ((first : ByteArray).toList == (⟨#[106, 111, 105, 110]⟩ : ByteArray).toList)
                   (Calls Tryz.prog 76 #[Value.pointer r, Value.slice lA lN lC] w (fun e6 w6 =>
                    ∃ b_5 : Bool, e6 = .returned (Value.bool b_5) ∧
                    R (Value.tuple #[Value.int .i64 4, Value.bool b_5]) w6))
                   (R (Value.tuple #[Value.int .i64 0, Value.bool false]) w))))))
theorem vc48_eq (r : Option Addr) (first : ByteArray) (lA : Option Addr) (lN : Nat) (lC : Nat) (w : World) (R : Value → World → Prop) : vc48 r first lA lN lC w R = denFun ctx (bodyOf Tryz.f48) Tryz.f48.results.toList [Value.pointer r, Value.string first, Value.slice lA lN lC] w R := by kernel_rfl
theorem vc48_calls (r : Option Addr) (first : ByteArray) (lA : Option Addr) (lN : Nat) (lC : Nat) (w : World) (R : Value → World → Prop) (h : vc48 r first lA lN lC w R) : Calls Tryz.prog 48 #[Value.pointer r, Value.string first, Value.slice lA lN lC] w fun e w' => ∃ v, e = .returned v ∧ R v w' :=
  calls_of_den ctxOk (f := 48) (fn := Tryz.f48) (body := bodyOf Tryz.f48) (args := [Value.pointer r, Value.string first, Value.slice lA lN lC]) (by kernel_rfl) (by kernel_rfl) (by kernel_rfl) (by kernel_rfl) (Eq.mp (vc48_eq r first lA lN lC w R) h)

/-! ### ligature/ligatureref02.Parse: function 49 -/
def vc49 (s : ByteArray) (most : Int) (w : World) (R : Value → World → Prop) : Prop :=
  CondP ((((s : ByteArray).size : Int) : Int) == 0)
    (R (Value.tuple #[Value.int .i64 0, Value.bool false]) w)
    (CondP (decide ((((s : ByteArray).size : Int) : Int) > 19))
       (R (Value.tuple #[Value.int .i64 0, Value.bool false]) w)
       (CondP (decide ((((s : ByteArray).size : Int) : Int) > 1))
          ((0 : Int) ≤ 0 ∧ 0 < ((s : ByteArray).size : Int) ∧
           CondP ((btAt s 0 : Int) == 48)
             (R (Value.tuple #[Value.int .i64 0, Value.bool false]) w)
             (∀ I1 : List Value → World → Prop, (∀ i : Int, ∀ n : Int, ∀ y5 : Bool, ∀ y4 : Int, ∀ w1 : World, (CondP (decide ((i : Int) < ((s : ByteArray).size : Int)))
                  ((0 : Int) ≤ i ∧ i < ((s : ByteArray).size : Int) ∧
                   CondP (decide ((btAt s i : Int) < 48))
                     (R (Value.tuple #[Value.int .i64 0, Value.bool false]) w1)
                     ((0 : Int) ≤ i ∧ i < ((s : ByteArray).size : Int) ∧
                      CondP (decide ((btAt s i : Int) > 57))
                        (R (Value.tuple #[Value.int .i64 0, Value.bool false]) w1)
                        ((0 : Int) ≤ i ∧ i < ((s : ByteArray).size : Int) ∧
                         Ar .u8 ((btAt s i : Int) - 48) (fun n_2 =>
                         Ar .i64 ((9223372036854775807 : Int) - (IntKind.wrap .i64 n_2)) (fun n_3 =>
                         (10 : Int) ≠ 0 ∧
                         CondP (decide ((n : Int) > (IntKind.wrap .i64 (Int.tdiv n_3 10))))
                           (R (Value.tuple #[Value.int .i64 0, Value.bool false]) w1)
                           (Ar .i64 ((10 : Int) * n) (fun n_4 =>
                            (0 : Int) ≤ i ∧ i < ((s : ByteArray).size : Int) ∧
                            Ar .u8 ((btAt s i : Int) - 48) (fun n_5 =>
                            Ar .i64 ((n_4 : Int) + (IntKind.wrap .i64 n_5)) (fun n_6 =>
                            Ar .i64 ((i : Int) + 1) (fun n_7 =>
                            I1 [Value.int .i64 n_7, Value.int .i64 n_6, Value.bool y5, Value.int .i64 y4] w1))))))))))
                  (CondP (decide ((n : Int) > most))
                     (R (Value.tuple #[Value.int .i64 0, Value.bool false]) w1)
                     (R (Value.tuple #[Value.int .i64 n, Value.bool true]) w1))) → I1 [Value.int .i64 i, Value.int .i64 n, Value.bool y5, Value.int .i64 y4] w1) →
              I1 [Value.int .i64 0, Value.int .i64 0, Value.bool false, Value.int .i64 0] w))
          (∀ I8 : List Value → World → Prop, (∀ i_9 : Int, ∀ n_10 : Int, ∀ y5_11 : Bool, ∀ y4_12 : Int, ∀ w2 : World, (CondP (decide ((i_9 : Int) < ((s : ByteArray).size : Int)))
               ((0 : Int) ≤ i_9 ∧ i_9 < ((s : ByteArray).size : Int) ∧
                CondP (decide ((btAt s i_9 : Int) < 48))
                  (R (Value.tuple #[Value.int .i64 0, Value.bool false]) w2)
                  ((0 : Int) ≤ i_9 ∧ i_9 < ((s : ByteArray).size : Int) ∧
                   CondP (decide ((btAt s i_9 : Int) > 57))
                     (R (Value.tuple #[Value.int .i64 0, Value.bool false]) w2)
                     ((0 : Int) ≤ i_9 ∧ i_9 < ((s : ByteArray).size : Int) ∧
                      Ar .u8 ((btAt s i_9 : Int) - 48) (fun n_13 =>
                      Ar .i64 ((9223372036854775807 : Int) - (IntKind.wrap .i64 n_13)) (fun n_14 =>
                      (10 : Int) ≠ 0 ∧
                      CondP (decide ((n_10 : Int) > (IntKind.wrap .i64 (Int.tdiv n_14 10))))
                        (R (Value.tuple #[Value.int .i64 0, Value.bool false]) w2)
                        (Ar .i64 ((10 : Int) * n_10) (fun n_15 =>
                         (0 : Int) ≤ i_9 ∧ i_9 < ((s : ByteArray).size : Int) ∧
                         Ar .u8 ((btAt s i_9 : Int) - 48) (fun n_16 =>
                         Ar .i64 ((n_15 : Int) + (IntKind.wrap .i64 n_16)) (fun n_17 =>
                         Ar .i64 ((i_9 : Int) + 1) (fun n_18 =>
                         I8 [Value.int .i64 n_18, Value.int .i64 n_17, Value.bool y5_11, Value.int .i64 y4_12] w2))))))))))
               (CondP (decide ((n_10 : Int) > most))
                  (R (Value.tuple #[Value.int .i64 0, Value.bool false]) w2)
                  (R (Value.tuple #[Value.int .i64 n_10, Value.bool true]) w2))) → I8 [Value.int .i64 i_9, Value.int .i64 n_10, Value.bool y5_11, Value.int .i64 y4_12] w2) →
           I8 [Value.int .i64 0, Value.int .i64 0, Value.bool false, Value.int .i64 0] w)))
theorem vc49_eq (s : ByteArray) (most : Int) (w : World) (R : Value → World → Prop) : vc49 s most w R = denFun ctx (bodyOf Tryz.f49) Tryz.f49.results.toList [Value.string s, Value.int .i64 most] w R := by kernel_rfl
theorem vc49_calls (s : ByteArray) (most : Int) (w : World) (R : Value → World → Prop) (h : vc49 s most w R) : Calls Tryz.prog 49 #[Value.string s, Value.int .i64 most] w fun e w' => ∃ v, e = .returned v ∧ R v w' :=
  calls_of_den ctxOk (f := 49) (fn := Tryz.f49) (body := bodyOf Tryz.f49) (args := [Value.string s, Value.int .i64 most]) (by kernel_rfl) (by kernel_rfl) (by kernel_rfl) (by kernel_rfl) (Eq.mp (vc49_eq s most w R) h)

/-! ### ligature/ligatureref02.Unhex: function 50 -/
def vc50 (s : ByteArray) (w : World) (R : Value → World → Prop) : Prop :=
  CondP ((s : ByteArray).toList == (⟨#[45]⟩ : ByteArray).toList)
    (R (Value.tuple #[Value.string ⟨#[]⟩, Value.bool true]) w)
    (∀ I1 : List Value → World → Prop, (∀ i : Int, ∀ bA : Option Addr, ∀ bN : Nat, ∀ bC : Nat, ∀ y3 : Bool, ∀ y2 : ByteArray, ∀ w1 : World, (CondP (decide ((i : Int) < ((s : ByteArray).size : Int)))
         (Ar .i64 ((i : Int) + 1) (fun n =>
          CondP (decide ((n : Int) ≥ ((s : ByteArray).size : Int)))
            (R (Value.tuple #[Value.string ⟨#[]⟩, Value.bool false]) w1)
            ((0 : Int) ≤ i ∧ i < ((s : ByteArray).size : Int) ∧
             Calls Tryz.prog 77 #[Value.int .u8 (btAt s i)] w1 (fun e2 w2 =>
             ∃ n_2 : Int, e2 = .returned (Value.int .i64 n_2) ∧
             CondP (decide ((n_2 : Int) > 15))
               (R (Value.tuple #[Value.string ⟨#[]⟩, Value.bool false]) w2)
               (Ar .i64 ((i : Int) + 1) (fun n_3 =>
                (0 : Int) ≤ n_3 ∧ n_3 < ((s : ByteArray).size : Int) ∧
                Calls Tryz.prog 77 #[Value.int .u8 (btAt s n_3)] w2 (fun e3 w3 =>
                ∃ n_4 : Int, e3 = .returned (Value.int .i64 n_4) ∧
                CondP (decide ((n_4 : Int) > 15))
                  (R (Value.tuple #[Value.string ⟨#[]⟩, Value.bool false]) w3)
                  (∀ w4 : World, w4 = w3.drew →
                   (0 : Int) ≤ i ∧ i < ((s : ByteArray).size : Int) ∧
                   Ar .i64 ((i : Int) + 1) (fun n_5 =>
                   (0 : Int) ≤ n_5 ∧ n_5 < ((s : ByteArray).size : Int) ∧
                   Calls Tryz.prog 77 #[Value.int .u8 (btAt s i)] w4 (fun e5 w5 =>
                   ∃ n_6 : Int, e5 = .returned (Value.int .i64 n_6) ∧
                   Ar .i64 ((16 : Int) * n_6) (fun n_7 =>
                   Calls Tryz.prog 77 #[Value.int .u8 (btAt s n_5)] w5 (fun e6 w6 =>
                   ∃ n_8 : Int, e6 = .returned (Value.int .i64 n_8) ∧
                   Ar .i64 ((n_7 : Int) + n_8) (fun n_9 =>
                   ∀ w7 : World, w7 = w6.alloc (.cells #[Value.int .u8 (IntKind.wrap .u8 n_9)] 5) →
                   ∃ lA : Option Addr, ∃ lN : Nat, ∃ lC : Nat, ∃ w8 : World, (Builtin.append_ #[65, 65] 65 #[Value.slice bA bN bC, Value.slice (some (nb w6)) 1 1]).run Tryz.prog w7 = .ok (Value.slice lA lN lC) w8 ∧
                   Ar .i64 ((i : Int) + 2) (fun n_10 =>
                   I1 [Value.int .i64 n_10, Value.slice lA lN lC, Value.bool y3, Value.string y2] w8))))))))))))))
         (∃ s_11 : ByteArray, ∃ w9 : World, (convert 65 9 (Value.slice bA bN bC)).run Tryz.prog w1 = .ok (Value.string s_11) w9 ∧
          R (Value.tuple #[Value.string s_11, Value.bool (decide ((((bN : Nat) : Int) : Int) > 0))]) w9)) → I1 [Value.int .i64 i, Value.slice bA bN bC, Value.bool y3, Value.string y2] w1) →
     I1 [Value.int .i64 0, Value.slice none 0 0, Value.bool false, Value.string ⟨#[]⟩] w)
theorem vc50_eq (s : ByteArray) (w : World) (R : Value → World → Prop) : vc50 s w R = denFun ctx (bodyOf Tryz.f50) Tryz.f50.results.toList [Value.string s] w R := by kernel_rfl
theorem vc50_calls (s : ByteArray) (w : World) (R : Value → World → Prop) (h : vc50 s w R) : Calls Tryz.prog 50 #[Value.string s] w fun e w' => ∃ v, e = .returned v ∧ R v w' :=
  calls_of_den ctxOk (f := 50) (fn := Tryz.f50) (body := bodyOf Tryz.f50) (args := [Value.string s]) (by kernel_rfl) (by kernel_rfl) (by kernel_rfl) (by kernel_rfl) (Eq.mp (vc50_eq s w R) h)

/-! ### ligature/ligatureref02.Number: function 51 -/
def vc51 (n : Int) (w : World) (R : Value → World → Prop) : Prop :=
  CondP (decide ((n : Int) ≥ 0))
    (∀ I1 : List Value → World → Prop, (∀ s : ByteArray, ∀ n_2 : Int, ∀ w1 : World, (CondP (decide ((n_2 : Int) > 0))
         ((10 : Int) ≠ 0 ∧
          Ar .i64 ((48 : Int) + (Int.tmod n_2 10)) (fun n_3 =>
          ∀ w2 : World, w2 = w1.alloc (.cells #[Value.int .u8 (IntKind.wrap .u8 n_3)] 5) →
          ∃ s_4 : ByteArray, ∃ w3 : World, (convert 65 9 (Value.slice (some (nb w1)) 1 1)).run Tryz.prog w2 = .ok (Value.string s_4) w3 ∧
          (((s_4 : ByteArray).size + (s : ByteArray).size : Nat) : Int) ≤ IntKind.i64.max ∧
          (10 : Int) ≠ 0 ∧
          I1 [Value.string ((s_4 : ByteArray) ++ (s : ByteArray)), Value.int .i64 (IntKind.wrap .i64 (Int.tdiv n_2 10))] w3))
         (CondP ((s : ByteArray).toList == (⟨#[]⟩ : ByteArray).toList)
            ((10 : Int) ≠ 0 ∧
             Ar .i64 ((48 : Int) + (Int.tmod n_2 10)) (fun n_5 =>
             ∀ w4 : World, w4 = w1.alloc (.cells #[Value.int .u8 (IntKind.wrap .u8 n_5)] 5) →
             ∃ s_6 : ByteArray, ∃ w5 : World, (convert 65 9 (Value.slice (some (nb w1)) 1 1)).run Tryz.prog w4 = .ok (Value.string s_6) w5 ∧
             (((s_6 : ByteArray).size + (s : ByteArray).size : Nat) : Int) ≤ IntKind.i64.max ∧
             (10 : Int) ≠ 0 ∧
             I1 [Value.string ((s_6 : ByteArray) ++ (s : ByteArray)), Value.int .i64 (IntKind.wrap .i64 (Int.tdiv n_2 10))] w5))
            (R (Value.string s) w1))) → I1 [Value.string s, Value.int .i64 n_2] w1) →
     I1 [Value.string ⟨#[]⟩, Value.int .i64 n] w)
    (∀ I7 : List Value → World → Prop, (∀ s_8 : ByteArray, ∀ n_9 : Int, ∀ w6 : World, (CondP (decide ((n_9 : Int) < 0))
         ((10 : Int) ≠ 0 ∧
          Ar .i64 ((48 : Int) - (Int.tmod n_9 10)) (fun n_10 =>
          ∀ w7 : World, w7 = w6.alloc (.cells #[Value.int .u8 (IntKind.wrap .u8 n_10)] 5) →
          ∃ s_11 : ByteArray, ∃ w8 : World, (convert 65 9 (Value.slice (some (nb w6)) 1 1)).run Tryz.prog w7 = .ok (Value.string s_11) w8 ∧
          (((s_11 : ByteArray).size + (s_8 : ByteArray).size : Nat) : Int) ≤ IntKind.i64.max ∧
          (10 : Int) ≠ 0 ∧
          I7 [Value.string ((s_11 : ByteArray) ++ (s_8 : ByteArray)), Value.int .i64 (IntKind.wrap .i64 (Int.tdiv n_9 10))] w8))
         ((((⟨#[45]⟩ : ByteArray).size + (s_8 : ByteArray).size : Nat) : Int) ≤ IntKind.i64.max ∧
          R (Value.string ((⟨#[45]⟩ : ByteArray) ++ (s_8 : ByteArray))) w6)) → I7 [Value.string s_8, Value.int .i64 n_9] w6) →
     I7 [Value.string ⟨#[]⟩, Value.int .i64 n] w)
theorem vc51_eq (n : Int) (w : World) (R : Value → World → Prop) : vc51 n w R = denFun ctx (bodyOf Tryz.f51) Tryz.f51.results.toList [Value.int .i64 n] w R := by kernel_rfl
theorem vc51_calls (n : Int) (w : World) (R : Value → World → Prop) (h : vc51 n w R) : Calls Tryz.prog 51 #[Value.int .i64 n] w fun e w' => ∃ v, e = .returned v ∧ R v w' :=
  calls_of_den ctxOk (f := 51) (fn := Tryz.f51) (body := bodyOf Tryz.f51) (args := [Value.int .i64 n]) (by kernel_rfl) (by kernel_rfl) (by kernel_rfl) (by kernel_rfl) (Eq.mp (vc51_eq n w R) h)

/-! ### ligature/ligatureref02.Hex: function 52 -/
def vc52 (s : ByteArray) (w : World) (R : Value → World → Prop) : Prop :=
  ∀ I1 : List Value → World → Prop, (∀ i : Int, ∀ out : ByteArray, ∀ w1 : World, (CondP (decide ((i : Int) < ((s : ByteArray).size : Int)))
      (∀ w2 : World, w2 = w1.drew →
       (0 : Int) ≤ i ∧ i < ((s : ByteArray).size : Int) ∧
       (16 : Int) ≠ 0 ∧
       (0 : Int) ≤ (IntKind.wrap .u8 (Int.tdiv (btAt s i) 16)) ∧ (IntKind.wrap .u8 (Int.tdiv (btAt s i) 16)) < ((⟨#[48, 49, 50, 51, 52, 53, 54, 55, 56, 57, 97, 98, 99, 100, 101, 102]⟩ : ByteArray).size : Int) ∧
       (0 : Int) ≤ i ∧ i < ((s : ByteArray).size : Int) ∧
       (16 : Int) ≠ 0 ∧
       (0 : Int) ≤ (Int.tmod (btAt s i) 16) ∧ (Int.tmod (btAt s i) 16) < ((⟨#[48, 49, 50, 51, 52, 53, 54, 55, 56, 57, 97, 98, 99, 100, 101, 102]⟩ : ByteArray).size : Int) ∧
       ∀ w3 : World, w3 = w2.alloc (.cells #[Value.int .u8 (btAt ⟨#[48, 49, 50, 51, 52, 53, 54, 55, 56, 57, 97, 98, 99, 100, 101, 102]⟩ (IntKind.wrap .u8 (Int.tdiv (btAt s i) 16))), Value.int .u8 (btAt ⟨#[48, 49, 50, 51, 52, 53, 54, 55, 56, 57, 97, 98, 99, 100, 101, 102]⟩ (Int.tmod (btAt s i) 16))] 5) →
       ∃ s_2 : ByteArray, ∃ w4 : World, (convert 65 9 (Value.slice (some (nb w2)) 2 2)).run Tryz.prog w3 = .ok (Value.string s_2) w4 ∧
       (((out : ByteArray).size + (s_2 : ByteArray).size : Nat) : Int) ≤ IntKind.i64.max ∧
       Ar .i64 ((i : Int) + 1) (fun n =>
       I1 [Value.int .i64 n, Value.string ((out : ByteArray) ++ (s_2 : ByteArray))] w4))
      (CondP ((out : ByteArray).toList == (⟨#[]⟩ : ByteArray).toList)
         (R (Value.string ⟨#[45]⟩) w1)
         (R (Value.string out) w1))) → I1 [Value.int .i64 i, Value.string out] w1) →
  I1 [Value.int .i64 0, Value.string ⟨#[]⟩] w
theorem vc52_eq (s : ByteArray) (w : World) (R : Value → World → Prop) : vc52 s w R = denFun ctx (bodyOf Tryz.f52) Tryz.f52.results.toList [Value.string s] w R := by kernel_rfl
theorem vc52_calls (s : ByteArray) (w : World) (R : Value → World → Prop) (h : vc52 s w R) : Calls Tryz.prog 52 #[Value.string s] w fun e w' => ∃ v, e = .returned v ∧ R v w' :=
  calls_of_den ctxOk (f := 52) (fn := Tryz.f52) (body := bodyOf Tryz.f52) (args := [Value.string s]) (by kernel_rfl) (by kernel_rfl) (by kernel_rfl) (by kernel_rfl) (Eq.mp (vc52_eq s w R) h)

/-! ### (*strings.Builder).WriteString: function 53 -/
def vc53 (b : Option Addr) (s : ByteArray) (w : World) (R : Value → World → Prop) : Prop :=
  Calls Tryz.prog 78 #[Value.pointer b] w (fun e1 w1 =>
  e1 = .returned (Value.tuple #[]) ∧
  NilC b (fun pa =>
  ∃ lA : Option Addr, ∃ lN : Nat, ∃ lC : Nat, w1.cell? (pa.add 1) = some (Value.slice lA lN lC) ∧
  ∃ lA_1 : Option Addr, ∃ lN_2 : Nat, ∃ lC_3 : Nat, ∃ w2 : World, (Builtin.append_ #[65, 9] 65 #[Value.slice lA lN lC, Value.string s]).run Tryz.prog w1 = .ok (Value.slice lA_1 lN_2 lC_3) w2 ∧
  NilC b (fun pa_4 =>
  (Value.slice lA_1 lN_2 lC_3).oneCell' = true ∧ (∃ u, w2.cell? (pa_4.add 1) = some u) ∧ w2.frozen? (pa_4.add 1) = false ∧
  ∀ w3 : World, w3 = (w2.setCell (pa_4.add 1) (Value.slice lA_1 lN_2 lC_3)) →
  R (Value.tuple #[Value.int .i64 ((s : ByteArray).size : Int), Value.nilIface]) w3)))
theorem vc53_eq (b : Option Addr) (s : ByteArray) (w : World) (R : Value → World → Prop) : vc53 b s w R = denFun ctx (bodyOf Tryz.f53) Tryz.f53.results.toList [Value.pointer b, Value.string s] w R := by kernel_rfl
theorem vc53_calls (b : Option Addr) (s : ByteArray) (w : World) (R : Value → World → Prop) (h : vc53 b s w R) : Calls Tryz.prog 53 #[Value.pointer b, Value.string s] w fun e w' => ∃ v, e = .returned v ∧ R v w' :=
  calls_of_den ctxOk (f := 53) (fn := Tryz.f53) (body := bodyOf Tryz.f53) (args := [Value.pointer b, Value.string s]) (by kernel_rfl) (by kernel_rfl) (by kernel_rfl) (by kernel_rfl) (Eq.mp (vc53_eq b s w R) h)

/-! ### ligature/word.Line: function 54 -/
def vc54 (first : ByteArray) (moreA : Option Addr) (moreN : Nat) (moreC : Nat) (w : World) (R : Value → World → Prop) : Prop :=
  ∀ w1 : World, w1 = w.alloc (.cells #[Value.string first] 9) →
  ∃ lA : Option Addr, ∃ lN : Nat, ∃ lC : Nat, ∃ w2 : World, (Builtin.append_ #[24, 24] 24 #[Value.slice (some (nb w)) 1 1, Value.slice moreA moreN moreC]).run Tryz.prog w1 = .ok (Value.slice lA lN lC) w2 ∧
  Calls Tryz.prog 55 #[Value.slice lA lN lC, Value.string ⟨#[32]⟩] w2 (fun e3 w3 =>
  ∃ s : ByteArray, e3 = .returned (Value.string s) ∧
  R (Value.string s) w3)
theorem vc54_eq (first : ByteArray) (moreA : Option Addr) (moreN : Nat) (moreC : Nat) (w : World) (R : Value → World → Prop) : vc54 first moreA moreN moreC w R = denFun ctx (bodyOf Tryz.f54) Tryz.f54.results.toList [Value.string first, Value.slice moreA moreN moreC] w R := by kernel_rfl
theorem vc54_calls (first : ByteArray) (moreA : Option Addr) (moreN : Nat) (moreC : Nat) (w : World) (R : Value → World → Prop) (h : vc54 first moreA moreN moreC w R) : Calls Tryz.prog 54 #[Value.string first, Value.slice moreA moreN moreC] w fun e w' => ∃ v, e = .returned v ∧ R v w' :=
  calls_of_den ctxOk (f := 54) (fn := Tryz.f54) (body := bodyOf Tryz.f54) (args := [Value.string first, Value.slice moreA moreN moreC]) (by kernel_rfl) (by kernel_rfl) (by kernel_rfl) (by kernel_rfl) (Eq.mp (vc54_eq first moreA moreN moreC w R) h)

/-! ### (*strings.Builder).WriteByte: function 56 -/
def vc56 (b : Option Addr) (c : Int) (w : World) (R : Value → World → Prop) : Prop :=
  Calls Tryz.prog 78 #[Value.pointer b] w (fun e1 w1 =>
  e1 = .returned (Value.tuple #[]) ∧
  NilC b (fun pa =>
  ∃ lA : Option Addr, ∃ lN : Nat, ∃ lC : Nat, w1.cell? (pa.add 1) = some (Value.slice lA lN lC) ∧
  ∀ w2 : World, w2 = w1.alloc (.cells #[Value.int .u8 c] 5) →
  ∃ lA_1 : Option Addr, ∃ lN_2 : Nat, ∃ lC_3 : Nat, ∃ w3 : World, (Builtin.append_ #[65, 65] 65 #[Value.slice lA lN lC, Value.slice (some (nb w1)) 1 1]).run Tryz.prog w2 = .ok (Value.slice lA_1 lN_2 lC_3) w3 ∧
  NilC b (fun pa_4 =>
  (Value.slice lA_1 lN_2 lC_3).oneCell' = true ∧ (∃ u, w3.cell? (pa_4.add 1) = some u) ∧ w3.frozen? (pa_4.add 1) = false ∧
  ∀ w4 : World, w4 = (w3.setCell (pa_4.add 1) (Value.slice lA_1 lN_2 lC_3)) →
  R (Value.nilIface) w4)))
theorem vc56_eq (b : Option Addr) (c : Int) (w : World) (R : Value → World → Prop) : vc56 b c w R = denFun ctx (bodyOf Tryz.f56) Tryz.f56.results.toList [Value.pointer b, Value.int .u8 c] w R := by kernel_rfl
theorem vc56_calls (b : Option Addr) (c : Int) (w : World) (R : Value → World → Prop) (h : vc56 b c w R) : Calls Tryz.prog 56 #[Value.pointer b, Value.int .u8 c] w fun e w' => ∃ v, e = .returned v ∧ R v w' :=
  calls_of_den ctxOk (f := 56) (fn := Tryz.f56) (body := bodyOf Tryz.f56) (args := [Value.pointer b, Value.int .u8 c]) (by kernel_rfl) (by kernel_rfl) (by kernel_rfl) (by kernel_rfl) (Eq.mp (vc56_eq b c w R) h)

/-! ### slices.ContainsFunc[[]ligature/api.Merge,ligature/api.Merge]: function 58 -/
def vc58 (sA : Option Addr) (sN : Nat) (sC : Nat) (f : Value) (w : World) (R : Value → World → Prop) : Prop :=
  Calls Tryz.prog 81 #[Value.slice sA sN sC, f] w (fun e1 w1 =>
  ∃ n : Int, e1 = .returned (Value.int .i64 n) ∧
  R (Value.bool (decide ((n : Int) ≥ 0))) w1)
theorem vc58_eq (sA : Option Addr) (sN : Nat) (sC : Nat) (f : Value) (w : World) (R : Value → World → Prop) : vc58 sA sN sC f w R = denFun ctx (bodyOf Tryz.f58) Tryz.f58.results.toList [Value.slice sA sN sC, f] w R := by kernel_rfl
theorem vc58_calls (sA : Option Addr) (sN : Nat) (sC : Nat) (f : Value) (w : World) (R : Value → World → Prop) (h : vc58 sA sN sC f w R) : Calls Tryz.prog 58 #[Value.slice sA sN sC, f] w fun e w' => ∃ v, e = .returned v ∧ R v w' :=
  calls_of_den ctxOk (f := 58) (fn := Tryz.f58) (body := bodyOf Tryz.f58) (args := [Value.slice sA sN sC, f]) (by kernel_rfl) (by kernel_rfl) (by kernel_rfl) (by kernel_rfl) (Eq.mp (vc58_eq sA sN sC f w R) h)

/-! ### ligature/spec.all[ligature/api.Merge]$1: function 59 -/
def vc59 (x0_ : Int) (x1_ : Int) (c0 : Option Addr) (w : World) (R : Value → World → Prop) : Prop :=
  ∀ w1 : World, w1 = w.alloc (.cells #[Value.int .i64 x0_, Value.int .i64 x1_] 55) →
  NilC c0 (fun pa =>
  ∃ v_ : Value, w1.cell? pa = some (v_) ∧
  ∃ g0 : Int, ∃ g1 : Int, (w1.cell? (nb w) = some (Value.int .i64 g0) ∧ w1.cell? ((nb w).add 1) = some (Value.int .i64 g1) ∧ True) ∧
  CallG ctx v_ [Value.agg #[Value.int .i64 g0, Value.int .i64 g1]] w1 (fun e2 w2 =>
  ∃ b : Bool, e2 = .returned (Value.bool b) ∧
  R (Value.bool (!b)) w2))
theorem vc59_eq (x0_ : Int) (x1_ : Int) (c0 : Option Addr) (w : World) (R : Value → World → Prop) : vc59 x0_ x1_ c0 w R = denFun ctx (bodyOf Tryz.f59) Tryz.f59.results.toList [Value.agg #[Value.int .i64 x0_, Value.int .i64 x1_], Value.pointer c0] w R := by kernel_rfl
theorem vc59_calls (x0_ : Int) (x1_ : Int) (c0 : Option Addr) (w : World) (R : Value → World → Prop) (h : vc59 x0_ x1_ c0 w R) : Calls Tryz.prog 59 #[Value.agg #[Value.int .i64 x0_, Value.int .i64 x1_], Value.pointer c0] w fun e w' => ∃ v, e = .returned v ∧ R v w' :=
  calls_of_den ctxOk (f := 59) (fn := Tryz.f59) (body := bodyOf Tryz.f59) (args := [Value.agg #[Value.int .i64 x0_, Value.int .i64 x1_], Value.pointer c0]) (by kernel_rfl) (by kernel_rfl) (by kernel_rfl) (by kernel_rfl) (Eq.mp (vc59_eq x0_ x1_ c0 w R) h)

/-! ### ligature/spec.within: function 60 -/
def vc60 (n : Int) (lo : Int) (hi : Int) (w : World) (R : Value → World → Prop) : Prop :=
  CondP (decide ((n : Int) ≥ lo))
    (R (Value.bool (decide ((n : Int) ≤ hi))) w)
    (R (Value.bool false) w)
theorem vc60_eq (n : Int) (lo : Int) (hi : Int) (w : World) (R : Value → World → Prop) : vc60 n lo hi w R = denFun ctx (bodyOf Tryz.f60) Tryz.f60.results.toList [Value.int .i64 n, Value.int .i64 lo, Value.int .i64 hi] w R := by kernel_rfl
theorem vc60_calls (n : Int) (lo : Int) (hi : Int) (w : World) (R : Value → World → Prop) (h : vc60 n lo hi w R) : Calls Tryz.prog 60 #[Value.int .i64 n, Value.int .i64 lo, Value.int .i64 hi] w fun e w' => ∃ v, e = .returned v ∧ R v w' :=
  calls_of_den ctxOk (f := 60) (fn := Tryz.f60) (body := bodyOf Tryz.f60) (args := [Value.int .i64 n, Value.int .i64 lo, Value.int .i64 hi]) (by kernel_rfl) (by kernel_rfl) (by kernel_rfl) (by kernel_rfl) (Eq.mp (vc60_eq n lo hi w R) h)

/-! ### slices.ContainsFunc[[]string,string]: function 61 -/
def vc61 (sA : Option Addr) (sN : Nat) (sC : Nat) (f : Value) (w : World) (R : Value → World → Prop) : Prop :=
  Calls Tryz.prog 82 #[Value.slice sA sN sC, f] w (fun e1 w1 =>
  ∃ n : Int, e1 = .returned (Value.int .i64 n) ∧
  R (Value.bool (decide ((n : Int) ≥ 0))) w1)
theorem vc61_eq (sA : Option Addr) (sN : Nat) (sC : Nat) (f : Value) (w : World) (R : Value → World → Prop) : vc61 sA sN sC f w R = denFun ctx (bodyOf Tryz.f61) Tryz.f61.results.toList [Value.slice sA sN sC, f] w R := by kernel_rfl
theorem vc61_calls (sA : Option Addr) (sN : Nat) (sC : Nat) (f : Value) (w : World) (R : Value → World → Prop) (h : vc61 sA sN sC f w R) : Calls Tryz.prog 61 #[Value.slice sA sN sC, f] w fun e w' => ∃ v, e = .returned v ∧ R v w' :=
  calls_of_den ctxOk (f := 61) (fn := Tryz.f61) (body := bodyOf Tryz.f61) (args := [Value.slice sA sN sC, f]) (by kernel_rfl) (by kernel_rfl) (by kernel_rfl) (by kernel_rfl) (Eq.mp (vc61_eq sA sN sC f w R) h)

/-! ### ligature/spec.all[string]$1: function 62 -/
def vc62 (x_ : ByteArray) (c0 : Option Addr) (w : World) (R : Value → World → Prop) : Prop :=
  NilC c0 (fun pa =>
  ∃ v_ : Value, w.cell? pa = some (v_) ∧
  CallG ctx v_ [Value.string x_] w (fun e1 w1 =>
  ∃ b : Bool, e1 = .returned (Value.bool b) ∧
  R (Value.bool (!b)) w1))
theorem vc62_eq (x_ : ByteArray) (c0 : Option Addr) (w : World) (R : Value → World → Prop) : vc62 x_ c0 w R = denFun ctx (bodyOf Tryz.f62) Tryz.f62.results.toList [Value.string x_, Value.pointer c0] w R := by kernel_rfl
theorem vc62_calls (x_ : ByteArray) (c0 : Option Addr) (w : World) (R : Value → World → Prop) (h : vc62 x_ c0 w R) : Calls Tryz.prog 62 #[Value.string x_, Value.pointer c0] w fun e w' => ∃ v, e = .returned v ∧ R v w' :=
  calls_of_den ctxOk (f := 62) (fn := Tryz.f62) (body := bodyOf Tryz.f62) (args := [Value.string x_, Value.pointer c0]) (by kernel_rfl) (by kernel_rfl) (by kernel_rfl) (by kernel_rfl) (Eq.mp (vc62_eq x_ c0 w R) h)

/-! ### slices.ContainsFunc[[]ligature/api.Special,ligature/api.Special]: function 63 -/
def vc63 (sA : Option Addr) (sN : Nat) (sC : Nat) (f : Value) (w : World) (R : Value → World → Prop) : Prop :=
  Calls Tryz.prog 83 #[Value.slice sA sN sC, f] w (fun e1 w1 =>
  ∃ n : Int, e1 = .returned (Value.int .i64 n) ∧
  R (Value.bool (decide ((n : Int) ≥ 0))) w1)
theorem vc63_eq (sA : Option Addr) (sN : Nat) (sC : Nat) (f : Value) (w : World) (R : Value → World → Prop) : vc63 sA sN sC f w R = denFun ctx (bodyOf Tryz.f63) Tryz.f63.results.toList [Value.slice sA sN sC, f] w R := by kernel_rfl
theorem vc63_calls (sA : Option Addr) (sN : Nat) (sC : Nat) (f : Value) (w : World) (R : Value → World → Prop) (h : vc63 sA sN sC f w R) : Calls Tryz.prog 63 #[Value.slice sA sN sC, f] w fun e w' => ∃ v, e = .returned v ∧ R v w' :=
  calls_of_den ctxOk (f := 63) (fn := Tryz.f63) (body := bodyOf Tryz.f63) (args := [Value.slice sA sN sC, f]) (by kernel_rfl) (by kernel_rfl) (by kernel_rfl) (by kernel_rfl) (Eq.mp (vc63_eq sA sN sC f w R) h)

/-! ### ligature/spec.all[ligature/api.Special]$1: function 64 -/
def vc64 (x0_ : Int) (x1_ : ByteArray) (c0 : Option Addr) (w : World) (R : Value → World → Prop) : Prop :=
  ∀ w1 : World, w1 = w.alloc (.cells #[Value.int .i64 x0_, Value.string x1_] 46) →
  NilC c0 (fun pa =>
  ∃ v_ : Value, w1.cell? pa = some (v_) ∧
  ∃ g0 : Int, ∃ g1 : ByteArray, (w1.cell? (nb w) = some (Value.int .i64 g0) ∧ w1.cell? ((nb w).add 1) = some (Value.string g1) ∧ True) ∧
  CallG ctx v_ [Value.agg #[Value.int .i64 g0, Value.string g1]] w1 (fun e2 w2 =>
  ∃ b : Bool, e2 = .returned (Value.bool b) ∧
  R (Value.bool (!b)) w2))
theorem vc64_eq (x0_ : Int) (x1_ : ByteArray) (c0 : Option Addr) (w : World) (R : Value → World → Prop) : vc64 x0_ x1_ c0 w R = denFun ctx (bodyOf Tryz.f64) Tryz.f64.results.toList [Value.agg #[Value.int .i64 x0_, Value.string x1_], Value.pointer c0] w R := by kernel_rfl
theorem vc64_calls (x0_ : Int) (x1_ : ByteArray) (c0 : Option Addr) (w : World) (R : Value → World → Prop) (h : vc64 x0_ x1_ c0 w R) : Calls Tryz.prog 64 #[Value.agg #[Value.int .i64 x0_, Value.string x1_], Value.pointer c0] w fun e w' => ∃ v, e = .returned v ∧ R v w' :=
  calls_of_den ctxOk (f := 64) (fn := Tryz.f64) (body := bodyOf Tryz.f64) (args := [Value.agg #[Value.int .i64 x0_, Value.string x1_], Value.pointer c0]) (by kernel_rfl) (by kernel_rfl) (by kernel_rfl) (by kernel_rfl) (Eq.mp (vc64_eq x0_ x1_ c0 w R) h)

/-! ### slices.ContainsFunc[[]ligature/api.Class,ligature/api.Class]: function 65 -/
def vc65 (sA : Option Addr) (sN : Nat) (sC : Nat) (f : Value) (w : World) (R : Value → World → Prop) : Prop :=
  Calls Tryz.prog 84 #[Value.slice sA sN sC, f] w (fun e1 w1 =>
  ∃ n : Int, e1 = .returned (Value.int .i64 n) ∧
  R (Value.bool (decide ((n : Int) ≥ 0))) w1)
theorem vc65_eq (sA : Option Addr) (sN : Nat) (sC : Nat) (f : Value) (w : World) (R : Value → World → Prop) : vc65 sA sN sC f w R = denFun ctx (bodyOf Tryz.f65) Tryz.f65.results.toList [Value.slice sA sN sC, f] w R := by kernel_rfl
theorem vc65_calls (sA : Option Addr) (sN : Nat) (sC : Nat) (f : Value) (w : World) (R : Value → World → Prop) (h : vc65 sA sN sC f w R) : Calls Tryz.prog 65 #[Value.slice sA sN sC, f] w fun e w' => ∃ v, e = .returned v ∧ R v w' :=
  calls_of_den ctxOk (f := 65) (fn := Tryz.f65) (body := bodyOf Tryz.f65) (args := [Value.slice sA sN sC, f]) (by kernel_rfl) (by kernel_rfl) (by kernel_rfl) (by kernel_rfl) (Eq.mp (vc65_eq sA sN sC f w R) h)

/-! ### ligature/spec.all[ligature/api.Class]$1: function 66 -/
def vc66 (x0_ : Int) (x1_ : Int) (x2_ : Int) (c0 : Option Addr) (w : World) (R : Value → World → Prop) : Prop :=
  ∀ w1 : World, w1 = w.alloc (.cells #[Value.int .i64 x0_, Value.int .i64 x1_, Value.int .i64 x2_] 57) →
  NilC c0 (fun pa =>
  ∃ v_ : Value, w1.cell? pa = some (v_) ∧
  ∃ g0 : Int, ∃ g1 : Int, ∃ g2 : Int, (w1.cell? (nb w) = some (Value.int .i64 g0) ∧ w1.cell? ((nb w).add 1) = some (Value.int .i64 g1) ∧ w1.cell? ((nb w).add 2) = some (Value.int .i64 g2) ∧ True) ∧
  CallG ctx v_ [Value.agg #[Value.int .i64 g0, Value.int .i64 g1, Value.int .i64 g2]] w1 (fun e2 w2 =>
  ∃ b : Bool, e2 = .returned (Value.bool b) ∧
  R (Value.bool (!b)) w2))
theorem vc66_eq (x0_ : Int) (x1_ : Int) (x2_ : Int) (c0 : Option Addr) (w : World) (R : Value → World → Prop) : vc66 x0_ x1_ x2_ c0 w R = denFun ctx (bodyOf Tryz.f66) Tryz.f66.results.toList [Value.agg #[Value.int .i64 x0_, Value.int .i64 x1_, Value.int .i64 x2_], Value.pointer c0] w R := by kernel_rfl
theorem vc66_calls (x0_ : Int) (x1_ : Int) (x2_ : Int) (c0 : Option Addr) (w : World) (R : Value → World → Prop) (h : vc66 x0_ x1_ x2_ c0 w R) : Calls Tryz.prog 66 #[Value.agg #[Value.int .i64 x0_, Value.int .i64 x1_, Value.int .i64 x2_], Value.pointer c0] w fun e w' => ∃ v, e = .returned v ∧ R v w' :=
  calls_of_den ctxOk (f := 66) (fn := Tryz.f66) (body := bodyOf Tryz.f66) (args := [Value.agg #[Value.int .i64 x0_, Value.int .i64 x1_, Value.int .i64 x2_], Value.pointer c0]) (by kernel_rfl) (by kernel_rfl) (by kernel_rfl) (by kernel_rfl) (Eq.mp (vc66_eq x0_ x1_ x2_ c0 w R) h)

/-! ### slices.ContainsFunc[[]ligature/api.Join,ligature/api.Join]: function 67 -/
def vc67 (sA : Option Addr) (sN : Nat) (sC : Nat) (f : Value) (w : World) (R : Value → World → Prop) : Prop :=
  Calls Tryz.prog 85 #[Value.slice sA sN sC, f] w (fun e1 w1 =>
  ∃ n : Int, e1 = .returned (Value.int .i64 n) ∧
  R (Value.bool (decide ((n : Int) ≥ 0))) w1)
theorem vc67_eq (sA : Option Addr) (sN : Nat) (sC : Nat) (f : Value) (w : World) (R : Value → World → Prop) : vc67 sA sN sC f w R = denFun ctx (bodyOf Tryz.f67) Tryz.f67.results.toList [Value.slice sA sN sC, f] w R := by kernel_rfl
theorem vc67_calls (sA : Option Addr) (sN : Nat) (sC : Nat) (f : Value) (w : World) (R : Value → World → Prop) (h : vc67 sA sN sC f w R) : Calls Tryz.prog 67 #[Value.slice sA sN sC, f] w fun e w' => ∃ v, e = .returned v ∧ R v w' :=
  calls_of_den ctxOk (f := 67) (fn := Tryz.f67) (body := bodyOf Tryz.f67) (args := [Value.slice sA sN sC, f]) (by kernel_rfl) (by kernel_rfl) (by kernel_rfl) (by kernel_rfl) (Eq.mp (vc67_eq sA sN sC f w R) h)

/-! ### ligature/spec.all[ligature/api.Join]$1: function 68 -/
def vc68 (x0_ : Int) (x1_ : Int) (c0 : Option Addr) (w : World) (R : Value → World → Prop) : Prop :=
  ∀ w1 : World, w1 = w.alloc (.cells #[Value.int .i64 x0_, Value.int .i64 x1_] 58) →
  NilC c0 (fun pa =>
  ∃ v_ : Value, w1.cell? pa = some (v_) ∧
  ∃ g0 : Int, ∃ g1 : Int, (w1.cell? (nb w) = some (Value.int .i64 g0) ∧ w1.cell? ((nb w).add 1) = some (Value.int .i64 g1) ∧ True) ∧
  CallG ctx v_ [Value.agg #[Value.int .i64 g0, Value.int .i64 g1]] w1 (fun e2 w2 =>
  ∃ b : Bool, e2 = .returned (Value.bool b) ∧
  R (Value.bool (!b)) w2))
theorem vc68_eq (x0_ : Int) (x1_ : Int) (c0 : Option Addr) (w : World) (R : Value → World → Prop) : vc68 x0_ x1_ c0 w R = denFun ctx (bodyOf Tryz.f68) Tryz.f68.results.toList [Value.agg #[Value.int .i64 x0_, Value.int .i64 x1_], Value.pointer c0] w R := by kernel_rfl
theorem vc68_calls (x0_ : Int) (x1_ : Int) (c0 : Option Addr) (w : World) (R : Value → World → Prop) (h : vc68 x0_ x1_ c0 w R) : Calls Tryz.prog 68 #[Value.agg #[Value.int .i64 x0_, Value.int .i64 x1_], Value.pointer c0] w fun e w' => ∃ v, e = .returned v ∧ R v w' :=
  calls_of_den ctxOk (f := 68) (fn := Tryz.f68) (body := bodyOf Tryz.f68) (args := [Value.agg #[Value.int .i64 x0_, Value.int .i64 x1_], Value.pointer c0]) (by kernel_rfl) (by kernel_rfl) (by kernel_rfl) (by kernel_rfl) (Eq.mp (vc68_eq x0_ x1_ c0 w R) h)

/-! ### (*ligature/spec.reader).head: function 71 -/
def vc71 (r : Option Addr) (lA : Option Addr) (lN : Nat) (lC : Nat) (w : World) (R : Value → World → Prop) : Prop :=
  CondP ((((lN : Nat) : Int) : Int) == 1)
    (NilC lA (fun pa =>
     (0 : Int) ≤ 0 ∧ 0 < ((lN : Nat) : Int) ∧
     ∃ s : ByteArray, w.cell? (pa.add ((0 : Int).toNat * 1)) = some (Value.string s) ∧
     NilC r (fun pa_1 =>
     (Value.bool ((s : ByteArray).toList == (⟨#[114, 97, 110, 107, 115]⟩ : ByteArray).toList)).oneCell' = true ∧ (∃ u, w.cell? ((pa_1.add 0).add 0) = some u) ∧ w.frozen? ((pa_1.add 0).add 0) = false ∧
     ∀ w1 : World, w1 = (w.setCell ((pa_1.add 0).add 0) (Value.bool ((s : ByteArray).toList == (⟨#[114, 97, 110, 107, 115]⟩ : ByteArray).toList))) →
     CondP ((((lN : Nat) : Int) : Int) == 1)
       (NilC lA (fun pa_2 =>
        (0 : Int) ≤ 0 ∧ 0 < ((lN : Nat) : Int) ∧
        ∃ s_3 : ByteArray, w1.cell? (pa_2.add ((0 : Int).toNat * 1)) = some (Value.string s_3) ∧
        CondP ((s_3 : ByteArray).toList == (⟨#[114, 97, 110, 107, 115]⟩ : ByteArray).toList)
          (R (Value.bool true) w1)
          (NilC lA (fun pa_4 =>
           (0 : Int) ≤ 0 ∧ 0 < ((lN : Nat) : Int) ∧
           ∃ s_5 : ByteArray, w1.cell? (pa_4.add ((0 : Int).toNat * 1)) = some (Value.string s_5) ∧
           R (Value.bool ((s_5 : ByteArray).toList == (⟨#[109, 101, 114, 103, 101, 115]⟩ : ByteArray).toList)) w1))))
       (R (Value.bool false) w1))))
    (NilC r (fun pa_6 =>
     (Value.bool false).oneCell' = true ∧ (∃ u, w.cell? ((pa_6.add 0).add 0) = some u) ∧ w.frozen? ((pa_6.add 0).add 0) = false ∧
     ∀ w2 : World, w2 = (w.setCell ((pa_6.add 0).add 0) (Value.bool false)) →
     CondP ((((lN : Nat) : Int) : Int) == 1)
       (NilC lA (fun pa_7 =>
        (0 : Int) ≤ 0 ∧ 0 < ((lN : Nat) : Int) ∧
        ∃ s_8 : ByteArray, w2.cell? (pa_7.add ((0 : Int).toNat * 1)) = some (Value.string s_8) ∧
        CondP ((s_8 : ByteArray).toList == (⟨#[114, 97, 110, 107, 115]⟩ : ByteArray).toList)
          (R (Value.bool true) w2)
          (NilC lA (fun pa_9 =>
           (0 : Int) ≤ 0 ∧ 0 < ((lN : Nat) : Int) ∧
           ∃ s_10 : ByteArray, w2.cell? (pa_9.add ((0 : Int).toNat * 1)) = some (Value.string s_10) ∧
           R (Value.bool ((s_10 : ByteArray).toList == (⟨#[109, 101, 114, 103, 101, 115]⟩ : ByteArray).toList)) w2))))
       (R (Value.bool false) w2)))
theorem vc71_eq (r : Option Addr) (lA : Option Addr) (lN : Nat) (lC : Nat) (w : World) (R : Value → World → Prop) : vc71 r lA lN lC w R = denFun ctx (bodyOf Tryz.f71) Tryz.f71.results.toList [Value.pointer r, Value.slice lA lN lC] w R := by kernel_rfl
theorem vc71_calls (r : Option Addr) (lA : Option Addr) (lN : Nat) (lC : Nat) (w : World) (R : Value → World → Prop) (h : vc71 r lA lN lC w R) : Calls Tryz.prog 71 #[Value.pointer r, Value.slice lA lN lC] w fun e w' => ∃ v, e = .returned v ∧ R v w' :=
  calls_of_den ctxOk (f := 71) (fn := Tryz.f71) (body := bodyOf Tryz.f71) (args := [Value.pointer r, Value.slice lA lN lC]) (by kernel_rfl) (by kernel_rfl) (by kernel_rfl) (by kernel_rfl) (Eq.mp (vc71_eq r lA lN lC w R) h)

/-! ### (*ligature/spec.reader).merge: function 72 -/
def vc72 (r : Option Addr) (lA : Option Addr) (lN : Nat) (lC : Nat) (w : World) (R : Value → World → Prop) : Prop :=
  Calls Tryz.prog 88 #[Value.slice lA lN lC, Value.int .i64 2] w (fun e1 w1 =>
  ∃ r0A : Option Addr, ∃ r0N : Nat, ∃ r0C : Nat, ∃ r1 : Bool, e1 = .returned (Value.tuple #[Value.slice r0A r0N r0C, Value.bool r1]) ∧
  ∀ J1 : List Value → World → Prop, (∀ w2 : World, (R (Value.bool r1) w2) → J1 [] w2) →
  CondP r1
    (∀ w3 : World, w3 = w1.drew →
     NilC r (fun pa =>
     ∃ lA_2 : Option Addr, ∃ lN_3 : Nat, ∃ lC_4 : Nat, w3.cell? ((pa.add 0).add 1) = some (Value.slice lA_2 lN_3 lC_4) ∧
     NilC r0A (fun pa_5 =>
     (0 : Int) ≤ 0 ∧ 0 < ((r0N : Nat) : Int) ∧
     ∃ n : Int, w3.cell? (pa_5.add ((0 : Int).toNat * 1)) = some (Value.int .i64 n) ∧
     NilC r0A (fun pa_6 =>
     (0 : Int) ≤ 1 ∧ 1 < ((r0N : Nat) : Int) ∧
     ∃ n_7 : Int, w3.cell? (pa_6.add ((1 : Int).toNat * 1)) = some (Value.int .i64 n_7) ∧
     ∀ w4 : World, w4 = w3.alloc (.cells #[Value.int .i64 n, Value.int .i64 n_7] 55) →
     (w4.cell? ((pa.add 0).add 1) = some (Value.slice lA_2 lN_3 lC_4) ∧ True) ∧
     ∃ lA_8 : Option Addr, ∃ lN_9 : Nat, ∃ lC_10 : Nat, ∃ w5 : World, (Builtin.append_ #[23, 23] 23 #[Value.slice lA_2 lN_3 lC_4, Value.slice (some (nb w3)) 1 1]).run Tryz.prog w4 = .ok (Value.slice lA_8 lN_9 lC_10) w5 ∧
     NilC r (fun pa_11 =>
     (Value.slice lA_8 lN_9 lC_10).oneCell' = true ∧ (∃ u, w5.cell? ((pa_11.add 0).add 1) = some u) ∧ w5.frozen? ((pa_11.add 0).add 1) = false ∧
     ∀ w6 : World, w6 = (w5.setCell ((pa_11.add 0).add 1) (Value.slice lA_8 lN_9 lC_10)) →
     J1 [] w6)))))
    (J1 [] w1))
theorem vc72_eq (r : Option Addr) (lA : Option Addr) (lN : Nat) (lC : Nat) (w : World) (R : Value → World → Prop) : vc72 r lA lN lC w R = denFun ctx (bodyOf Tryz.f72) Tryz.f72.results.toList [Value.pointer r, Value.slice lA lN lC] w R := by kernel_rfl
theorem vc72_calls (r : Option Addr) (lA : Option Addr) (lN : Nat) (lC : Nat) (w : World) (R : Value → World → Prop) (h : vc72 r lA lN lC w R) : Calls Tryz.prog 72 #[Value.pointer r, Value.slice lA lN lC] w fun e w' => ∃ v, e = .returned v ∧ R v w' :=
  calls_of_den ctxOk (f := 72) (fn := Tryz.f72) (body := bodyOf Tryz.f72) (args := [Value.pointer r, Value.slice lA lN lC]) (by kernel_rfl) (by kernel_rfl) (by kernel_rfl) (by kernel_rfl) (Eq.mp (vc72_eq r lA lN lC w R) h)

/-! ### (*ligature/spec.reader).token: function 73 -/
def vc73 (r : Option Addr) (lA : Option Addr) (lN : Nat) (lC : Nat) (w : World) (R : Value → World → Prop) : Prop :=
  CondP ((((lN : Nat) : Int) : Int) != 1)
    (R (Value.bool false) w)
    (NilC lA (fun pa =>
     (0 : Int) ≤ 0 ∧ 0 < ((lN : Nat) : Int) ∧
     ∃ s : ByteArray, w.cell? (pa.add ((0 : Int).toNat * 1)) = some (Value.string s) ∧
     Calls Tryz.prog 89 #[Value.string s] w (fun e1 w1 =>
     ∃ r0 : ByteArray, ∃ r1 : Bool, e1 = .returned (Value.tuple #[Value.string r0, Value.bool r1]) ∧
     NilC r (fun pa_1 =>
     ∃ lA_2 : Option Addr, ∃ lN_3 : Nat, ∃ lC_4 : Nat, w1.cell? ((pa_1.add 0).add 2) = some (Value.slice lA_2 lN_3 lC_4) ∧
     ∀ w2 : World, w2 = w1.alloc (.cells #[Value.string r0] 9) →
     ∃ lA_5 : Option Addr, ∃ lN_6 : Nat, ∃ lC_7 : Nat, ∃ w3 : World, (Builtin.append_ #[24, 24] 24 #[Value.slice lA_2 lN_3 lC_4, Value.slice (some (nb w1)) 1 1]).run Tryz.prog w2 = .ok (Value.slice lA_5 lN_6 lC_7) w3 ∧
     NilC r (fun pa_8 =>
     (Value.slice lA_5 lN_6 lC_7).oneCell' = true ∧ (∃ u, w3.cell? ((pa_8.add 0).add 2) = some u) ∧ w3.frozen? ((pa_8.add 0).add 2) = false ∧
     ∀ w4 : World, w4 = (w3.setCell ((pa_8.add 0).add 2) (Value.slice lA_5 lN_6 lC_7)) →
     R (Value.bool r1) w4)))))
theorem vc73_eq (r : Option Addr) (lA : Option Addr) (lN : Nat) (lC : Nat) (w : World) (R : Value → World → Prop) : vc73 r lA lN lC w R = denFun ctx (bodyOf Tryz.f73) Tryz.f73.results.toList [Value.pointer r, Value.slice lA lN lC] w R := by kernel_rfl
theorem vc73_calls (r : Option Addr) (lA : Option Addr) (lN : Nat) (lC : Nat) (w : World) (R : Value → World → Prop) (h : vc73 r lA lN lC w R) : Calls Tryz.prog 73 #[Value.pointer r, Value.slice lA lN lC] w fun e w' => ∃ v, e = .returned v ∧ R v w' :=
  calls_of_den ctxOk (f := 73) (fn := Tryz.f73) (body := bodyOf Tryz.f73) (args := [Value.pointer r, Value.slice lA lN lC]) (by kernel_rfl) (by kernel_rfl) (by kernel_rfl) (by kernel_rfl) (Eq.mp (vc73_eq r lA lN lC w R) h)

/-! ### (*ligature/spec.reader).special: function 74 -/
def vc74 (r : Option Addr) (lA : Option Addr) (lN : Nat) (lC : Nat) (w : World) (R : Value → World → Prop) : Prop :=
  CondP ((((lN : Nat) : Int) : Int) != 2)
    (R (Value.bool false) w)
    (NilC lA (fun pa =>
     (0 : Int) ≤ 0 ∧ 0 < ((lN : Nat) : Int) ∧
     ∃ s : ByteArray, w.cell? (pa.add ((0 : Int).toNat * 1)) = some (Value.string s) ∧
     Calls Tryz.prog 90 #[Value.string s, Value.int .i64 1073741824] w (fun e1 w1 =>
     ∃ r0 : Int, ∃ r1 : Bool, e1 = .returned (Value.tuple #[Value.int .i64 r0, Value.bool r1]) ∧
     NilC lA (fun pa_1 =>
     (0 : Int) ≤ 1 ∧ 1 < ((lN : Nat) : Int) ∧
     ∃ s_2 : ByteArray, w1.cell? (pa_1.add ((1 : Int).toNat * 1)) = some (Value.string s_2) ∧
     Calls Tryz.prog 89 #[Value.string s_2] w1 (fun e2 w2 =>
     ∃ r0_3 : ByteArray, ∃ r1_4 : Bool, e2 = .returned (Value.tuple #[Value.string r0_3, Value.bool r1_4]) ∧
     NilC r (fun pa_5 =>
     ∃ lA_6 : Option Addr, ∃ lN_7 : Nat, ∃ lC_8 : Nat, w2.cell? ((pa_5.add 0).add 3) = some (Value.slice lA_6 lN_7 lC_8) ∧
     ∀ w3 : World, w3 = w2.alloc (.cells #[Value.int .i64 r0, Value.string r0_3] 46) →
     ∃ lA_9 : Option Addr, ∃ lN_10 : Nat, ∃ lC_11 : Nat, ∃ w4 : World, (Builtin.append_ #[25, 25] 25 #[Value.slice lA_6 lN_7 lC_8, Value.slice (some (nb w2)) 1 1]).run Tryz.prog w3 = .ok (Value.slice lA_9 lN_10 lC_11) w4 ∧
     NilC r (fun pa_12 =>
     (Value.slice lA_9 lN_10 lC_11).oneCell' = true ∧ (∃ u, w4.cell? ((pa_12.add 0).add 3) = some u) ∧ w4.frozen? ((pa_12.add 0).add 3) = false ∧
     ∀ w5 : World, w5 = (w4.setCell ((pa_12.add 0).add 3) (Value.slice lA_9 lN_10 lC_11)) →
     CondP r1
       (R (Value.bool r1_4) w5)
       (R (Value.bool false) w5))))))))
theorem vc74_eq (r : Option Addr) (lA : Option Addr) (lN : Nat) (lC : Nat) (w : World) (R : Value → World → Prop) : vc74 r lA lN lC w R = denFun ctx (bodyOf Tryz.f74) Tryz.f74.results.toList [Value.pointer r, Value.slice lA lN lC] w R := by kernel_rfl
theorem vc74_calls (r : Option Addr) (lA : Option Addr) (lN : Nat) (lC : Nat) (w : World) (R : Value → World → Prop) (h : vc74 r lA lN lC w R) : Calls Tryz.prog 74 #[Value.pointer r, Value.slice lA lN lC] w fun e w' => ∃ v, e = .returned v ∧ R v w' :=
  calls_of_den ctxOk (f := 74) (fn := Tryz.f74) (body := bodyOf Tryz.f74) (args := [Value.pointer r, Value.slice lA lN lC]) (by kernel_rfl) (by kernel_rfl) (by kernel_rfl) (by kernel_rfl) (Eq.mp (vc74_eq r lA lN lC w R) h)

/-! ### (*ligature/spec.reader).class: function 75 -/
def vc75 (r : Option Addr) (lA : Option Addr) (lN : Nat) (lC : Nat) (w : World) (R : Value → World → Prop) : Prop :=
  Calls Tryz.prog 88 #[Value.slice lA lN lC, Value.int .i64 3] w (fun e1 w1 =>
  ∃ r0A : Option Addr, ∃ r0N : Nat, ∃ r0C : Nat, ∃ r1 : Bool, e1 = .returned (Value.tuple #[Value.slice r0A r0N r0C, Value.bool r1]) ∧
  ∀ J1 : List Value → World → Prop, (∀ w2 : World, (R (Value.bool r1) w2) → J1 [] w2) →
  CondP r1
    (∀ w3 : World, w3 = w1.drew →
     NilC r (fun pa =>
     ∃ lA_2 : Option Addr, ∃ lN_3 : Nat, ∃ lC_4 : Nat, w3.cell? ((pa.add 0).add 4) = some (Value.slice lA_2 lN_3 lC_4) ∧
     NilC r0A (fun pa_5 =>
     (0 : Int) ≤ 0 ∧ 0 < ((r0N : Nat) : Int) ∧
     ∃ n : Int, w3.cell? (pa_5.add ((0 : Int).toNat * 1)) = some (Value.int .i64 n) ∧
     NilC r0A (fun pa_6 =>
     (0 : Int) ≤ 1 ∧ 1 < ((r0N : Nat) : Int) ∧
     ∃ n_7 : Int, w3.cell? (pa_6.add ((1 : Int).toNat * 1)) = some (Value.int .i64 n_7) ∧
     NilC r0A (fun pa_8 =>
     (0 : Int) ≤ 2 ∧ 2 < ((r0N : Nat) : Int) ∧
     ∃ n_9 : Int, w3.cell? (pa_8.add ((2 : Int).toNat * 1)) = some (Value.int .i64 n_9) ∧
     ∀ w4 : World, w4 = w3.alloc (.cells #[Value.int .i64 n, Value.int .i64 n_7, Value.int .i64 n_9] 57) →
     (w4.cell? ((pa.add 0).add 4) = some (Value.slice lA_2 lN_3 lC_4) ∧ True) ∧
     ∃ lA_10 : Option Addr, ∃ lN_11 : Nat, ∃ lC_12 : Nat, ∃ w5 : World, (Builtin.append_ #[26, 26] 26 #[Value.slice lA_2 lN_3 lC_4, Value.slice (some (nb w3)) 1 1]).run Tryz.prog w4 = .ok (Value.slice lA_10 lN_11 lC_12) w5 ∧
     NilC r (fun pa_13 =>
     (Value.slice lA_10 lN_11 lC_12).oneCell' = true ∧ (∃ u, w5.cell? ((pa_13.add 0).add 4) = some u) ∧ w5.frozen? ((pa_13.add 0).add 4) = false ∧
     ∀ w6 : World, w6 = (w5.setCell ((pa_13.add 0).add 4) (Value.slice lA_10 lN_11 lC_12)) →
     J1 [] w6))))))
    (J1 [] w1))
theorem vc75_eq (r : Option Addr) (lA : Option Addr) (lN : Nat) (lC : Nat) (w : World) (R : Value → World → Prop) : vc75 r lA lN lC w R = denFun ctx (bodyOf Tryz.f75) Tryz.f75.results.toList [Value.pointer r, Value.slice lA lN lC] w R := by kernel_rfl
theorem vc75_calls (r : Option Addr) (lA : Option Addr) (lN : Nat) (lC : Nat) (w : World) (R : Value → World → Prop) (h : vc75 r lA lN lC w R) : Calls Tryz.prog 75 #[Value.pointer r, Value.slice lA lN lC] w fun e w' => ∃ v, e = .returned v ∧ R v w' :=
  calls_of_den ctxOk (f := 75) (fn := Tryz.f75) (body := bodyOf Tryz.f75) (args := [Value.pointer r, Value.slice lA lN lC]) (by kernel_rfl) (by kernel_rfl) (by kernel_rfl) (by kernel_rfl) (Eq.mp (vc75_eq r lA lN lC w R) h)

/-! ### (*ligature/spec.reader).join: function 76 -/
def vc76 (r : Option Addr) (lA : Option Addr) (lN : Nat) (lC : Nat) (w : World) (R : Value → World → Prop) : Prop :=
  Calls Tryz.prog 88 #[Value.slice lA lN lC, Value.int .i64 2] w (fun e1 w1 =>
  ∃ r0A : Option Addr, ∃ r0N : Nat, ∃ r0C : Nat, ∃ r1 : Bool, e1 = .returned (Value.tuple #[Value.slice r0A r0N r0C, Value.bool r1]) ∧
  ∀ J1 : List Value → World → Prop, (∀ w2 : World, (R (Value.bool r1) w2) → J1 [] w2) →
  CondP r1
    (∀ w3 : World, w3 = w1.drew →
     NilC r (fun pa =>
     ∃ lA_2 : Option Addr, ∃ lN_3 : Nat, ∃ lC_4 : Nat, w3.cell? ((pa.add 0).add 5) = some (Value.slice lA_2 lN_3 lC_4) ∧
     NilC r0A (fun pa_5 =>
     (0 : Int) ≤ 0 ∧ 0 < ((r0N : Nat) : Int) ∧
     ∃ n : Int, w3.cell? (pa_5.add ((0 : Int).toNat * 1)) = some (Value.int .i64 n) ∧
     NilC r0A (fun pa_6 =>
     (0 : Int) ≤ 1 ∧ 1 < ((r0N : Nat) : Int) ∧
     ∃ n_7 : Int, w3.cell? (pa_6.add ((1 : Int).toNat * 1)) = some (Value.int .i64 n_7) ∧
     ∀ w4 : World, w4 = w3.alloc (.cells #[Value.int .i64 n, Value.int .i64 n_7] 58) →
     (w4.cell? ((pa.add 0).add 5) = some (Value.slice lA_2 lN_3 lC_4) ∧ True) ∧
     ∃ lA_8 : Option Addr, ∃ lN_9 : Nat, ∃ lC_10 : Nat, ∃ w5 : World, (Builtin.append_ #[27, 27] 27 #[Value.slice lA_2 lN_3 lC_4, Value.slice (some (nb w3)) 1 1]).run Tryz.prog w4 = .ok (Value.slice lA_8 lN_9 lC_10) w5 ∧
     NilC r (fun pa_11 =>
     (Value.slice lA_8 lN_9 lC_10).oneCell' = true ∧ (∃ u, w5.cell? ((pa_11.add 0).add 5) = some u) ∧ w5.frozen? ((pa_11.add 0).add 5) = false ∧
     ∀ w6 : World, w6 = (w5.setCell ((pa_11.add 0).add 5) (Value.slice lA_8 lN_9 lC_10)) →
     J1 [] w6)))))
    (J1 [] w1))
theorem vc76_eq (r : Option Addr) (lA : Option Addr) (lN : Nat) (lC : Nat) (w : World) (R : Value → World → Prop) : vc76 r lA lN lC w R = denFun ctx (bodyOf Tryz.f76) Tryz.f76.results.toList [Value.pointer r, Value.slice lA lN lC] w R := by kernel_rfl
theorem vc76_calls (r : Option Addr) (lA : Option Addr) (lN : Nat) (lC : Nat) (w : World) (R : Value → World → Prop) (h : vc76 r lA lN lC w R) : Calls Tryz.prog 76 #[Value.pointer r, Value.slice lA lN lC] w fun e w' => ∃ v, e = .returned v ∧ R v w' :=
  calls_of_den ctxOk (f := 76) (fn := Tryz.f76) (body := bodyOf Tryz.f76) (args := [Value.pointer r, Value.slice lA lN lC]) (by kernel_rfl) (by kernel_rfl) (by kernel_rfl) (by kernel_rfl) (Eq.mp (vc76_eq r lA lN lC w R) h)

/-! ### ligature/ligatureref02.digit: function 77 -/
def vc77 (c : Int) (w : World) (R : Value → World → Prop) : Prop :=
  CondP (decide ((c : Int) ≥ 48))
    (CondP (decide ((c : Int) ≤ 57))
       (Ar .u8 ((c : Int) - 48) (fun n =>
        R (Value.int .i64 (IntKind.wrap .i64 n)) w))
       (CondP (decide ((c : Int) ≥ 97))
          (CondP (decide ((c : Int) ≤ 102))
             (Ar .u8 ((c : Int) - 97) (fun n_1 =>
              Ar .i64 ((IntKind.wrap .i64 n_1 : Int) + 10) (fun n_2 =>
              R (Value.int .i64 n_2) w)))
             (R (Value.int .i64 16) w))
          (R (Value.int .i64 16) w)))
    (CondP (decide ((c : Int) ≥ 97))
       (CondP (decide ((c : Int) ≤ 102))
          (Ar .u8 ((c : Int) - 97) (fun n_3 =>
           Ar .i64 ((IntKind.wrap .i64 n_3 : Int) + 10) (fun n_4 =>
           R (Value.int .i64 n_4) w)))
          (R (Value.int .i64 16) w))
       (R (Value.int .i64 16) w))
theorem vc77_eq (c : Int) (w : World) (R : Value → World → Prop) : vc77 c w R = denFun ctx (bodyOf Tryz.f77) Tryz.f77.results.toList [Value.int .u8 c] w R := by kernel_rfl
theorem vc77_calls (c : Int) (w : World) (R : Value → World → Prop) (h : vc77 c w R) : Calls Tryz.prog 77 #[Value.int .u8 c] w fun e w' => ∃ v, e = .returned v ∧ R v w' :=
  calls_of_den ctxOk (f := 77) (fn := Tryz.f77) (body := bodyOf Tryz.f77) (args := [Value.int .u8 c]) (by kernel_rfl) (by kernel_rfl) (by kernel_rfl) (by kernel_rfl) (Eq.mp (vc77_eq c w R) h)

/-! ### (*strings.Builder).copyCheck: function 78 -/
def vc78 (b : Option Addr) (w : World) (R : Value → World → Prop) : Prop :=
  NilC b (fun pa =>
  ∃ p : Option Addr, w.cell? (pa.add 0) = some (Value.pointer p) ∧
  CondP (Option.isNone p)
    (∃ p_1 : Option Addr, ∃ w1 : World, (convert 64 124 (Value.pointer b)).run Tryz.prog w = .ok (Value.pointer p_1) w1 ∧
     ∃ v0_ : Value, ∃ w2 : World, (extCall 91 #[Value.pointer p_1]).run Tryz.prog w1 = .ok v0_ w2 ∧
     ∃ p_2 : Option Addr, Ending.returned v0_ = .returned (Value.pointer p_2) ∧
     ∃ p_3 : Option Addr, ∃ w3 : World, (convert 124 64 (Value.pointer p_2)).run Tryz.prog w2 = .ok (Value.pointer p_3) w3 ∧
     NilC b (fun pa_4 =>
     (Value.pointer p_3).oneCell' = true ∧ (∃ u, w3.cell? (pa_4.add 0) = some u) ∧ w3.frozen? (pa_4.add 0) = false ∧
     ∀ w4 : World, w4 = (w3.setCell (pa_4.add 0) (Value.pointer p_3)) →
     R (Value.tuple #[]) w4))
    (NilC b (fun pa_5 =>
     ∃ p_6 : Option Addr, w.cell? (pa_5.add 0) = some (Value.pointer p_6) ∧
     PtrEq Tryz.prog 64 w p_6 b (fun b_7 =>
     CondP (!b_7)
       (False)
       (R (Value.tuple #[]) w)))))
theorem vc78_eq (b : Option Addr) (w : World) (R : Value → World → Prop) : vc78 b w R = denFun ctx (bodyOf Tryz.f78) Tryz.f78.results.toList [Value.pointer b] w R := by kernel_rfl
theorem vc78_calls (b : Option Addr) (w : World) (R : Value → World → Prop) (h : vc78 b w R) : Calls Tryz.prog 78 #[Value.pointer b] w fun e w' => ∃ v, e = .returned v ∧ R v w' :=
  calls_of_den ctxOk (f := 78) (fn := Tryz.f78) (body := bodyOf Tryz.f78) (args := [Value.pointer b]) (by kernel_rfl) (by kernel_rfl) (by kernel_rfl) (by kernel_rfl) (Eq.mp (vc78_eq b w R) h)

/-! ### slices.IndexFunc[[]ligature/api.Merge,ligature/api.Merge]: function 81 -/
def vc81 (sA : Option Addr) (sN : Nat) (sC : Nat) (f : Value) (w : World) (R : Value → World → Prop) : Prop :=
  ∀ I1 : List Value → World → Prop, (∀ y8 : Int, ∀ y4 : Int, ∀ w1 : World, (CondP (decide ((y8 : Int) < ((sN : Nat) : Int)))
      (NilC sA (fun pa =>
       (0 : Int) ≤ y8 ∧ y8 < ((sN : Nat) : Int) ∧
       ∃ g0 : Int, ∃ g1 : Int, (w1.cell? (pa.add ((y8 : Int).toNat * 2)) = some (Value.int .i64 g0) ∧ w1.cell? ((pa.add ((y8 : Int).toNat * 2)).add 1) = some (Value.int .i64 g1) ∧ True) ∧
       CallG ctx f [Value.agg #[Value.int .i64 g0, Value.int .i64 g1]] w1 (fun e2 w2 =>
       ∃ b : Bool, e2 = .returned (Value.bool b) ∧
       CondP b
         (R (Value.int .i64 y8) w2)
         (Ar .i64 ((y8 : Int) + 1) (fun n =>
          I1 [Value.int .i64 n, Value.int .i64 y4] w2)))))
      (R (Value.int .i64 (-1)) w1)) → I1 [Value.int .i64 y8, Value.int .i64 y4] w1) →
  I1 [Value.int .i64 0, Value.int .i64 0] w
theorem vc81_eq (sA : Option Addr) (sN : Nat) (sC : Nat) (f : Value) (w : World) (R : Value → World → Prop) : vc81 sA sN sC f w R = denFun ctx (bodyOf Tryz.f81) Tryz.f81.results.toList [Value.slice sA sN sC, f] w R := by kernel_rfl
theorem vc81_calls (sA : Option Addr) (sN : Nat) (sC : Nat) (f : Value) (w : World) (R : Value → World → Prop) (h : vc81 sA sN sC f w R) : Calls Tryz.prog 81 #[Value.slice sA sN sC, f] w fun e w' => ∃ v, e = .returned v ∧ R v w' :=
  calls_of_den ctxOk (f := 81) (fn := Tryz.f81) (body := bodyOf Tryz.f81) (args := [Value.slice sA sN sC, f]) (by kernel_rfl) (by kernel_rfl) (by kernel_rfl) (by kernel_rfl) (Eq.mp (vc81_eq sA sN sC f w R) h)

/-! ### slices.IndexFunc[[]string,string]: function 82 -/
def vc82 (sA : Option Addr) (sN : Nat) (sC : Nat) (f : Value) (w : World) (R : Value → World → Prop) : Prop :=
  ∀ I1 : List Value → World → Prop, (∀ y8 : Int, ∀ y4 : Int, ∀ w1 : World, (CondP (decide ((y8 : Int) < ((sN : Nat) : Int)))
      (NilC sA (fun pa =>
       (0 : Int) ≤ y8 ∧ y8 < ((sN : Nat) : Int) ∧
       ∃ s : ByteArray, w1.cell? (pa.add ((y8 : Int).toNat * 1)) = some (Value.string s) ∧
       CallG ctx f [Value.string s] w1 (fun e2 w2 =>
       ∃ b : Bool, e2 = .returned (Value.bool b) ∧
       CondP b
         (R (Value.int .i64 y8) w2)
         (Ar .i64 ((y8 : Int) + 1) (fun n =>
          I1 [Value.int .i64 n, Value.int .i64 y4] w2)))))
      (R (Value.int .i64 (-1)) w1)) → I1 [Value.int .i64 y8, Value.int .i64 y4] w1) →
  I1 [Value.int .i64 0, Value.int .i64 0] w
theorem vc82_eq (sA : Option Addr) (sN : Nat) (sC : Nat) (f : Value) (w : World) (R : Value → World → Prop) : vc82 sA sN sC f w R = denFun ctx (bodyOf Tryz.f82) Tryz.f82.results.toList [Value.slice sA sN sC, f] w R := by kernel_rfl
theorem vc82_calls (sA : Option Addr) (sN : Nat) (sC : Nat) (f : Value) (w : World) (R : Value → World → Prop) (h : vc82 sA sN sC f w R) : Calls Tryz.prog 82 #[Value.slice sA sN sC, f] w fun e w' => ∃ v, e = .returned v ∧ R v w' :=
  calls_of_den ctxOk (f := 82) (fn := Tryz.f82) (body := bodyOf Tryz.f82) (args := [Value.slice sA sN sC, f]) (by kernel_rfl) (by kernel_rfl) (by kernel_rfl) (by kernel_rfl) (Eq.mp (vc82_eq sA sN sC f w R) h)

/-! ### slices.IndexFunc[[]ligature/api.Special,ligature/api.Special]: function 83 -/
def vc83 (sA : Option Addr) (sN : Nat) (sC : Nat) (f : Value) (w : World) (R : Value → World → Prop) : Prop :=
  ∀ I1 : List Value → World → Prop, (∀ y8 : Int, ∀ y4 : Int, ∀ w1 : World, (CondP (decide ((y8 : Int) < ((sN : Nat) : Int)))
      (NilC sA (fun pa =>
       (0 : Int) ≤ y8 ∧ y8 < ((sN : Nat) : Int) ∧
       ∃ g0 : Int, ∃ g1 : ByteArray, (w1.cell? (pa.add ((y8 : Int).toNat * 2)) = some (Value.int .i64 g0) ∧ w1.cell? ((pa.add ((y8 : Int).toNat * 2)).add 1) = some (Value.string g1) ∧ True) ∧
       CallG ctx f [Value.agg #[Value.int .i64 g0, Value.string g1]] w1 (fun e2 w2 =>
       ∃ b : Bool, e2 = .returned (Value.bool b) ∧
       CondP b
         (R (Value.int .i64 y8) w2)
         (Ar .i64 ((y8 : Int) + 1) (fun n =>
          I1 [Value.int .i64 n, Value.int .i64 y4] w2)))))
      (R (Value.int .i64 (-1)) w1)) → I1 [Value.int .i64 y8, Value.int .i64 y4] w1) →
  I1 [Value.int .i64 0, Value.int .i64 0] w
theorem vc83_eq (sA : Option Addr) (sN : Nat) (sC : Nat) (f : Value) (w : World) (R : Value → World → Prop) : vc83 sA sN sC f w R = denFun ctx (bodyOf Tryz.f83) Tryz.f83.results.toList [Value.slice sA sN sC, f] w R := by kernel_rfl
theorem vc83_calls (sA : Option Addr) (sN : Nat) (sC : Nat) (f : Value) (w : World) (R : Value → World → Prop) (h : vc83 sA sN sC f w R) : Calls Tryz.prog 83 #[Value.slice sA sN sC, f] w fun e w' => ∃ v, e = .returned v ∧ R v w' :=
  calls_of_den ctxOk (f := 83) (fn := Tryz.f83) (body := bodyOf Tryz.f83) (args := [Value.slice sA sN sC, f]) (by kernel_rfl) (by kernel_rfl) (by kernel_rfl) (by kernel_rfl) (Eq.mp (vc83_eq sA sN sC f w R) h)

/-! ### slices.IndexFunc[[]ligature/api.Class,ligature/api.Class]: function 84 -/
def vc84 (sA : Option Addr) (sN : Nat) (sC : Nat) (f : Value) (w : World) (R : Value → World → Prop) : Prop :=
  ∀ I1 : List Value → World → Prop, (∀ y8 : Int, ∀ y4 : Int, ∀ w1 : World, (CondP (decide ((y8 : Int) < ((sN : Nat) : Int)))
      (NilC sA (fun pa =>
       (0 : Int) ≤ y8 ∧ y8 < ((sN : Nat) : Int) ∧
       ∃ g0 : Int, ∃ g1 : Int, ∃ g2 : Int, (w1.cell? (pa.add ((y8 : Int).toNat * 3)) = some (Value.int .i64 g0) ∧ w1.cell? ((pa.add ((y8 : Int).toNat * 3)).add 1) = some (Value.int .i64 g1) ∧ w1.cell? ((pa.add ((y8 : Int).toNat * 3)).add 2) = some (Value.int .i64 g2) ∧ True) ∧
       CallG ctx f [Value.agg #[Value.int .i64 g0, Value.int .i64 g1, Value.int .i64 g2]] w1 (fun e2 w2 =>
       ∃ b : Bool, e2 = .returned (Value.bool b) ∧
       CondP b
         (R (Value.int .i64 y8) w2)
         (Ar .i64 ((y8 : Int) + 1) (fun n =>
          I1 [Value.int .i64 n, Value.int .i64 y4] w2)))))
      (R (Value.int .i64 (-1)) w1)) → I1 [Value.int .i64 y8, Value.int .i64 y4] w1) →
  I1 [Value.int .i64 0, Value.int .i64 0] w
theorem vc84_eq (sA : Option Addr) (sN : Nat) (sC : Nat) (f : Value) (w : World) (R : Value → World → Prop) : vc84 sA sN sC f w R = denFun ctx (bodyOf Tryz.f84) Tryz.f84.results.toList [Value.slice sA sN sC, f] w R := by kernel_rfl
theorem vc84_calls (sA : Option Addr) (sN : Nat) (sC : Nat) (f : Value) (w : World) (R : Value → World → Prop) (h : vc84 sA sN sC f w R) : Calls Tryz.prog 84 #[Value.slice sA sN sC, f] w fun e w' => ∃ v, e = .returned v ∧ R v w' :=
  calls_of_den ctxOk (f := 84) (fn := Tryz.f84) (body := bodyOf Tryz.f84) (args := [Value.slice sA sN sC, f]) (by kernel_rfl) (by kernel_rfl) (by kernel_rfl) (by kernel_rfl) (Eq.mp (vc84_eq sA sN sC f w R) h)

/-! ### slices.IndexFunc[[]ligature/api.Join,ligature/api.Join]: function 85 -/
def vc85 (sA : Option Addr) (sN : Nat) (sC : Nat) (f : Value) (w : World) (R : Value → World → Prop) : Prop :=
  ∀ I1 : List Value → World → Prop, (∀ y8 : Int, ∀ y4 : Int, ∀ w1 : World, (CondP (decide ((y8 : Int) < ((sN : Nat) : Int)))
      (NilC sA (fun pa =>
       (0 : Int) ≤ y8 ∧ y8 < ((sN : Nat) : Int) ∧
       ∃ g0 : Int, ∃ g1 : Int, (w1.cell? (pa.add ((y8 : Int).toNat * 2)) = some (Value.int .i64 g0) ∧ w1.cell? ((pa.add ((y8 : Int).toNat * 2)).add 1) = some (Value.int .i64 g1) ∧ True) ∧
       CallG ctx f [Value.agg #[Value.int .i64 g0, Value.int .i64 g1]] w1 (fun e2 w2 =>
       ∃ b : Bool, e2 = .returned (Value.bool b) ∧
       CondP b
         (R (Value.int .i64 y8) w2)
         (Ar .i64 ((y8 : Int) + 1) (fun n =>
          I1 [Value.int .i64 n, Value.int .i64 y4] w2)))))
      (R (Value.int .i64 (-1)) w1)) → I1 [Value.int .i64 y8, Value.int .i64 y4] w1) →
  I1 [Value.int .i64 0, Value.int .i64 0] w
theorem vc85_eq (sA : Option Addr) (sN : Nat) (sC : Nat) (f : Value) (w : World) (R : Value → World → Prop) : vc85 sA sN sC f w R = denFun ctx (bodyOf Tryz.f85) Tryz.f85.results.toList [Value.slice sA sN sC, f] w R := by kernel_rfl
theorem vc85_calls (sA : Option Addr) (sN : Nat) (sC : Nat) (f : Value) (w : World) (R : Value → World → Prop) (h : vc85 sA sN sC f w R) : Calls Tryz.prog 85 #[Value.slice sA sN sC, f] w fun e w' => ∃ v, e = .returned v ∧ R v w' :=
  calls_of_den ctxOk (f := 85) (fn := Tryz.f85) (body := bodyOf Tryz.f85) (args := [Value.slice sA sN sC, f]) (by kernel_rfl) (by kernel_rfl) (by kernel_rfl) (by kernel_rfl) (Eq.mp (vc85_eq sA sN sC f w R) h)

/-! ### ligature/spec.numbers: function 88 -/
def vc88 (lA : Option Addr) (lN : Nat) (lC : Nat) (many : Int) (w : World) (R : Value → World → Prop) : Prop :=
  CondP ((((lN : Nat) : Int) : Int) != many)
    (R (Value.tuple #[Value.slice none 0 0, Value.bool false]) w)
    (∀ I1 : List Value → World → Prop, (∀ y17 : Int, ∀ outA : Option Addr, ∀ outN : Nat, ∀ outC : Nat, ∀ y5 : Bool, ∀ y4A : Option Addr, ∀ y4N : Nat, ∀ y4C : Nat, ∀ w1 : World, (CondP (decide ((y17 : Int) < ((lN : Nat) : Int)))
         (NilC lA (fun pa =>
          (0 : Int) ≤ y17 ∧ y17 < ((lN : Nat) : Int) ∧
          ∃ s : ByteArray, w1.cell? (pa.add ((y17 : Int).toNat * 1)) = some (Value.string s) ∧
          Calls Tryz.prog 90 #[Value.string s, Value.int .i64 1073741824] w1 (fun e2 w2 =>
          ∃ r0 : Int, ∃ r1 : Bool, e2 = .returned (Value.tuple #[Value.int .i64 r0, Value.bool r1]) ∧
          CondP (!r1)
            (R (Value.tuple #[Value.slice none 0 0, Value.bool false]) w2)
            (∀ w3 : World, w3 = w2.alloc (.cells #[Value.int .i64 r0] 3) →
             ∃ lA_2 : Option Addr, ∃ lN_3 : Nat, ∃ lC_4 : Nat, ∃ w4 : World, (Builtin.append_ #[41, 41] 41 #[Value.slice outA outN outC, Value.slice (some (nb w2)) 1 1]).run Tryz.prog w3 = .ok (Value.slice lA_2 lN_3 lC_4) w4 ∧
             Ar .i64 ((y17 : Int) + 1) (fun n =>
             I1 [Value.int .i64 n, Value.slice lA_2 lN_3 lC_4, Value.bool y5, Value.slice y4A y4N y4C] w4)))))
         (R (Value.tuple #[Value.slice outA outN outC, Value.bool true]) w1)) → I1 [Value.int .i64 y17, Value.slice outA outN outC, Value.bool y5, Value.slice y4A y4N y4C] w1) →
     I1 [Value.int .i64 0, Value.slice none 0 0, Value.bool false, Value.slice none 0 0] w)
theorem vc88_eq (lA : Option Addr) (lN : Nat) (lC : Nat) (many : Int) (w : World) (R : Value → World → Prop) : vc88 lA lN lC many w R = denFun ctx (bodyOf Tryz.f88) Tryz.f88.results.toList [Value.slice lA lN lC, Value.int .i64 many] w R := by kernel_rfl
theorem vc88_calls (lA : Option Addr) (lN : Nat) (lC : Nat) (many : Int) (w : World) (R : Value → World → Prop) (h : vc88 lA lN lC many w R) : Calls Tryz.prog 88 #[Value.slice lA lN lC, Value.int .i64 many] w fun e w' => ∃ v, e = .returned v ∧ R v w' :=
  calls_of_den ctxOk (f := 88) (fn := Tryz.f88) (body := bodyOf Tryz.f88) (args := [Value.slice lA lN lC, Value.int .i64 many]) (by kernel_rfl) (by kernel_rfl) (by kernel_rfl) (by kernel_rfl) (Eq.mp (vc88_eq lA lN lC many w R) h)

/-! ### ligature/word.Unhex: function 89 -/
def vc89 (s : ByteArray) (w : World) (R : Value → World → Prop) : Prop :=
  CondP ((s : ByteArray).toList == (⟨#[45]⟩ : ByteArray).toList)
    (R (Value.tuple #[Value.string ⟨#[]⟩, Value.bool true]) w)
    (CondP ((s : ByteArray).toList == (⟨#[]⟩ : ByteArray).toList)
       (R (Value.tuple #[Value.string ⟨#[]⟩, Value.bool false]) w)
       ((2 : Int) ≠ 0 ∧
        CondP ((Int.tmod ((s : ByteArray).size : Int) 2 : Int) != 0)
          (R (Value.tuple #[Value.string ⟨#[]⟩, Value.bool false]) w)
          ((2 : Int) ≠ 0 ∧
           ∃ lA : Option Addr, ∃ lN : Nat, ∃ lC : Nat, ∃ w1 : World, (Instr.makeSlice 65 (Value.int .i64 0) (Value.int .i64 (IntKind.wrap .i64 (Int.tdiv ((s : ByteArray).size : Int) 2)))).run Tryz.prog w = .ok (Value.slice lA lN lC) w1 ∧
           ∀ I1 : List Value → World → Prop, (∀ i : Int, ∀ bA : Option Addr, ∀ bN : Nat, ∀ bC : Nat, ∀ y3 : Bool, ∀ y2 : ByteArray, ∀ w2 : World, (CondP (decide ((i : Int) < ((s : ByteArray).size : Int)))
               (∀ w3 : World, w3 = w2.drew →
                (0 : Int) ≤ i ∧ i < ((s : ByteArray).size : Int) ∧
                Ar .i64 ((i : Int) + 1) (fun n =>
                (0 : Int) ≤ n ∧ n < ((s : ByteArray).size : Int) ∧
                Calls Tryz.prog 101 #[Value.int .u8 (btAt s i)] w3 (fun e4 w4 =>
                ∃ n_2 : Int, e4 = .returned (Value.int .i64 n_2) ∧
                Calls Tryz.prog 101 #[Value.int .u8 (btAt s n)] w4 (fun e5 w5 =>
                ∃ n_3 : Int, e5 = .returned (Value.int .i64 n_3) ∧
                CondP (decide ((n_2 : Int) < 0))
                  (R (Value.tuple #[Value.string ⟨#[]⟩, Value.bool false]) w5)
                  (CondP (decide ((n_3 : Int) < 0))
                     (R (Value.tuple #[Value.string ⟨#[]⟩, Value.bool false]) w5)
                     (Ar .i64 ((n_2 : Int) * 16) (fun n_4 =>
                      Ar .i64 ((n_4 : Int) + n_3) (fun n_5 =>
                      ∀ w6 : World, w6 = w5.alloc (.cells #[Value.int .u8 (IntKind.wrap .u8 n_5)] 5) →
                      ∃ lA_6 : Option Addr, ∃ lN_7 : Nat, ∃ lC_8 : Nat, ∃ w7 : World, (Builtin.append_ #[65, 65] 65 #[Value.slice bA bN bC, Value.slice (some (nb w5)) 1 1]).run Tryz.prog w6 = .ok (Value.slice lA_6 lN_7 lC_8) w7 ∧
                      Ar .i64 ((i : Int) + 2) (fun n_9 =>
                      I1 [Value.int .i64 n_9, Value.slice lA_6 lN_7 lC_8, Value.bool y3, Value.string y2] w7)))))))))
               (∃ s_10 : ByteArray, ∃ w8 : World, (convert 65 9 (Value.slice bA bN bC)).run Tryz.prog w2 = .ok (Value.string s_10) w8 ∧
                R (Value.tuple #[Value.string s_10, Value.bool true]) w8)) → I1 [Value.int .i64 i, Value.slice bA bN bC, Value.bool y3, Value.string y2] w2) →
           I1 [Value.int .i64 0, Value.slice lA lN lC, Value.bool false, Value.string ⟨#[]⟩] w1)))
theorem vc89_eq (s : ByteArray) (w : World) (R : Value → World → Prop) : vc89 s w R = denFun ctx (bodyOf Tryz.f89) Tryz.f89.results.toList [Value.string s] w R := by kernel_rfl
theorem vc89_calls (s : ByteArray) (w : World) (R : Value → World → Prop) (h : vc89 s w R) : Calls Tryz.prog 89 #[Value.string s] w fun e w' => ∃ v, e = .returned v ∧ R v w' :=
  calls_of_den ctxOk (f := 89) (fn := Tryz.f89) (body := bodyOf Tryz.f89) (args := [Value.string s]) (by kernel_rfl) (by kernel_rfl) (by kernel_rfl) (by kernel_rfl) (Eq.mp (vc89_eq s w R) h)

/-! ### ligature/word.Parse: function 90 -/
def vc90 (s : ByteArray) (most : Int) (w : World) (R : Value → World → Prop) : Prop :=
  Calls Tryz.prog 102 #[Value.string s] w (fun e1 w1 =>
  ∃ r0 : Int, ∃ r1 : Value, e1 = .returned (Value.tuple #[Value.int .i64 r0, r1]) ∧
  ∃ b : Bool, ∃ w2 : World, (do eqGuard .neq 99 (.tmp 13) (.const (Value.nilIface)) r1 Value.nilIface; binOp .neq 99 r1 Value.nilIface).run Tryz.prog w1 = .ok (Value.bool b) w2 ∧
  CondP b
    (R (Value.tuple #[Value.int .i64 0, Value.bool false]) w2)
    (CondP (decide ((r0 : Int) < 0))
       (R (Value.tuple #[Value.int .i64 0, Value.bool false]) w2)
       (CondP (decide ((r0 : Int) > most))
          (R (Value.tuple #[Value.int .i64 0, Value.bool false]) w2)
          (Calls Tryz.prog 27 #[Value.int .i64 r0] w2 (fun e3 w3 =>
           ∃ s_1 : ByteArray, e3 = .returned (Value.string s_1) ∧
           CondP (!((s_1 : ByteArray).toList == (s : ByteArray).toList))
             (R (Value.tuple #[Value.int .i64 0, Value.bool false]) w3)
             (R (Value.tuple #[Value.int .i64 r0, Value.bool true]) w3))))))
theorem vc90_eq (s : ByteArray) (most : Int) (w : World) (R : Value → World → Prop) : vc90 s most w R = denFun ctx (bodyOf Tryz.f90) Tryz.f90.results.toList [Value.string s, Value.int .i64 most] w R := by kernel_rfl
theorem vc90_calls (s : ByteArray) (most : Int) (w : World) (R : Value → World → Prop) (h : vc90 s most w R) : Calls Tryz.prog 90 #[Value.string s, Value.int .i64 most] w fun e w' => ∃ v, e = .returned v ∧ R v w' :=
  calls_of_den ctxOk (f := 90) (fn := Tryz.f90) (body := bodyOf Tryz.f90) (args := [Value.string s, Value.int .i64 most]) (by kernel_rfl) (by kernel_rfl) (by kernel_rfl) (by kernel_rfl) (Eq.mp (vc90_eq s most w R) h)

/-! ### ligature/word.digit: function 101 -/
def vc101 (c : Int) (w : World) (R : Value → World → Prop) : Prop :=
  Calls Tryz.prog 113 #[Value.string ⟨#[48, 49, 50, 51, 52, 53, 54, 55, 56, 57, 97, 98, 99, 100, 101, 102]⟩, Value.int .u8 c] w (fun e1 w1 =>
  ∃ n : Int, e1 = .returned (Value.int .i64 n) ∧
  R (Value.int .i64 n) w1)
theorem vc101_eq (c : Int) (w : World) (R : Value → World → Prop) : vc101 c w R = denFun ctx (bodyOf Tryz.f101) Tryz.f101.results.toList [Value.int .u8 c] w R := by kernel_rfl
theorem vc101_calls (c : Int) (w : World) (R : Value → World → Prop) (h : vc101 c w R) : Calls Tryz.prog 101 #[Value.int .u8 c] w fun e w' => ∃ v, e = .returned v ∧ R v w' :=
  calls_of_den ctxOk (f := 101) (fn := Tryz.f101) (body := bodyOf Tryz.f101) (args := [Value.int .u8 c]) (by kernel_rfl) (by kernel_rfl) (by kernel_rfl) (by kernel_rfl) (Eq.mp (vc101_eq c w R) h)

end Go.Proofs.YtldgehlbicoedaaGreatDoor.Eng
