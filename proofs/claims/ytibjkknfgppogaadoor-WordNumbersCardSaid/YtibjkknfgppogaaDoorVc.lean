/- What these functions owe, printed by a program of this repo out of the translation. -/
import Derived.Test.YtibjkknfgppogaaDoorTab
set_option linter.unusedVariables false
set_option maxRecDepth 100000
namespace Go.Proofs.YtibjkknfgppogaaDoor.Eng
open Go

/-! ### (*strings.Builder).copyCheck: function 31 -/
def vc31 (b : Option Addr) (w : World) (R : Value → World → Prop) : Prop :=
  NilC b (fun pa =>
  ∃ p : Option Addr, w.cell? (pa.add 0) = some (Value.pointer p) ∧
  CondP (Option.isNone p)
    (∃ p_1 : Option Addr, ∃ w1 : World, (convert 43 62 (Value.pointer b)).run Tryd.prog w = .ok (Value.pointer p_1) w1 ∧
     ∃ v0_ : Value, ∃ w2 : World, (extCall 40 #[Value.pointer p_1]).run Tryd.prog w1 = .ok v0_ w2 ∧
     ∃ p_2 : Option Addr, Ending.returned v0_ = .returned (Value.pointer p_2) ∧
     ∃ p_3 : Option Addr, ∃ w3 : World, (convert 62 43 (Value.pointer p_2)).run Tryd.prog w2 = .ok (Value.pointer p_3) w3 ∧
     NilC b (fun pa_4 =>
     (Value.pointer p_3).oneCell' = true ∧ (∃ u, w3.cell? (pa_4.add 0) = some u) ∧ w3.frozen? (pa_4.add 0) = false ∧
     ∀ w4 : World, w4 = (w3.setCell (pa_4.add 0) (Value.pointer p_3)) →
     R (Value.tuple #[]) w4))
    (NilC b (fun pa_5 =>
     ∃ p_6 : Option Addr, w.cell? (pa_5.add 0) = some (Value.pointer p_6) ∧
     PtrEq Tryd.prog 43 w p_6 b (fun b_7 =>
     CondP (!b_7)
       (False)
       (R (Value.tuple #[]) w)))))
theorem vc31_eq (b : Option Addr) (w : World) (R : Value → World → Prop) : vc31 b w R = denFun ctx (bodyOf Tryd.f31) Tryd.f31.results.toList [Value.pointer b] w R := by kernel_rfl
theorem vc31_calls (b : Option Addr) (w : World) (R : Value → World → Prop) (h : vc31 b w R) : Calls Tryd.prog 31 #[Value.pointer b] w fun e w' => ∃ v, e = .returned v ∧ R v w' :=
  calls_of_den ctxOk (f := 31) (fn := Tryd.f31) (body := bodyOf Tryd.f31) (args := [Value.pointer b]) (by kernel_rfl) (by kernel_rfl) (by kernel_rfl) (by kernel_rfl) (Eq.mp (vc31_eq b w R) h)

/-! ### (*strings.Builder).WriteByte: function 23 -/
def vc23 (b : Option Addr) (c : Int) (w : World) (R : Value → World → Prop) : Prop :=
  Calls Tryd.prog 31 #[Value.pointer b] w (fun e1 w1 =>
  e1 = .returned (Value.tuple #[]) ∧
  NilC b (fun pa =>
  ∃ lA : Option Addr, ∃ lN : Nat, ∃ lC : Nat, w1.cell? (pa.add 1) = some (Value.slice lA lN lC) ∧
  ∀ w2 : World, w2 = w1.alloc (.cells #[Value.int .u8 c] 5) →
  ∃ lA_1 : Option Addr, ∃ lN_2 : Nat, ∃ lC_3 : Nat, ∃ w3 : World, (Builtin.append_ #[41, 41] 41 #[Value.slice lA lN lC, Value.slice (some (nb w1)) 1 1]).run Tryd.prog w2 = .ok (Value.slice lA_1 lN_2 lC_3) w3 ∧
  NilC b (fun pa_4 =>
  (Value.slice lA_1 lN_2 lC_3).oneCell' = true ∧ (∃ u, w3.cell? (pa_4.add 1) = some u) ∧ w3.frozen? (pa_4.add 1) = false ∧
  ∀ w4 : World, w4 = (w3.setCell (pa_4.add 1) (Value.slice lA_1 lN_2 lC_3)) →
  R (Value.nilIface) w4)))
theorem vc23_eq (b : Option Addr) (c : Int) (w : World) (R : Value → World → Prop) : vc23 b c w R = denFun ctx (bodyOf Tryd.f23) Tryd.f23.results.toList [Value.pointer b, Value.int .u8 c] w R := by kernel_rfl
theorem vc23_calls (b : Option Addr) (c : Int) (w : World) (R : Value → World → Prop) (h : vc23 b c w R) : Calls Tryd.prog 23 #[Value.pointer b, Value.int .u8 c] w fun e w' => ∃ v, e = .returned v ∧ R v w' :=
  calls_of_den ctxOk (f := 23) (fn := Tryd.f23) (body := bodyOf Tryd.f23) (args := [Value.pointer b, Value.int .u8 c]) (by kernel_rfl) (by kernel_rfl) (by kernel_rfl) (by kernel_rfl) (Eq.mp (vc23_eq b c w R) h)

/-! ### (*strings.Builder).WriteString: function 34 -/
def vc34 (b : Option Addr) (s : ByteArray) (w : World) (R : Value → World → Prop) : Prop :=
  Calls Tryd.prog 31 #[Value.pointer b] w (fun e1 w1 =>
  e1 = .returned (Value.tuple #[]) ∧
  NilC b (fun pa =>
  ∃ lA : Option Addr, ∃ lN : Nat, ∃ lC : Nat, w1.cell? (pa.add 1) = some (Value.slice lA lN lC) ∧
  ∃ lA_1 : Option Addr, ∃ lN_2 : Nat, ∃ lC_3 : Nat, ∃ w2 : World, (Builtin.append_ #[41, 9] 41 #[Value.slice lA lN lC, Value.string s]).run Tryd.prog w1 = .ok (Value.slice lA_1 lN_2 lC_3) w2 ∧
  NilC b (fun pa_4 =>
  (Value.slice lA_1 lN_2 lC_3).oneCell' = true ∧ (∃ u, w2.cell? (pa_4.add 1) = some u) ∧ w2.frozen? (pa_4.add 1) = false ∧
  ∀ w3 : World, w3 = (w2.setCell (pa_4.add 1) (Value.slice lA_1 lN_2 lC_3)) →
  R (Value.tuple #[Value.int .i64 ((s : ByteArray).size : Int), Value.nilIface]) w3)))
theorem vc34_eq (b : Option Addr) (s : ByteArray) (w : World) (R : Value → World → Prop) : vc34 b s w R = denFun ctx (bodyOf Tryd.f34) Tryd.f34.results.toList [Value.pointer b, Value.string s] w R := by kernel_rfl
theorem vc34_calls (b : Option Addr) (s : ByteArray) (w : World) (R : Value → World → Prop) (h : vc34 b s w R) : Calls Tryd.prog 34 #[Value.pointer b, Value.string s] w fun e w' => ∃ v, e = .returned v ∧ R v w' :=
  calls_of_den ctxOk (f := 34) (fn := Tryd.f34) (body := bodyOf Tryd.f34) (args := [Value.pointer b, Value.string s]) (by kernel_rfl) (by kernel_rfl) (by kernel_rfl) (by kernel_rfl) (Eq.mp (vc34_eq b s w R) h)

/-! ### strings.IndexByte: function 30 -/
def vc30 (s : ByteArray) (c : Int) (w : World) (R : Value → World → Prop) : Prop :=
  Calls Tryd.prog 39 #[Value.string s, Value.int .u8 c] w (fun e1 w1 =>
  ∃ n : Int, e1 = .returned (Value.int .i64 n) ∧
  R (Value.int .i64 n) w1)
theorem vc30_eq (s : ByteArray) (c : Int) (w : World) (R : Value → World → Prop) : vc30 s c w R = denFun ctx (bodyOf Tryd.f30) Tryd.f30.results.toList [Value.string s, Value.int .u8 c] w R := by kernel_rfl
theorem vc30_calls (s : ByteArray) (c : Int) (w : World) (R : Value → World → Prop) (h : vc30 s c w R) : Calls Tryd.prog 30 #[Value.string s, Value.int .u8 c] w fun e w' => ∃ v, e = .returned v ∧ R v w' :=
  calls_of_den ctxOk (f := 30) (fn := Tryd.f30) (body := bodyOf Tryd.f30) (args := [Value.string s, Value.int .u8 c]) (by kernel_rfl) (by kernel_rfl) (by kernel_rfl) (by kernel_rfl) (Eq.mp (vc30_eq s c w R) h)

/-! ### strconv.Itoa: function 29 -/
def vc29 (i : Int) (w : World) (R : Value → World → Prop) : Prop :=
  Calls Tryd.prog 38 #[Value.int .i64 i] w (fun e1 w1 =>
  ∃ s : ByteArray, e1 = .returned (Value.string s) ∧
  R (Value.string s) w1)
theorem vc29_eq (i : Int) (w : World) (R : Value → World → Prop) : vc29 i w R = denFun ctx (bodyOf Tryd.f29) Tryd.f29.results.toList [Value.int .i64 i] w R := by kernel_rfl
theorem vc29_calls (i : Int) (w : World) (R : Value → World → Prop) (h : vc29 i w R) : Calls Tryd.prog 29 #[Value.int .i64 i] w fun e w' => ∃ v, e = .returned v ∧ R v w' :=
  calls_of_den ctxOk (f := 29) (fn := Tryd.f29) (body := bodyOf Tryd.f29) (args := [Value.int .i64 i]) (by kernel_rfl) (by kernel_rfl) (by kernel_rfl) (by kernel_rfl) (Eq.mp (vc29_eq i w R) h)

/-! ### ligature/word.Hex: function 9 -/
def vc9 (s : ByteArray) (w : World) (R : Value → World → Prop) : Prop :=
  CondP ((s : ByteArray).toList == (⟨#[]⟩ : ByteArray).toList)
    (R (Value.string ⟨#[45]⟩) w)
    (∀ w1 : World, w1 = w.alloc (.cells #[Value.pointer none, Value.slice none 0 0] 45) →
     ∀ I1 : List Value → World → Prop, (∀ y9 : Int, ∀ w2 : World, (CondP (decide ((y9 : Int) < ((s : ByteArray).size : Int)))
         ((0 : Int) ≤ y9 ∧ y9 < ((s : ByteArray).size : Int) ∧
          (0 : Int) ≤ 4 ∧
          (0 : Int) ≤ (Int.fdiv (btAt s y9) (2 ^ (min (4 : Int).toNat (IntKind.bits .u8)))) ∧ (Int.fdiv (btAt s y9) (2 ^ (min (4 : Int).toNat (IntKind.bits .u8)))) < ((⟨#[48, 49, 50, 51, 52, 53, 54, 55, 56, 57, 97, 98, 99, 100, 101, 102]⟩ : ByteArray).size : Int) ∧
          Calls Tryd.prog 23 #[Value.pointer (some (nb w)), Value.int .u8 (btAt ⟨#[48, 49, 50, 51, 52, 53, 54, 55, 56, 57, 97, 98, 99, 100, 101, 102]⟩ (Int.fdiv (btAt s y9) (2 ^ (min (4 : Int).toNat (IntKind.bits .u8)))))] w2 (fun e3 w3 =>
          ∃ v_ : Value, e3 = .returned (v_) ∧
          (0 : Int) ≤ y9 ∧ y9 < ((s : ByteArray).size : Int) ∧
          (0 : Int) ≤ (IntKind.wrap .u8 ((BitVec.ofInt (IntKind.bits .u8) (btAt s y9) &&& BitVec.ofInt (IntKind.bits .u8) 15).toNat : Int)) ∧ (IntKind.wrap .u8 ((BitVec.ofInt (IntKind.bits .u8) (btAt s y9) &&& BitVec.ofInt (IntKind.bits .u8) 15).toNat : Int)) < ((⟨#[48, 49, 50, 51, 52, 53, 54, 55, 56, 57, 97, 98, 99, 100, 101, 102]⟩ : ByteArray).size : Int) ∧
          Calls Tryd.prog 23 #[Value.pointer (some (nb w)), Value.int .u8 (btAt ⟨#[48, 49, 50, 51, 52, 53, 54, 55, 56, 57, 97, 98, 99, 100, 101, 102]⟩ (IntKind.wrap .u8 ((BitVec.ofInt (IntKind.bits .u8) (btAt s y9) &&& BitVec.ofInt (IntKind.bits .u8) 15).toNat : Int)))] w3 (fun e4 w4 =>
          ∃ v__2 : Value, e4 = .returned (v__2) ∧
          Ar .i64 ((y9 : Int) + 1) (fun n =>
          I1 [Value.int .i64 n] w4))))
         (Calls Tryd.prog 24 #[Value.pointer (some (nb w))] w2 (fun e5 w5 =>
          ∃ s_3 : ByteArray, e5 = .returned (Value.string s_3) ∧
          R (Value.string s_3) w5))) → I1 [Value.int .i64 y9] w2) →
     I1 [Value.int .i64 0] w1)
theorem vc9_eq (s : ByteArray) (w : World) (R : Value → World → Prop) : vc9 s w R = denFun ctx (bodyOf Tryd.f9) Tryd.f9.results.toList [Value.string s] w R := by kernel_rfl
theorem vc9_calls (s : ByteArray) (w : World) (R : Value → World → Prop) (h : vc9 s w R) : Calls Tryd.prog 9 #[Value.string s] w fun e w' => ∃ v, e = .returned v ∧ R v w' :=
  calls_of_den ctxOk (f := 9) (fn := Tryd.f9) (body := bodyOf Tryd.f9) (args := [Value.string s]) (by kernel_rfl) (by kernel_rfl) (by kernel_rfl) (by kernel_rfl) (Eq.mp (vc9_eq s w R) h)

/-! ### ligature/word.Unhex: function 7 -/
def vc7 (s : ByteArray) (w : World) (R : Value → World → Prop) : Prop :=
  CondP ((s : ByteArray).toList == (⟨#[45]⟩ : ByteArray).toList)
    (R (Value.tuple #[Value.string ⟨#[]⟩, Value.bool true]) w)
    (CondP ((s : ByteArray).toList == (⟨#[]⟩ : ByteArray).toList)
       (R (Value.tuple #[Value.string ⟨#[]⟩, Value.bool false]) w)
       ((2 : Int) ≠ 0 ∧
        CondP ((Int.tmod ((s : ByteArray).size : Int) 2 : Int) != 0)
          (R (Value.tuple #[Value.string ⟨#[]⟩, Value.bool false]) w)
          ((2 : Int) ≠ 0 ∧
           ∃ lA : Option Addr, ∃ lN : Nat, ∃ lC : Nat, ∃ w1 : World, (Instr.makeSlice 41 (Value.int .i64 0) (Value.int .i64 (IntKind.wrap .i64 (Int.tdiv ((s : ByteArray).size : Int) 2)))).run Tryd.prog w = .ok (Value.slice lA lN lC) w1 ∧
           ∀ I1 : List Value → World → Prop, (∀ i : Int, ∀ bA : Option Addr, ∀ bN : Nat, ∀ bC : Nat, ∀ y3 : Bool, ∀ y2 : ByteArray, ∀ w2 : World, (CondP (decide ((i : Int) < ((s : ByteArray).size : Int)))
               (∀ w3 : World, w3 = w2.drew →
                (0 : Int) ≤ i ∧ i < ((s : ByteArray).size : Int) ∧
                Ar .i64 ((i : Int) + 1) (fun n =>
                (0 : Int) ≤ n ∧ n < ((s : ByteArray).size : Int) ∧
                Calls Tryd.prog 21 #[Value.int .u8 (btAt s i)] w3 (fun e4 w4 =>
                ∃ n_2 : Int, e4 = .returned (Value.int .i64 n_2) ∧
                Calls Tryd.prog 21 #[Value.int .u8 (btAt s n)] w4 (fun e5 w5 =>
                ∃ n_3 : Int, e5 = .returned (Value.int .i64 n_3) ∧
                CondP (decide ((n_2 : Int) < 0))
                  (R (Value.tuple #[Value.string ⟨#[]⟩, Value.bool false]) w5)
                  (CondP (decide ((n_3 : Int) < 0))
                     (R (Value.tuple #[Value.string ⟨#[]⟩, Value.bool false]) w5)
                     (Ar .i64 ((n_2 : Int) * 16) (fun n_4 =>
                      Ar .i64 ((n_4 : Int) + n_3) (fun n_5 =>
                      ∀ w6 : World, w6 = w5.alloc (.cells #[Value.int .u8 (IntKind.wrap .u8 n_5)] 5) →
                      ∃ lA_6 : Option Addr, ∃ lN_7 : Nat, ∃ lC_8 : Nat, ∃ w7 : World, (Builtin.append_ #[41, 41] 41 #[Value.slice bA bN bC, Value.slice (some (nb w5)) 1 1]).run Tryd.prog w6 = .ok (Value.slice lA_6 lN_7 lC_8) w7 ∧
                      Ar .i64 ((i : Int) + 2) (fun n_9 =>
                      I1 [Value.int .i64 n_9, Value.slice lA_6 lN_7 lC_8, Value.bool y3, Value.string y2] w7)))))))))
               (∃ s_10 : ByteArray, ∃ w8 : World, (convert 41 9 (Value.slice bA bN bC)).run Tryd.prog w2 = .ok (Value.string s_10) w8 ∧
                R (Value.tuple #[Value.string s_10, Value.bool true]) w8)) → I1 [Value.int .i64 i, Value.slice bA bN bC, Value.bool y3, Value.string y2] w2) →
           I1 [Value.int .i64 0, Value.slice lA lN lC, Value.bool false, Value.string ⟨#[]⟩] w1)))
theorem vc7_eq (s : ByteArray) (w : World) (R : Value → World → Prop) : vc7 s w R = denFun ctx (bodyOf Tryd.f7) Tryd.f7.results.toList [Value.string s] w R := by kernel_rfl
theorem vc7_calls (s : ByteArray) (w : World) (R : Value → World → Prop) (h : vc7 s w R) : Calls Tryd.prog 7 #[Value.string s] w fun e w' => ∃ v, e = .returned v ∧ R v w' :=
  calls_of_den ctxOk (f := 7) (fn := Tryd.f7) (body := bodyOf Tryd.f7) (args := [Value.string s]) (by kernel_rfl) (by kernel_rfl) (by kernel_rfl) (by kernel_rfl) (Eq.mp (vc7_eq s w R) h)

/-! ### ligature/word.digit: function 21 -/
def vc21 (c : Int) (w : World) (R : Value → World → Prop) : Prop :=
  Calls Tryd.prog 30 #[Value.string ⟨#[48, 49, 50, 51, 52, 53, 54, 55, 56, 57, 97, 98, 99, 100, 101, 102]⟩, Value.int .u8 c] w (fun e1 w1 =>
  ∃ n : Int, e1 = .returned (Value.int .i64 n) ∧
  R (Value.int .i64 n) w1)
theorem vc21_eq (c : Int) (w : World) (R : Value → World → Prop) : vc21 c w R = denFun ctx (bodyOf Tryd.f21) Tryd.f21.results.toList [Value.int .u8 c] w R := by kernel_rfl
theorem vc21_calls (c : Int) (w : World) (R : Value → World → Prop) (h : vc21 c w R) : Calls Tryd.prog 21 #[Value.int .u8 c] w fun e w' => ∃ v, e = .returned v ∧ R v w' :=
  calls_of_den ctxOk (f := 21) (fn := Tryd.f21) (body := bodyOf Tryd.f21) (args := [Value.int .u8 c]) (by kernel_rfl) (by kernel_rfl) (by kernel_rfl) (by kernel_rfl) (Eq.mp (vc21_eq c w R) h)

/-! ### ligature/ligaturelaw02.WordHexes: function 3 -/
def vc3 (b : ByteArray) (s : ByteArray) (w : World) (R : Value → World → Prop) : Prop :=
  CondP (decide ((((b : ByteArray).size : Int) : Int) > 500))
    (Calls Tryd.prog 6 #[] w (fun e1 w1 =>
     ∃ b_1 : Bool, e1 = .returned (Value.bool b_1) ∧
     R (Value.bool b_1) w1))
    (CondP (decide ((((s : ByteArray).size : Int) : Int) > 500))
       (Calls Tryd.prog 6 #[] w (fun e2 w2 =>
        ∃ b_2 : Bool, e2 = .returned (Value.bool b_2) ∧
        R (Value.bool b_2) w2))
       (Calls Tryd.prog 7 #[Value.string s] w (fun e3 w3 =>
        ∃ r0 : ByteArray, ∃ r1 : Bool, e3 = .returned (Value.tuple #[Value.string r0, Value.bool r1]) ∧
        Calls Tryd.prog 8 #[Value.string s] w3 (fun e4 w4 =>
        ∃ r0_3 : ByteArray, ∃ r1_4 : Bool, e4 = .returned (Value.tuple #[Value.string r0_3, Value.bool r1_4]) ∧
        Calls Tryd.prog 9 #[Value.string b] w4 (fun e5 w5 =>
        ∃ s_5 : ByteArray, e5 = .returned (Value.string s_5) ∧
        Calls Tryd.prog 7 #[Value.string s_5] w5 (fun e6 w6 =>
        ∃ r0_6 : ByteArray, ∃ r1_7 : Bool, e6 = .returned (Value.tuple #[Value.string r0_6, Value.bool r1_7]) ∧
        ∀ J8 : List Value → World → Prop, (∀ u_ : ByteArray, ∀ w7 : World, (Calls Tryd.prog 9 #[Value.string b] w7 (fun e8 w8 =>
          ∃ s_9 : ByteArray, e8 = .returned (Value.string s_9) ∧
          Calls Tryd.prog 10 #[Value.string b] w8 (fun e9 w9 =>
          ∃ s_10 : ByteArray, e9 = .returned (Value.string s_10) ∧
          CondP ((s_9 : ByteArray).toList == (s_10 : ByteArray).toList)
            (CondP ((r0 : ByteArray).toList == (u_ : ByteArray).toList)
               (CondP (r1 == r1_4)
                  (CondP ((r0_6 : ByteArray).toList == (b : ByteArray).toList)
                     (CondP r1_7
                        (CondP (!r1)
                           (Calls Tryd.prog 6 #[] w9 (fun e10 w10 =>
                            ∃ b_11 : Bool, e10 = .returned (Value.bool b_11) ∧
                            R (Value.bool b_11) w10))
                           (Calls Tryd.prog 9 #[Value.string r0] w9 (fun e11 w11 =>
                            ∃ s_12 : ByteArray, e11 = .returned (Value.string s_12) ∧
                            CondP ((s_12 : ByteArray).toList == (s : ByteArray).toList)
                              (Calls Tryd.prog 6 #[] w11 (fun e12 w12 =>
                               ∃ b_13 : Bool, e12 = .returned (Value.bool b_13) ∧
                               R (Value.bool b_13) w12))
                              (R (Value.bool false) w11))))
                        (R (Value.bool false) w9))
                     (R (Value.bool false) w9))
                  (R (Value.bool false) w9))
               (R (Value.bool false) w9))
            (R (Value.bool false) w9)))) → J8 [Value.string u_] w7) →
        CondP (!r1_4)
          (J8 [Value.string ⟨#[]⟩] w6)
          (J8 [Value.string r0_3] w6)))))))
theorem vc3_eq (b : ByteArray) (s : ByteArray) (w : World) (R : Value → World → Prop) : vc3 b s w R = denFun ctx (bodyOf Tryd.f3) Tryd.f3.results.toList [Value.string b, Value.string s] w R := by kernel_rfl
theorem vc3_calls (b : ByteArray) (s : ByteArray) (w : World) (R : Value → World → Prop) (h : vc3 b s w R) : Calls Tryd.prog 3 #[Value.string b, Value.string s] w fun e w' => ∃ v, e = .returned v ∧ R v w' :=
  calls_of_den ctxOk (f := 3) (fn := Tryd.f3) (body := bodyOf Tryd.f3) (args := [Value.string b, Value.string s]) (by kernel_rfl) (by kernel_rfl) (by kernel_rfl) (by kernel_rfl) (Eq.mp (vc3_eq b s w R) h)

/-! ### ligature/ligaturelaw02.awake: function 6 -/
def vc6 (w : World) (R : Value → World → Prop) : Prop :=
  Calls Tryd.prog 9 #[Value.string ⟨#[97, 122]⟩] w (fun e1 w1 =>
  ∃ s : ByteArray, e1 = .returned (Value.string s) ∧
  CondP ((s : ByteArray).toList == (⟨#[54, 49, 55, 97]⟩ : ByteArray).toList)
    (∀ w2 : World, w2 = w1.alloc (.cells #[Value.int .i64 3, Value.int .i64 (-1)] 3) →
     Calls Tryd.prog 20 #[Value.slice (some (nb w1)) 2 2] w2 (fun e3 w3 =>
     ∃ s_1 : ByteArray, e3 = .returned (Value.string s_1) ∧
     R (Value.bool ((s_1 : ByteArray).toList == (⟨#[51, 32, 45, 49]⟩ : ByteArray).toList)) w3))
    (R (Value.bool false) w1))
theorem vc6_eq (w : World) (R : Value → World → Prop) : vc6 w R = denFun ctx (bodyOf Tryd.f6) Tryd.f6.results.toList [] w R := by kernel_rfl
theorem vc6_calls (w : World) (R : Value → World → Prop) (h : vc6 w R) : Calls Tryd.prog 6 #[] w fun e w' => ∃ v, e = .returned v ∧ R v w' :=
  calls_of_den ctxOk (f := 6) (fn := Tryd.f6) (body := bodyOf Tryd.f6) (args := []) (by kernel_rfl) (by kernel_rfl) (by kernel_rfl) (by kernel_rfl) (Eq.mp (vc6_eq w R) h)

/-! ### ligature/ligatureref02.Unhex: function 8 -/
def vc8 (s : ByteArray) (w : World) (R : Value → World → Prop) : Prop :=
  CondP ((s : ByteArray).toList == (⟨#[45]⟩ : ByteArray).toList)
    (R (Value.tuple #[Value.string ⟨#[]⟩, Value.bool true]) w)
    (∀ I1 : List Value → World → Prop, (∀ i : Int, ∀ bA : Option Addr, ∀ bN : Nat, ∀ bC : Nat, ∀ y3 : Bool, ∀ y2 : ByteArray, ∀ w1 : World, (CondP (decide ((i : Int) < ((s : ByteArray).size : Int)))
         (Ar .i64 ((i : Int) + 1) (fun n =>
          CondP (decide ((n : Int) ≥ ((s : ByteArray).size : Int)))
            (R (Value.tuple #[Value.string ⟨#[]⟩, Value.bool false]) w1)
            ((0 : Int) ≤ i ∧ i < ((s : ByteArray).size : Int) ∧
             Calls Tryd.prog 22 #[Value.int .u8 (btAt s i)] w1 (fun e2 w2 =>
             ∃ n_2 : Int, e2 = .returned (Value.int .i64 n_2) ∧
             CondP (decide ((n_2 : Int) > 15))
               (R (Value.tuple #[Value.string ⟨#[]⟩, Value.bool false]) w2)
               (Ar .i64 ((i : Int) + 1) (fun n_3 =>
                (0 : Int) ≤ n_3 ∧ n_3 < ((s : ByteArray).size : Int) ∧
                Calls Tryd.prog 22 #[Value.int .u8 (btAt s n_3)] w2 (fun e3 w3 =>
                ∃ n_4 : Int, e3 = .returned (Value.int .i64 n_4) ∧
                CondP (decide ((n_4 : Int) > 15))
                  (R (Value.tuple #[Value.string ⟨#[]⟩, Value.bool false]) w3)
                  (∀ w4 : World, w4 = w3.drew →
                   (0 : Int) ≤ i ∧ i < ((s : ByteArray).size : Int) ∧
                   Ar .i64 ((i : Int) + 1) (fun n_5 =>
                   (0 : Int) ≤ n_5 ∧ n_5 < ((s : ByteArray).size : Int) ∧
                   Calls Tryd.prog 22 #[Value.int .u8 (btAt s i)] w4 (fun e5 w5 =>
                   ∃ n_6 : Int, e5 = .returned (Value.int .i64 n_6) ∧
                   Ar .i64 ((16 : Int) * n_6) (fun n_7 =>
                   Calls Tryd.prog 22 #[Value.int .u8 (btAt s n_5)] w5 (fun e6 w6 =>
                   ∃ n_8 : Int, e6 = .returned (Value.int .i64 n_8) ∧
                   Ar .i64 ((n_7 : Int) + n_8) (fun n_9 =>
                   ∀ w7 : World, w7 = w6.alloc (.cells #[Value.int .u8 (IntKind.wrap .u8 n_9)] 5) →
                   ∃ lA : Option Addr, ∃ lN : Nat, ∃ lC : Nat, ∃ w8 : World, (Builtin.append_ #[41, 41] 41 #[Value.slice bA bN bC, Value.slice (some (nb w6)) 1 1]).run Tryd.prog w7 = .ok (Value.slice lA lN lC) w8 ∧
                   Ar .i64 ((i : Int) + 2) (fun n_10 =>
                   I1 [Value.int .i64 n_10, Value.slice lA lN lC, Value.bool y3, Value.string y2] w8))))))))))))))
         (∃ s_11 : ByteArray, ∃ w9 : World, (convert 41 9 (Value.slice bA bN bC)).run Tryd.prog w1 = .ok (Value.string s_11) w9 ∧
          R (Value.tuple #[Value.string s_11, Value.bool (decide ((((bN : Nat) : Int) : Int) > 0))]) w9)) → I1 [Value.int .i64 i, Value.slice bA bN bC, Value.bool y3, Value.string y2] w1) →
     I1 [Value.int .i64 0, Value.slice none 0 0, Value.bool false, Value.string ⟨#[]⟩] w)
theorem vc8_eq (s : ByteArray) (w : World) (R : Value → World → Prop) : vc8 s w R = denFun ctx (bodyOf Tryd.f8) Tryd.f8.results.toList [Value.string s] w R := by kernel_rfl
theorem vc8_calls (s : ByteArray) (w : World) (R : Value → World → Prop) (h : vc8 s w R) : Calls Tryd.prog 8 #[Value.string s] w fun e w' => ∃ v, e = .returned v ∧ R v w' :=
  calls_of_den ctxOk (f := 8) (fn := Tryd.f8) (body := bodyOf Tryd.f8) (args := [Value.string s]) (by kernel_rfl) (by kernel_rfl) (by kernel_rfl) (by kernel_rfl) (Eq.mp (vc8_eq s w R) h)

/-! ### ligature/ligatureref02.Hex: function 10 -/
def vc10 (s : ByteArray) (w : World) (R : Value → World → Prop) : Prop :=
  ∀ I1 : List Value → World → Prop, (∀ i : Int, ∀ out : ByteArray, ∀ w1 : World, (CondP (decide ((i : Int) < ((s : ByteArray).size : Int)))
      (∀ w2 : World, w2 = w1.drew →
       (0 : Int) ≤ i ∧ i < ((s : ByteArray).size : Int) ∧
       (16 : Int) ≠ 0 ∧
       (0 : Int) ≤ (IntKind.wrap .u8 (Int.tdiv (btAt s i) 16)) ∧ (IntKind.wrap .u8 (Int.tdiv (btAt s i) 16)) < ((⟨#[48, 49, 50, 51, 52, 53, 54, 55, 56, 57, 97, 98, 99, 100, 101, 102]⟩ : ByteArray).size : Int) ∧
       (0 : Int) ≤ i ∧ i < ((s : ByteArray).size : Int) ∧
       (16 : Int) ≠ 0 ∧
       (0 : Int) ≤ (Int.tmod (btAt s i) 16) ∧ (Int.tmod (btAt s i) 16) < ((⟨#[48, 49, 50, 51, 52, 53, 54, 55, 56, 57, 97, 98, 99, 100, 101, 102]⟩ : ByteArray).size : Int) ∧
       ∀ w3 : World, w3 = w2.alloc (.cells #[Value.int .u8 (btAt ⟨#[48, 49, 50, 51, 52, 53, 54, 55, 56, 57, 97, 98, 99, 100, 101, 102]⟩ (IntKind.wrap .u8 (Int.tdiv (btAt s i) 16))), Value.int .u8 (btAt ⟨#[48, 49, 50, 51, 52, 53, 54, 55, 56, 57, 97, 98, 99, 100, 101, 102]⟩ (Int.tmod (btAt s i) 16))] 5) →
       ∃ s_2 : ByteArray, ∃ w4 : World, (convert 41 9 (Value.slice (some (nb w2)) 2 2)).run Tryd.prog w3 = .ok (Value.string s_2) w4 ∧
       (((out : ByteArray).size + (s_2 : ByteArray).size : Nat) : Int) ≤ IntKind.i64.max ∧
       Ar .i64 ((i : Int) + 1) (fun n =>
       I1 [Value.int .i64 n, Value.string ((out : ByteArray) ++ (s_2 : ByteArray))] w4))
      (CondP ((out : ByteArray).toList == (⟨#[]⟩ : ByteArray).toList)
         (R (Value.string ⟨#[45]⟩) w1)
         (R (Value.string out) w1))) → I1 [Value.int .i64 i, Value.string out] w1) →
  I1 [Value.int .i64 0, Value.string ⟨#[]⟩] w
theorem vc10_eq (s : ByteArray) (w : World) (R : Value → World → Prop) : vc10 s w R = denFun ctx (bodyOf Tryd.f10) Tryd.f10.results.toList [Value.string s] w R := by kernel_rfl
theorem vc10_calls (s : ByteArray) (w : World) (R : Value → World → Prop) (h : vc10 s w R) : Calls Tryd.prog 10 #[Value.string s] w fun e w' => ∃ v, e = .returned v ∧ R v w' :=
  calls_of_den ctxOk (f := 10) (fn := Tryd.f10) (body := bodyOf Tryd.f10) (args := [Value.string s]) (by kernel_rfl) (by kernel_rfl) (by kernel_rfl) (by kernel_rfl) (Eq.mp (vc10_eq s w R) h)

/-! ### ligature/ligatureref02.digit: function 22 -/
def vc22 (c : Int) (w : World) (R : Value → World → Prop) : Prop :=
  CondP (decide ((c : Int) ≥ 48))
    (CondP (decide ((c : Int) ≤ 57))
       (Ar .u8 ((c : Int) - 48) (fun n =>
        R (Value.int .i64 (IntKind.wrap .i64 n)) w))
       (CondP (decide ((c : Int) ≥ 97))
          (CondP (decide ((c : Int) ≤ 102))
             (Ar .u8 ((c : Int) - 97) (fun n_1 =>
              Ar .i64 ((IntKind.wrap .i64 n_1 : Int) + 10) (fun n_2 =>
              R (Value.int .i64 n_2) w)))
             (R (Value.int .i64 16) w))
          (R (Value.int .i64 16) w)))
    (CondP (decide ((c : Int) ≥ 97))
       (CondP (decide ((c : Int) ≤ 102))
          (Ar .u8 ((c : Int) - 97) (fun n_3 =>
           Ar .i64 ((IntKind.wrap .i64 n_3 : Int) + 10) (fun n_4 =>
           R (Value.int .i64 n_4) w)))
          (R (Value.int .i64 16) w))
       (R (Value.int .i64 16) w))
theorem vc22_eq (c : Int) (w : World) (R : Value → World → Prop) : vc22 c w R = denFun ctx (bodyOf Tryd.f22) Tryd.f22.results.toList [Value.int .u8 c] w R := by kernel_rfl
theorem vc22_calls (c : Int) (w : World) (R : Value → World → Prop) (h : vc22 c w R) : Calls Tryd.prog 22 #[Value.int .u8 c] w fun e w' => ∃ v, e = .returned v ∧ R v w' :=
  calls_of_den ctxOk (f := 22) (fn := Tryd.f22) (body := bodyOf Tryd.f22) (args := [Value.int .u8 c]) (by kernel_rfl) (by kernel_rfl) (by kernel_rfl) (by kernel_rfl) (Eq.mp (vc22_eq c w R) h)

/-! ### ligature/word.Numbers: function 20 -/
def vc20 (lA : Option Addr) (lN : Nat) (lC : Nat) (w : World) (R : Value → World → Prop) : Prop :=
  CondP ((((lN : Nat) : Int) : Int) == 0)
    (R (Value.string ⟨#[45]⟩) w)
    (∀ I1 : List Value → World → Prop, (∀ y11 : Int, ∀ outA : Option Addr, ∀ outN : Nat, ∀ outC : Nat, ∀ w1 : World, (CondP (decide ((y11 : Int) < ((lN : Nat) : Int)))
         (NilC lA (fun pa =>
          (0 : Int) ≤ y11 ∧ y11 < ((lN : Nat) : Int) ∧
          ∃ n : Int, w1.cell? (pa.add ((y11 : Int).toNat * 1)) = some (Value.int .i64 n) ∧
          Calls Tryd.prog 19 #[Value.int .i64 n] w1 (fun e2 w2 =>
          ∃ s : ByteArray, e2 = .returned (Value.string s) ∧
          ∀ w3 : World, w3 = w2.alloc (.cells #[Value.string s] 9) →
          ∃ lA_2 : Option Addr, ∃ lN_3 : Nat, ∃ lC_4 : Nat, ∃ w4 : World, (Builtin.append_ #[27, 27] 27 #[Value.slice outA outN outC, Value.slice (some (nb w2)) 1 1]).run Tryd.prog w3 = .ok (Value.slice lA_2 lN_3 lC_4) w4 ∧
          Ar .i64 ((y11 : Int) + 1) (fun n_5 =>
          I1 [Value.int .i64 n_5, Value.slice lA_2 lN_3 lC_4] w4))))
         (Calls Tryd.prog 26 #[Value.slice outA outN outC, Value.string ⟨#[32]⟩] w1 (fun e5 w5 =>
          ∃ s_6 : ByteArray, e5 = .returned (Value.string s_6) ∧
          R (Value.string s_6) w5))) → I1 [Value.int .i64 y11, Value.slice outA outN outC] w1) →
     I1 [Value.int .i64 0, Value.slice none 0 0] w)
theorem vc20_eq (lA : Option Addr) (lN : Nat) (lC : Nat) (w : World) (R : Value → World → Prop) : vc20 lA lN lC w R = denFun ctx (bodyOf Tryd.f20) Tryd.f20.results.toList [Value.slice lA lN lC] w R := by kernel_rfl
theorem vc20_calls (lA : Option Addr) (lN : Nat) (lC : Nat) (w : World) (R : Value → World → Prop) (h : vc20 lA lN lC w R) : Calls Tryd.prog 20 #[Value.slice lA lN lC] w fun e w' => ∃ v, e = .returned v ∧ R v w' :=
  calls_of_den ctxOk (f := 20) (fn := Tryd.f20) (body := bodyOf Tryd.f20) (args := [Value.slice lA lN lC]) (by kernel_rfl) (by kernel_rfl) (by kernel_rfl) (by kernel_rfl) (Eq.mp (vc20_eq lA lN lC w R) h)

/-! ### ligature/word.Number: function 19 -/
def vc19 (n : Int) (w : World) (R : Value → World → Prop) : Prop :=
  Calls Tryd.prog 29 #[Value.int .i64 n] w (fun e1 w1 =>
  ∃ s : ByteArray, e1 = .returned (Value.string s) ∧
  R (Value.string s) w1)
theorem vc19_eq (n : Int) (w : World) (R : Value → World → Prop) : vc19 n w R = denFun ctx (bodyOf Tryd.f19) Tryd.f19.results.toList [Value.int .i64 n] w R := by kernel_rfl
theorem vc19_calls (n : Int) (w : World) (R : Value → World → Prop) (h : vc19 n w R) : Calls Tryd.prog 19 #[Value.int .i64 n] w fun e w' => ∃ v, e = .returned v ∧ R v w' :=
  calls_of_den ctxOk (f := 19) (fn := Tryd.f19) (body := bodyOf Tryd.f19) (args := [Value.int .i64 n]) (by kernel_rfl) (by kernel_rfl) (by kernel_rfl) (by kernel_rfl) (Eq.mp (vc19_eq n w R) h)

/-! ### ligature/ligaturelaw02.WordLines: function 4 -/
def vc4 (first : ByteArray) (moreA : Option Addr) (moreN : Nat) (moreC : Nat) (s : ByteArray) (w : World) (R : Value → World → Prop) : Prop :=
  CondP (decide ((((first : ByteArray).size : Int) : Int) > 100))
    (Calls Tryd.prog 6 #[] w (fun e1 w1 =>
     ∃ b : Bool, e1 = .returned (Value.bool b) ∧
     R (Value.bool b) w1))
    (CondP (decide ((((moreN : Nat) : Int) : Int) > 20))
       (Calls Tryd.prog 6 #[] w (fun e2 w2 =>
        ∃ b_1 : Bool, e2 = .returned (Value.bool b_1) ∧
        R (Value.bool b_1) w2))
       (CondP (decide ((((s : ByteArray).size : Int) : Int) > 500))
          (Calls Tryd.prog 6 #[] w (fun e3 w3 =>
           ∃ b_2 : Bool, e3 = .returned (Value.bool b_2) ∧
           R (Value.bool b_2) w3))
          (∀ I3 : List Value → World → Prop, (∀ i : Int, ∀ want : ByteArray, ∀ y6 : Bool, ∀ w4 : World, (CondP (decide ((i : Int) < ((moreN : Nat) : Int)))
               (NilC moreA (fun pa =>
                (0 : Int) ≤ i ∧ i < ((moreN : Nat) : Int) ∧
                ∃ s_4 : ByteArray, w4.cell? (pa.add ((i : Int).toNat * 1)) = some (Value.string s_4) ∧
                CondP (decide ((((s_4 : ByteArray).size : Int) : Int) > 100))
                  (Calls Tryd.prog 6 #[] w4 (fun e5 w5 =>
                   ∃ b_5 : Bool, e5 = .returned (Value.bool b_5) ∧
                   R (Value.bool b_5) w5))
                  ((((want : ByteArray).size + (⟨#[32]⟩ : ByteArray).size : Nat) : Int) ≤ IntKind.i64.max ∧
                   NilC moreA (fun pa_6 =>
                   (0 : Int) ≤ i ∧ i < ((moreN : Nat) : Int) ∧
                   ∃ s_7 : ByteArray, w4.cell? (pa_6.add ((i : Int).toNat * 1)) = some (Value.string s_7) ∧
                   ((((want : ByteArray) ++ (⟨#[32]⟩ : ByteArray) : ByteArray).size + (s_7 : ByteArray).size : Nat) : Int) ≤ IntKind.i64.max ∧
                   Ar .i64 ((i : Int) + 1) (fun n =>
                   I3 [Value.int .i64 n, Value.string (((want : ByteArray) ++ (⟨#[32]⟩ : ByteArray) : ByteArray) ++ (s_7 : ByteArray)), Value.bool y6] w4)))))
               (Calls Tryd.prog 11 #[Value.string s] w4 (fun e6 w6 =>
                ∃ r0A : Option Addr, ∃ r0N : Nat, ∃ r0C : Nat, ∃ r1 : Bool, e6 = .returned (Value.tuple #[Value.slice r0A r0N r0C, Value.bool r1]) ∧
                Calls Tryd.prog 12 #[Value.string s, Value.int .u8 10] w6 (fun e7 w7 =>
                ∃ lA : Option Addr, ∃ lN : Nat, ∃ lC : Nat, e7 = .returned (Value.slice lA lN lC) ∧
                Calls Tryd.prog 13 #[Value.string first, Value.slice moreA moreN moreC] w7 (fun e8 w8 =>
                ∃ s_8 : ByteArray, e8 = .returned (Value.string s_8) ∧
                CondP ((s_8 : ByteArray).toList == (want : ByteArray).toList)
                  (Calls Tryd.prog 15 #[Value.string s] w8 (fun e9 w9 =>
                   ∃ lA_9 : Option Addr, ∃ lN_10 : Nat, ∃ lC_11 : Nat, e9 = .returned (Value.slice lA_9 lN_10 lC_11) ∧
                   Calls Tryd.prog 12 #[Value.string s, Value.int .u8 32] w9 (fun e10 w10 =>
                   ∃ lA_12 : Option Addr, ∃ lN_13 : Nat, ∃ lC_14 : Nat, e10 = .returned (Value.slice lA_12 lN_13 lC_14) ∧
                   Calls Tryd.prog 14 #[Value.slice lA_9 lN_10 lC_11, Value.slice lA_12 lN_13 lC_14] w10 (fun e11 w11 =>
                   ∃ b_15 : Bool, e11 = .returned (Value.bool b_15) ∧
                   CondP b_15
                     (Ar .i64 ((((lN : Nat) : Int) : Int) - 1) (fun n_16 =>
                      (0 : Int) ≤ ((0 : Nat) : Int) ∧ ((0 : Nat) : Int) ≤ (n_16 : Int) ∧ (n_16 : Int) ≤ ((lC : Nat) : Int) ∧ True ∧ True ∧
                      Calls Tryd.prog 14 #[Value.slice r0A r0N r0C, Value.slice (slBase lA ((0 : Nat) : Int).toNat ((lC : Nat) : Int).toNat 1) ((n_16 : Int).toNat - ((0 : Nat) : Int).toNat) (((lC : Nat) : Int).toNat - ((0 : Nat) : Int).toNat)] w11 (fun e12 w12 =>
                      ∃ b_17 : Bool, e12 = .returned (Value.bool b_17) ∧
                      CondP b_17
                        (Ar .i64 ((((lN : Nat) : Int) : Int) - 1) (fun n_18 =>
                         NilC lA (fun pa_19 =>
                         (0 : Int) ≤ n_18 ∧ n_18 < ((lN : Nat) : Int) ∧
                         ∃ s_20 : ByteArray, w12.cell? (pa_19.add ((n_18 : Int).toNat * 1)) = some (Value.string s_20) ∧
                         CondP (r1 == ((s_20 : ByteArray).toList == (⟨#[]⟩ : ByteArray).toList))
                           (Calls Tryd.prog 6 #[] w12 (fun e13 w13 =>
                            ∃ b_21 : Bool, e13 = .returned (Value.bool b_21) ∧
                            R (Value.bool b_21) w13))
                           (R (Value.bool false) w12))))
                        (R (Value.bool false) w12))))
                     (R (Value.bool false) w11)))))
                  (R (Value.bool false) w8)))))) → I3 [Value.int .i64 i, Value.string want, Value.bool y6] w4) →
           I3 [Value.int .i64 0, Value.string first, Value.bool false] w)))
theorem vc4_eq (first : ByteArray) (moreA : Option Addr) (moreN : Nat) (moreC : Nat) (s : ByteArray) (w : World) (R : Value → World → Prop) : vc4 first moreA moreN moreC s w R = denFun ctx (bodyOf Tryd.f4) Tryd.f4.results.toList [Value.string first, Value.slice moreA moreN moreC, Value.string s] w R := by kernel_rfl
theorem vc4_calls (first : ByteArray) (moreA : Option Addr) (moreN : Nat) (moreC : Nat) (s : ByteArray) (w : World) (R : Value → World → Prop) (h : vc4 first moreA moreN moreC s w R) : Calls Tryd.prog 4 #[Value.string first, Value.slice moreA moreN moreC, Value.string s] w fun e w' => ∃ v, e = .returned v ∧ R v w' :=
  calls_of_den ctxOk (f := 4) (fn := Tryd.f4) (body := bodyOf Tryd.f4) (args := [Value.string first, Value.slice moreA moreN moreC, Value.string s]) (by kernel_rfl) (by kernel_rfl) (by kernel_rfl) (by kernel_rfl) (Eq.mp (vc4_eq first moreA moreN moreC s w R) h)

/-! ### ligature/word.Line: function 13 -/
def vc13 (first : ByteArray) (moreA : Option Addr) (moreN : Nat) (moreC : Nat) (w : World) (R : Value → World → Prop) : Prop :=
  ∀ w1 : World, w1 = w.alloc (.cells #[Value.string first] 9) →
  ∃ lA : Option Addr, ∃ lN : Nat, ∃ lC : Nat, ∃ w2 : World, (Builtin.append_ #[27, 27] 27 #[Value.slice (some (nb w)) 1 1, Value.slice moreA moreN moreC]).run Tryd.prog w1 = .ok (Value.slice lA lN lC) w2 ∧
  Calls Tryd.prog 26 #[Value.slice lA lN lC, Value.string ⟨#[32]⟩] w2 (fun e3 w3 =>
  ∃ s : ByteArray, e3 = .returned (Value.string s) ∧
  R (Value.string s) w3)
theorem vc13_eq (first : ByteArray) (moreA : Option Addr) (moreN : Nat) (moreC : Nat) (w : World) (R : Value → World → Prop) : vc13 first moreA moreN moreC w R = denFun ctx (bodyOf Tryd.f13) Tryd.f13.results.toList [Value.string first, Value.slice moreA moreN moreC] w R := by kernel_rfl
theorem vc13_calls (first : ByteArray) (moreA : Option Addr) (moreN : Nat) (moreC : Nat) (w : World) (R : Value → World → Prop) (h : vc13 first moreA moreN moreC w R) : Calls Tryd.prog 13 #[Value.string first, Value.slice moreA moreN moreC] w fun e w' => ∃ v, e = .returned v ∧ R v w' :=
  calls_of_den ctxOk (f := 13) (fn := Tryd.f13) (body := bodyOf Tryd.f13) (args := [Value.string first, Value.slice moreA moreN moreC]) (by kernel_rfl) (by kernel_rfl) (by kernel_rfl) (by kernel_rfl) (Eq.mp (vc13_eq first moreA moreN moreC w R) h)

/-! ### ligature/word.Cut: function 15 -/
def vc15 (line : ByteArray) (w : World) (R : Value → World → Prop) : Prop :=
  Calls Tryd.prog 27 #[Value.string line, Value.string ⟨#[32]⟩] w (fun e1 w1 =>
  ∃ lA : Option Addr, ∃ lN : Nat, ∃ lC : Nat, e1 = .returned (Value.slice lA lN lC) ∧
  R (Value.slice lA lN lC) w1)
theorem vc15_eq (line : ByteArray) (w : World) (R : Value → World → Prop) : vc15 line w R = denFun ctx (bodyOf Tryd.f15) Tryd.f15.results.toList [Value.string line] w R := by kernel_rfl
theorem vc15_calls (line : ByteArray) (w : World) (R : Value → World → Prop) (h : vc15 line w R) : Calls Tryd.prog 15 #[Value.string line] w fun e w' => ∃ v, e = .returned v ∧ R v w' :=
  calls_of_den ctxOk (f := 15) (fn := Tryd.f15) (body := bodyOf Tryd.f15) (args := [Value.string line]) (by kernel_rfl) (by kernel_rfl) (by kernel_rfl) (by kernel_rfl) (Eq.mp (vc15_eq line w R) h)

/-! ### ligature/word.Lines: function 11 -/
def vc11 (text : ByteArray) (w : World) (R : Value → World → Prop) : Prop :=
  ∀ I1 : List Value → World → Prop, (∀ lA : Option Addr, ∀ lN : Nat, ∀ lC : Nat, ∀ y3 : Bool, ∀ y2A : Option Addr, ∀ y2N : Nat, ∀ y2C : Nat, ∀ text_2 : ByteArray, ∀ w1 : World, (Calls Tryd.prog 25 #[Value.string text_2, Value.string ⟨#[10]⟩] w1 (fun e2 w2 =>
    ∃ r0 : ByteArray, ∃ r1 : ByteArray, ∃ r2 : Bool, e2 = .returned (Value.tuple #[Value.string r0, Value.string r1, Value.bool r2]) ∧
    CondP (!r2)
      (R (Value.tuple #[Value.slice lA lN lC, Value.bool ((r0 : ByteArray).toList == (⟨#[]⟩ : ByteArray).toList)]) w2)
      (∀ w3 : World, w3 = w2.alloc (.cells #[Value.string r0] 9) →
       ∃ lA_3 : Option Addr, ∃ lN_4 : Nat, ∃ lC_5 : Nat, ∃ w4 : World, (Builtin.append_ #[27, 27] 27 #[Value.slice lA lN lC, Value.slice (some (nb w2)) 1 1]).run Tryd.prog w3 = .ok (Value.slice lA_3 lN_4 lC_5) w4 ∧
       I1 [Value.slice lA_3 lN_4 lC_5, Value.bool y3, Value.slice y2A y2N y2C, Value.string r1] w4))) → I1 [Value.slice lA lN lC, Value.bool y3, Value.slice y2A y2N y2C, Value.string text_2] w1) →
  I1 [Value.slice none 0 0, Value.bool false, Value.slice none 0 0, Value.string text] w
theorem vc11_eq (text : ByteArray) (w : World) (R : Value → World → Prop) : vc11 text w R = denFun ctx (bodyOf Tryd.f11) Tryd.f11.results.toList [Value.string text] w R := by kernel_rfl
theorem vc11_calls (text : ByteArray) (w : World) (R : Value → World → Prop) (h : vc11 text w R) : Calls Tryd.prog 11 #[Value.string text] w fun e w' => ∃ v, e = .returned v ∧ R v w' :=
  calls_of_den ctxOk (f := 11) (fn := Tryd.f11) (body := bodyOf Tryd.f11) (args := [Value.string text]) (by kernel_rfl) (by kernel_rfl) (by kernel_rfl) (by kernel_rfl) (Eq.mp (vc11_eq text w R) h)

/-! ### ligature/ligatureref02.Cut: function 12 -/
def vc12 (s : ByteArray) (at_1 : Int) (w : World) (R : Value → World → Prop) : Prop :=
  ∀ I2 : List Value → World → Prop, (∀ i : Int, ∀ from_3 : Int, ∀ lA : Option Addr, ∀ lN : Nat, ∀ lC : Nat, ∀ w1 : World, (CondP (decide ((i : Int) ≤ ((s : ByteArray).size : Int)))
      (CondP ((i : Int) == ((s : ByteArray).size : Int))
         ((0 : Int) ≤ (from_3 : Int) ∧ (from_3 : Int) ≤ (i : Int) ∧ (i : Int) ≤ ((s : ByteArray).size : Int) ∧
          ∀ w2 : World, w2 = w1.alloc (.cells #[Value.string ((s : ByteArray).extract (from_3 : Int).toNat (i : Int).toNat)] 9) →
          ∃ lA_4 : Option Addr, ∃ lN_5 : Nat, ∃ lC_6 : Nat, ∃ w3 : World, (Builtin.append_ #[27, 27] 27 #[Value.slice lA lN lC, Value.slice (some (nb w1)) 1 1]).run Tryd.prog w2 = .ok (Value.slice lA_4 lN_5 lC_6) w3 ∧
          Ar .i64 ((i : Int) + 1) (fun n =>
          Ar .i64 ((i : Int) + 1) (fun n_7 =>
          I2 [Value.int .i64 n_7, Value.int .i64 n, Value.slice lA_4 lN_5 lC_6] w3)))
         ((0 : Int) ≤ i ∧ i < ((s : ByteArray).size : Int) ∧
          CondP ((btAt s i : Int) == at_1)
            ((0 : Int) ≤ (from_3 : Int) ∧ (from_3 : Int) ≤ (i : Int) ∧ (i : Int) ≤ ((s : ByteArray).size : Int) ∧
             ∀ w4 : World, w4 = w1.alloc (.cells #[Value.string ((s : ByteArray).extract (from_3 : Int).toNat (i : Int).toNat)] 9) →
             ∃ lA_8 : Option Addr, ∃ lN_9 : Nat, ∃ lC_10 : Nat, ∃ w5 : World, (Builtin.append_ #[27, 27] 27 #[Value.slice lA lN lC, Value.slice (some (nb w1)) 1 1]).run Tryd.prog w4 = .ok (Value.slice lA_8 lN_9 lC_10) w5 ∧
             Ar .i64 ((i : Int) + 1) (fun n_11 =>
             Ar .i64 ((i : Int) + 1) (fun n_12 =>
             I2 [Value.int .i64 n_12, Value.int .i64 n_11, Value.slice lA_8 lN_9 lC_10] w5)))
            (Ar .i64 ((i : Int) + 1) (fun n_13 =>
             I2 [Value.int .i64 n_13, Value.int .i64 from_3, Value.slice lA lN lC] w1))))
      (R (Value.slice lA lN lC) w1)) → I2 [Value.int .i64 i, Value.int .i64 from_3, Value.slice lA lN lC] w1) →
  I2 [Value.int .i64 0, Value.int .i64 0, Value.slice none 0 0] w
theorem vc12_eq (s : ByteArray) (at_1 : Int) (w : World) (R : Value → World → Prop) : vc12 s at_1 w R = denFun ctx (bodyOf Tryd.f12) Tryd.f12.results.toList [Value.string s, Value.int .u8 at_1] w R := by kernel_rfl
theorem vc12_calls (s : ByteArray) (at_1 : Int) (w : World) (R : Value → World → Prop) (h : vc12 s at_1 w R) : Calls Tryd.prog 12 #[Value.string s, Value.int .u8 at_1] w fun e w' => ∃ v, e = .returned v ∧ R v w' :=
  calls_of_den ctxOk (f := 12) (fn := Tryd.f12) (body := bodyOf Tryd.f12) (args := [Value.string s, Value.int .u8 at_1]) (by kernel_rfl) (by kernel_rfl) (by kernel_rfl) (by kernel_rfl) (Eq.mp (vc12_eq s at_1 w R) h)

/-! ### ligature/ligatureref02.Texts: function 14 -/
def vc14 (aA : Option Addr) (aN : Nat) (aC : Nat) (bA : Option Addr) (bN : Nat) (bC : Nat) (w : World) (R : Value → World → Prop) : Prop :=
  CondP ((((aN : Nat) : Int) : Int) != ((bN : Nat) : Int))
    (R (Value.bool false) w)
    (∀ I1 : List Value → World → Prop, (∀ i : Int, ∀ y4 : Bool, ∀ w1 : World, (CondP (decide ((i : Int) < ((aN : Nat) : Int)))
         (∀ w2 : World, w2 = w1.drew →
          NilC aA (fun pa =>
          (0 : Int) ≤ i ∧ i < ((aN : Nat) : Int) ∧
          ∃ s : ByteArray, w2.cell? (pa.add ((i : Int).toNat * 1)) = some (Value.string s) ∧
          NilC bA (fun pa_2 =>
          (0 : Int) ≤ i ∧ i < ((bN : Nat) : Int) ∧
          ∃ s_3 : ByteArray, w2.cell? (pa_2.add ((i : Int).toNat * 1)) = some (Value.string s_3) ∧
          CondP (!((s : ByteArray).toList == (s_3 : ByteArray).toList))
            (R (Value.bool false) w2)
            (Ar .i64 ((i : Int) + 1) (fun n =>
             I1 [Value.int .i64 n, Value.bool y4] w2)))))
         (R (Value.bool true) w1)) → I1 [Value.int .i64 i, Value.bool y4] w1) →
     I1 [Value.int .i64 0, Value.bool false] w)
theorem vc14_eq (aA : Option Addr) (aN : Nat) (aC : Nat) (bA : Option Addr) (bN : Nat) (bC : Nat) (w : World) (R : Value → World → Prop) : vc14 aA aN aC bA bN bC w R = denFun ctx (bodyOf Tryd.f14) Tryd.f14.results.toList [Value.slice aA aN aC, Value.slice bA bN bC] w R := by kernel_rfl
theorem vc14_calls (aA : Option Addr) (aN : Nat) (aC : Nat) (bA : Option Addr) (bN : Nat) (bC : Nat) (w : World) (R : Value → World → Prop) (h : vc14 aA aN aC bA bN bC w R) : Calls Tryd.prog 14 #[Value.slice aA aN aC, Value.slice bA bN bC] w fun e w' => ∃ v, e = .returned v ∧ R v w' :=
  calls_of_den ctxOk (f := 14) (fn := Tryd.f14) (body := bodyOf Tryd.f14) (args := [Value.slice aA aN aC, Value.slice bA bN bC]) (by kernel_rfl) (by kernel_rfl) (by kernel_rfl) (by kernel_rfl) (Eq.mp (vc14_eq aA aN aC bA bN bC w R) h)

/-! ### ligature/ligaturelaw02.WordNumbers: function 5 -/
def vc5 (n : Int) (s : ByteArray) (most : Int) (lA : Option Addr) (lN : Nat) (lC : Nat) (w : World) (R : Value → World → Prop) : Prop :=
  CondP (decide ((((s : ByteArray).size : Int) : Int) > 100))
    (Calls Tryd.prog 6 #[] w (fun e1 w1 =>
     ∃ b : Bool, e1 = .returned (Value.bool b) ∧
     R (Value.bool b) w1))
    (CondP (decide ((((lN : Nat) : Int) : Int) > 30))
       (Calls Tryd.prog 6 #[] w (fun e2 w2 =>
        ∃ b_1 : Bool, e2 = .returned (Value.bool b_1) ∧
        R (Value.bool b_1) w2))
       (Calls Tryd.prog 16 #[Value.string s, Value.int .i64 most] w (fun e3 w3 =>
        ∃ r0 : Int, ∃ r1 : Bool, e3 = .returned (Value.tuple #[Value.int .i64 r0, Value.bool r1]) ∧
        Calls Tryd.prog 17 #[Value.string s, Value.int .i64 most] w3 (fun e4 w4 =>
        ∃ r0_2 : Int, ∃ r1_3 : Bool, e4 = .returned (Value.tuple #[Value.int .i64 r0_2, Value.bool r1_3]) ∧
        ∀ I4 : List Value → World → Prop, (∀ i : Int, ∀ want : ByteArray, ∀ w5 : World, (CondP (decide ((i : Int) < ((lN : Nat) : Int)))
            (∀ J5 : List Value → World → Prop, (∀ want_6 : ByteArray, ∀ w6 : World, (NilC lA (fun pa =>
               (0 : Int) ≤ i ∧ i < ((lN : Nat) : Int) ∧
               ∃ n_7 : Int, w6.cell? (pa.add ((i : Int).toNat * 1)) = some (Value.int .i64 n_7) ∧
               Calls Tryd.prog 18 #[Value.int .i64 n_7] w6 (fun e7 w7 =>
               ∃ s_8 : ByteArray, e7 = .returned (Value.string s_8) ∧
               (((want_6 : ByteArray).size + (s_8 : ByteArray).size : Nat) : Int) ≤ IntKind.i64.max ∧
               Ar .i64 ((i : Int) + 1) (fun n_9 =>
               I4 [Value.int .i64 n_9, Value.string ((want_6 : ByteArray) ++ (s_8 : ByteArray))] w7)))) → J5 [Value.string want_6] w6) →
             CondP (decide ((i : Int) > 0))
               ((((want : ByteArray).size + (⟨#[32]⟩ : ByteArray).size : Nat) : Int) ≤ IntKind.i64.max ∧
                J5 [Value.string ((want : ByteArray) ++ (⟨#[32]⟩ : ByteArray))] w5)
               (J5 [Value.string want] w5))
            (∀ J10 : List Value → World → Prop, (∀ want_11 : ByteArray, ∀ w8 : World, (Calls Tryd.prog 19 #[Value.int .i64 n] w8 (fun e9 w9 =>
               ∃ s_12 : ByteArray, e9 = .returned (Value.string s_12) ∧
               Calls Tryd.prog 18 #[Value.int .i64 n] w9 (fun e10 w10 =>
               ∃ s_13 : ByteArray, e10 = .returned (Value.string s_13) ∧
               CondP ((s_12 : ByteArray).toList == (s_13 : ByteArray).toList)
                 (CondP ((r0 : Int) == r0_2)
                    (CondP (r1 == r1_3)
                       (Calls Tryd.prog 20 #[Value.slice lA lN lC] w10 (fun e11 w11 =>
                        ∃ s_14 : ByteArray, e11 = .returned (Value.string s_14) ∧
                        CondP ((s_14 : ByteArray).toList == (want_11 : ByteArray).toList)
                          (Calls Tryd.prog 6 #[] w11 (fun e12 w12 =>
                           ∃ b_15 : Bool, e12 = .returned (Value.bool b_15) ∧
                           R (Value.bool b_15) w12))
                          (R (Value.bool false) w11)))
                       (R (Value.bool false) w10))
                    (R (Value.bool false) w10))
                 (R (Value.bool false) w10)))) → J10 [Value.string want_11] w8) →
             CondP ((((lN : Nat) : Int) : Int) == 0)
               (J10 [Value.string ⟨#[45]⟩] w5)
               (J10 [Value.string want] w5))) → I4 [Value.int .i64 i, Value.string want] w5) →
        I4 [Value.int .i64 0, Value.string ⟨#[]⟩] w4))))
theorem vc5_eq (n : Int) (s : ByteArray) (most : Int) (lA : Option Addr) (lN : Nat) (lC : Nat) (w : World) (R : Value → World → Prop) : vc5 n s most lA lN lC w R = denFun ctx (bodyOf Tryd.f5) Tryd.f5.results.toList [Value.int .i64 n, Value.string s, Value.int .i64 most, Value.slice lA lN lC] w R := by kernel_rfl
theorem vc5_calls (n : Int) (s : ByteArray) (most : Int) (lA : Option Addr) (lN : Nat) (lC : Nat) (w : World) (R : Value → World → Prop) (h : vc5 n s most lA lN lC w R) : Calls Tryd.prog 5 #[Value.int .i64 n, Value.string s, Value.int .i64 most, Value.slice lA lN lC] w fun e w' => ∃ v, e = .returned v ∧ R v w' :=
  calls_of_den ctxOk (f := 5) (fn := Tryd.f5) (body := bodyOf Tryd.f5) (args := [Value.int .i64 n, Value.string s, Value.int .i64 most, Value.slice lA lN lC]) (by kernel_rfl) (by kernel_rfl) (by kernel_rfl) (by kernel_rfl) (Eq.mp (vc5_eq n s most lA lN lC w R) h)

/-! ### ligature/word.Parse: function 16 -/
def vc16 (s : ByteArray) (most : Int) (w : World) (R : Value → World → Prop) : Prop :=
  Calls Tryd.prog 28 #[Value.string s] w (fun e1 w1 =>
  ∃ r0 : Int, ∃ r1 : Value, e1 = .returned (Value.tuple #[Value.int .i64 r0, r1]) ∧
  ∃ b : Bool, ∃ w2 : World, (do eqGuard .neq 47 (.tmp 13) (.const (Value.nilIface)) r1 Value.nilIface; binOp .neq 47 r1 Value.nilIface).run Tryd.prog w1 = .ok (Value.bool b) w2 ∧
  CondP b
    (R (Value.tuple #[Value.int .i64 0, Value.bool false]) w2)
    (CondP (decide ((r0 : Int) < 0))
       (R (Value.tuple #[Value.int .i64 0, Value.bool false]) w2)
       (CondP (decide ((r0 : Int) > most))
          (R (Value.tuple #[Value.int .i64 0, Value.bool false]) w2)
          (Calls Tryd.prog 19 #[Value.int .i64 r0] w2 (fun e3 w3 =>
           ∃ s_1 : ByteArray, e3 = .returned (Value.string s_1) ∧
           CondP (!((s_1 : ByteArray).toList == (s : ByteArray).toList))
             (R (Value.tuple #[Value.int .i64 0, Value.bool false]) w3)
             (R (Value.tuple #[Value.int .i64 r0, Value.bool true]) w3))))))
theorem vc16_eq (s : ByteArray) (most : Int) (w : World) (R : Value → World → Prop) : vc16 s most w R = denFun ctx (bodyOf Tryd.f16) Tryd.f16.results.toList [Value.string s, Value.int .i64 most] w R := by kernel_rfl
theorem vc16_calls (s : ByteArray) (most : Int) (w : World) (R : Value → World → Prop) (h : vc16 s most w R) : Calls Tryd.prog 16 #[Value.string s, Value.int .i64 most] w fun e w' => ∃ v, e = .returned v ∧ R v w' :=
  calls_of_den ctxOk (f := 16) (fn := Tryd.f16) (body := bodyOf Tryd.f16) (args := [Value.string s, Value.int .i64 most]) (by kernel_rfl) (by kernel_rfl) (by kernel_rfl) (by kernel_rfl) (Eq.mp (vc16_eq s most w R) h)

/-! ### ligature/ligatureref02.Parse: function 17 -/
def vc17 (s : ByteArray) (most : Int) (w : World) (R : Value → World → Prop) : Prop :=
  CondP ((((s : ByteArray).size : Int) : Int) == 0)
    (R (Value.tuple #[Value.int .i64 0, Value.bool false]) w)
    (CondP (decide ((((s : ByteArray).size : Int) : Int) > 19))
       (R (Value.tuple #[Value.int .i64 0, Value.bool false]) w)
       (CondP (decide ((((s : ByteArray).size : Int) : Int) > 1))
          ((0 : Int) ≤ 0 ∧ 0 < ((s : ByteArray).size : Int) ∧
           CondP ((btAt s 0 : Int) == 48)
             (R (Value.tuple #[Value.int .i64 0, Value.bool false]) w)
             (∀ I1 : List Value → World → Prop, (∀ i : Int, ∀ n : Int, ∀ y5 : Bool, ∀ y4 : Int, ∀ w1 : World, (CondP (decide ((i : Int) < ((s : ByteArray).size : Int)))
                  ((0 : Int) ≤ i ∧ i < ((s : ByteArray).size : Int) ∧
                   CondP (decide ((btAt s i : Int) < 48))
                     (R (Value.tuple #[Value.int .i64 0, Value.bool false]) w1)
                     ((0 : Int) ≤ i ∧ i < ((s : ByteArray).size : Int) ∧
                      CondP (decide ((btAt s i : Int) > 57))
                        (R (Value.tuple #[Value.int .i64 0, Value.bool false]) w1)
                        ((0 : Int) ≤ i ∧ i < ((s : ByteArray).size : Int) ∧
                         Ar .u8 ((btAt s i : Int) - 48) (fun n_2 =>
                         Ar .i64 ((9223372036854775807 : Int) - (IntKind.wrap .i64 n_2)) (fun n_3 =>
                         (10 : Int) ≠ 0 ∧
                         CondP (decide ((n : Int) > (IntKind.wrap .i64 (Int.tdiv n_3 10))))
                           (R (Value.tuple #[Value.int .i64 0, Value.bool false]) w1)
                           (Ar .i64 ((10 : Int) * n) (fun n_4 =>
                            (0 : Int) ≤ i ∧ i < ((s : ByteArray).size : Int) ∧
                            Ar .u8 ((btAt s i : Int) - 48) (fun n_5 =>
                            Ar .i64 ((n_4 : Int) + (IntKind.wrap .i64 n_5)) (fun n_6 =>
                            Ar .i64 ((i : Int) + 1) (fun n_7 =>
                            I1 [Value.int .i64 n_7, Value.int .i64 n_6, Value.bool y5, Value.int .i64 y4] w1))))))))))
                  (CondP (decide ((n : Int) > most))
                     (R (Value.tuple #[Value.int .i64 0, Value.bool false]) w1)
                     (R (Value.tuple #[Value.int .i64 n, Value.bool true]) w1))) → I1 [Value.int .i64 i, Value.int .i64 n, Value.bool y5, Value.int .i64 y4] w1) →
              I1 [Value.int .i64 0, Value.int .i64 0, Value.bool false, Value.int .i64 0] w))
          (∀ I8 : List Value → World → Prop, (∀ i_9 : Int, ∀ n_10 : Int, ∀ y5_11 : Bool, ∀ y4_12 : Int, ∀ w2 : World, (CondP (decide ((i_9 : Int) < ((s : ByteArray).size : Int)))
               ((0 : Int) ≤ i_9 ∧ i_9 < ((s : ByteArray).size : Int) ∧
                CondP (decide ((btAt s i_9 : Int) < 48))
                  (R (Value.tuple #[Value.int .i64 0, Value.bool false]) w2)
                  ((0 : Int) ≤ i_9 ∧ i_9 < ((s : ByteArray).size : Int) ∧
                   CondP (decide ((btAt s i_9 : Int) > 57))
                     (R (Value.tuple #[Value.int .i64 0, Value.bool false]) w2)
                     ((0 : Int) ≤ i_9 ∧ i_9 < ((s : ByteArray).size : Int) ∧
                      Ar .u8 ((btAt s i_9 : Int) - 48) (fun n_13 =>
                      Ar .i64 ((9223372036854775807 : Int) - (IntKind.wrap .i64 n_13)) (fun n_14 =>
                      (10 : Int) ≠ 0 ∧
                      CondP (decide ((n_10 : Int) > (IntKind.wrap .i64 (Int.tdiv n_14 10))))
                        (R (Value.tuple #[Value.int .i64 0, Value.bool false]) w2)
                        (Ar .i64 ((10 : Int) * n_10) (fun n_15 =>
                         (0 : Int) ≤ i_9 ∧ i_9 < ((s : ByteArray).size : Int) ∧
                         Ar .u8 ((btAt s i_9 : Int) - 48) (fun n_16 =>
                         Ar .i64 ((n_15 : Int) + (IntKind.wrap .i64 n_16)) (fun n_17 =>
                         Ar .i64 ((i_9 : Int) + 1) (fun n_18 =>
                         I8 [Value.int .i64 n_18, Value.int .i64 n_17, Value.bool y5_11, Value.int .i64 y4_12] w2))))))))))
               (CondP (decide ((n_10 : Int) > most))
                  (R (Value.tuple #[Value.int .i64 0, Value.bool false]) w2)
                  (R (Value.tuple #[Value.int .i64 n_10, Value.bool true]) w2))) → I8 [Value.int .i64 i_9, Value.int .i64 n_10, Value.bool y5_11, Value.int .i64 y4_12] w2) →
           I8 [Value.int .i64 0, Value.int .i64 0, Value.bool false, Value.int .i64 0] w)))
theorem vc17_eq (s : ByteArray) (most : Int) (w : World) (R : Value → World → Prop) : vc17 s most w R = denFun ctx (bodyOf Tryd.f17) Tryd.f17.results.toList [Value.string s, Value.int .i64 most] w R := by kernel_rfl
theorem vc17_calls (s : ByteArray) (most : Int) (w : World) (R : Value → World → Prop) (h : vc17 s most w R) : Calls Tryd.prog 17 #[Value.string s, Value.int .i64 most] w fun e w' => ∃ v, e = .returned v ∧ R v w' :=
  calls_of_den ctxOk (f := 17) (fn := Tryd.f17) (body := bodyOf Tryd.f17) (args := [Value.string s, Value.int .i64 most]) (by kernel_rfl) (by kernel_rfl) (by kernel_rfl) (by kernel_rfl) (Eq.mp (vc17_eq s most w R) h)

/-! ### ligature/ligatureref02.Number: function 18 -/
def vc18 (n : Int) (w : World) (R : Value → World → Prop) : Prop :=
  CondP (decide ((n : Int) ≥ 0))
    (∀ I1 : List Value → World → Prop, (∀ s : ByteArray, ∀ n_2 : Int, ∀ w1 : World, (CondP (decide ((n_2 : Int) > 0))
         ((10 : Int) ≠ 0 ∧
          Ar .i64 ((48 : Int) + (Int.tmod n_2 10)) (fun n_3 =>
          ∀ w2 : World, w2 = w1.alloc (.cells #[Value.int .u8 (IntKind.wrap .u8 n_3)] 5) →
          ∃ s_4 : ByteArray, ∃ w3 : World, (convert 41 9 (Value.slice (some (nb w1)) 1 1)).run Tryd.prog w2 = .ok (Value.string s_4) w3 ∧
          (((s_4 : ByteArray).size + (s : ByteArray).size : Nat) : Int) ≤ IntKind.i64.max ∧
          (10 : Int) ≠ 0 ∧
          I1 [Value.string ((s_4 : ByteArray) ++ (s : ByteArray)), Value.int .i64 (IntKind.wrap .i64 (Int.tdiv n_2 10))] w3))
         (CondP ((s : ByteArray).toList == (⟨#[]⟩ : ByteArray).toList)
            ((10 : Int) ≠ 0 ∧
             Ar .i64 ((48 : Int) + (Int.tmod n_2 10)) (fun n_5 =>
             ∀ w4 : World, w4 = w1.alloc (.cells #[Value.int .u8 (IntKind.wrap .u8 n_5)] 5) →
             ∃ s_6 : ByteArray, ∃ w5 : World, (convert 41 9 (Value.slice (some (nb w1)) 1 1)).run Tryd.prog w4 = .ok (Value.string s_6) w5 ∧
             (((s_6 : ByteArray).size + (s : ByteArray).size : Nat) : Int) ≤ IntKind.i64.max ∧
             (10 : Int) ≠ 0 ∧
             I1 [Value.string ((s_6 : ByteArray) ++ (s : ByteArray)), Value.int .i64 (IntKind.wrap .i64 (Int.tdiv n_2 10))] w5))
            (R (Value.string s) w1))) → I1 [Value.string s, Value.int .i64 n_2] w1) →
     I1 [Value.string ⟨#[]⟩, Value.int .i64 n] w)
    (∀ I7 : List Value → World → Prop, (∀ s_8 : ByteArray, ∀ n_9 : Int, ∀ w6 : World, (CondP (decide ((n_9 : Int) < 0))
         ((10 : Int) ≠ 0 ∧
          Ar .i64 ((48 : Int) - (Int.tmod n_9 10)) (fun n_10 =>
          ∀ w7 : World, w7 = w6.alloc (.cells #[Value.int .u8 (IntKind.wrap .u8 n_10)] 5) →
          ∃ s_11 : ByteArray, ∃ w8 : World, (convert 41 9 (Value.slice (some (nb w6)) 1 1)).run Tryd.prog w7 = .ok (Value.string s_11) w8 ∧
          (((s_11 : ByteArray).size + (s_8 : ByteArray).size : Nat) : Int) ≤ IntKind.i64.max ∧
          (10 : Int) ≠ 0 ∧
          I7 [Value.string ((s_11 : ByteArray) ++ (s_8 : ByteArray)), Value.int .i64 (IntKind.wrap .i64 (Int.tdiv n_9 10))] w8))
         ((((⟨#[45]⟩ : ByteArray).size + (s_8 : ByteArray).size : Nat) : Int) ≤ IntKind.i64.max ∧
          R (Value.string ((⟨#[45]⟩ : ByteArray) ++ (s_8 : ByteArray))) w6)) → I7 [Value.string s_8, Value.int .i64 n_9] w6) →
     I7 [Value.string ⟨#[]⟩, Value.int .i64 n] w)
theorem vc18_eq (n : Int) (w : World) (R : Value → World → Prop) : vc18 n w R = denFun ctx (bodyOf Tryd.f18) Tryd.f18.results.toList [Value.int .i64 n] w R := by kernel_rfl
theorem vc18_calls (n : Int) (w : World) (R : Value → World → Prop) (h : vc18 n w R) : Calls Tryd.prog 18 #[Value.int .i64 n] w fun e w' => ∃ v, e = .returned v ∧ R v w' :=
  calls_of_den ctxOk (f := 18) (fn := Tryd.f18) (body := bodyOf Tryd.f18) (args := [Value.int .i64 n]) (by kernel_rfl) (by kernel_rfl) (by kernel_rfl) (by kernel_rfl) (Eq.mp (vc18_eq n w R) h)

end Go.Proofs.YtibjkknfgppogaaDoor.Eng
