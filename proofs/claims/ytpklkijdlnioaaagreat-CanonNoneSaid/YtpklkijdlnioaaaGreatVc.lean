/- What these functions owe, printed by a program of this repo out of the translation. -/
import Derived.Test.YtpklkijdlnioaaaGreatTab
import Derived.Test.YtpklkijdlnioaaaGreatVcp0
set_option linter.unusedVariables false
set_option maxRecDepth 100000
namespace Go.Proofs.YtpklkijdlnioaaaGreat.Eng
open Go

/-! ### (ligature/heap.key).less: function 240 -/
def vc240 (a0 : Int) (a1 : Int) (a2 : Int) (b0 : Int) (b1 : Int) (b2 : Int) (w : World) (R : Value → World → Prop) : Prop :=
  ∀ w1 : World, w1 = w.alloc (.cells #[Value.int .i64 a0, Value.int .i64 a1, Value.int .i64 a2] 309) →
  ∀ w2 : World, w2 = w1.alloc (.cells #[Value.int .i64 b0, Value.int .i64 b1, Value.int .i64 b2] 309) →
  ∃ n : Int, w2.cell? ((nb w).add 0) = some (Value.int .i64 n) ∧
  ∃ n_1 : Int, w2.cell? ((nb w1).add 0) = some (Value.int .i64 n_1) ∧
  CondP ((n : Int) != n_1)
    (∃ n_2 : Int, w2.cell? ((nb w).add 0) = some (Value.int .i64 n_2) ∧
     ∃ n_3 : Int, w2.cell? ((nb w1).add 0) = some (Value.int .i64 n_3) ∧
     R (Value.bool (decide ((n_2 : Int) < n_3))) w2)
    (∃ n_4 : Int, w2.cell? ((nb w).add 1) = some (Value.int .i64 n_4) ∧
     ∃ n_5 : Int, w2.cell? ((nb w1).add 1) = some (Value.int .i64 n_5) ∧
     CondP ((n_4 : Int) != n_5)
       (∃ n_6 : Int, w2.cell? ((nb w).add 1) = some (Value.int .i64 n_6) ∧
        ∃ n_7 : Int, w2.cell? ((nb w1).add 1) = some (Value.int .i64 n_7) ∧
        R (Value.bool (decide ((n_6 : Int) < n_7))) w2)
       (∃ n_8 : Int, w2.cell? ((nb w).add 2) = some (Value.int .i64 n_8) ∧
        ∃ n_9 : Int, w2.cell? ((nb w1).add 2) = some (Value.int .i64 n_9) ∧
        R (Value.bool (decide ((n_8 : Int) < n_9))) w2))
theorem vc240_eq (a0 : Int) (a1 : Int) (a2 : Int) (b0 : Int) (b1 : Int) (b2 : Int) (w : World) (R : Value → World → Prop) : vc240 a0 a1 a2 b0 b1 b2 w R = denFun ctx (bodyOf Tryz.f240) Tryz.f240.results.toList [Value.agg #[Value.int .i64 a0, Value.int .i64 a1, Value.int .i64 a2], Value.agg #[Value.int .i64 b0, Value.int .i64 b1, Value.int .i64 b2]] w R := by kernel_rfl
theorem vc240_calls (a0 : Int) (a1 : Int) (a2 : Int) (b0 : Int) (b1 : Int) (b2 : Int) (w : World) (R : Value → World → Prop) (h : vc240 a0 a1 a2 b0 b1 b2 w R) : Calls Tryz.prog 240 #[Value.agg #[Value.int .i64 a0, Value.int .i64 a1, Value.int .i64 a2], Value.agg #[Value.int .i64 b0, Value.int .i64 b1, Value.int .i64 b2]] w fun e w' => ∃ v, e = .returned v ∧ R v w' :=
  calls_of_den ctxOk (f := 240) (fn := Tryz.f240) (body := bodyOf Tryz.f240) (args := [Value.agg #[Value.int .i64 a0, Value.int .i64 a1, Value.int .i64 a2], Value.agg #[Value.int .i64 b0, Value.int .i64 b1, Value.int .i64 b2]]) (by kernel_rfl) (by kernel_rfl) (by kernel_rfl) (by kernel_rfl) (Eq.mp (vc240_eq a0 a1 a2 b0 b1 b2 w R) h)

/-! ### (ligature/canon.walker).First: function 256 -/
def vc256 (w0_ : Option Addr) (idsA : Option Addr) (idsN : Nat) (idsC : Nat) (w : World) (R : Value → World → Prop) : Prop :=
  ∀ w1 : World, w1 = w.alloc (.cells #[Value.pointer w0_] 88) →
  ∃ p : Option Addr, w1.cell? ((nb w).add 0) = some (Value.pointer p) ∧
  Calls Tryz.prog 95 #[Value.pointer p, Value.slice idsA idsN idsC] w1 (fun e2 w2 =>
  ∃ r0 : Int, ∃ r1 : Bool, e2 = .returned (Value.tuple #[Value.int .i64 r0, Value.bool r1]) ∧
  R (Value.tuple #[Value.int .i64 r0, Value.bool r1]) w2)
theorem vc256_eq (w0_ : Option Addr) (idsA : Option Addr) (idsN : Nat) (idsC : Nat) (w : World) (R : Value → World → Prop) : vc256 w0_ idsA idsN idsC w R = denFun ctx (bodyOf Tryz.f256) Tryz.f256.results.toList [Value.agg #[Value.pointer w0_], Value.slice idsA idsN idsC] w R := by kernel_rfl
theorem vc256_calls (w0_ : Option Addr) (idsA : Option Addr) (idsN : Nat) (idsC : Nat) (w : World) (R : Value → World → Prop) (h : vc256 w0_ idsA idsN idsC w R) : Calls Tryz.prog 256 #[Value.agg #[Value.pointer w0_], Value.slice idsA idsN idsC] w fun e w' => ∃ v, e = .returned v ∧ R v w' :=
  calls_of_den ctxOk (f := 256) (fn := Tryz.f256) (body := bodyOf Tryz.f256) (args := [Value.agg #[Value.pointer w0_], Value.slice idsA idsN idsC]) (by kernel_rfl) (by kernel_rfl) (by kernel_rfl) (by kernel_rfl) (Eq.mp (vc256_eq w0_ idsA idsN idsC w R) h)

/-! ### (*ligature/mark.Set).Len: function 268 -/
def vc268 (s : Option Addr) (w : World) (R : Value → World → Prop) : Prop :=
  CondP (Option.isNone s)
    (R (Value.int .i64 0) w)
    (NilC s (fun pa =>
     ∃ lA : Option Addr, ∃ lN : Nat, ∃ lC : Nat, w.cell? (pa.add 0) = some (Value.slice lA lN lC) ∧
     R (Value.int .i64 ((lN : Nat) : Int)) w))
theorem vc268_eq (s : Option Addr) (w : World) (R : Value → World → Prop) : vc268 s w R = denFun ctx (bodyOf Tryz.f268) Tryz.f268.results.toList [Value.pointer s] w R := by kernel_rfl
theorem vc268_calls (s : Option Addr) (w : World) (R : Value → World → Prop) (h : vc268 s w R) : Calls Tryz.prog 268 #[Value.pointer s] w fun e w' => ∃ v, e = .returned v ∧ R v w' :=
  calls_of_den ctxOk (f := 268) (fn := Tryz.f268) (body := bodyOf Tryz.f268) (args := [Value.pointer s]) (by kernel_rfl) (by kernel_rfl) (by kernel_rfl) (by kernel_rfl) (Eq.mp (vc268_eq s w R) h)

/-! ### (*ligature/mark.Set).Id: function 273 -/
def vc273 (s : Option Addr) (mark : Int) (w : World) (R : Value → World → Prop) : Prop :=
  Calls Tryz.prog 275 #[Value.pointer s, Value.int .i64 mark] w (fun e1 w1 =>
  ∃ r00 : Int, ∃ r01 : ByteArray, ∃ r1 : Bool, e1 = .returned (Value.tuple #[Value.agg #[Value.int .i64 r00, Value.string r01], Value.bool r1]) ∧
  ∀ w2 : World, w2 = w1.alloc (.cells #[Value.int .i64 0, Value.string ⟨#[]⟩] 93) →
  StoreP w2 (nb w1) (fun w3 =>
  ∃ n : Int, w3.cell? ((nb w1).add 0) = some (Value.int .i64 n) ∧
  R (Value.tuple #[Value.int .i64 n, Value.bool r1]) w3) [Value.int .i64 r00, Value.string r01] 0)
theorem vc273_eq (s : Option Addr) (mark : Int) (w : World) (R : Value → World → Prop) : vc273 s mark w R = denFun ctx (bodyOf Tryz.f273) Tryz.f273.results.toList [Value.pointer s, Value.int .i64 mark] w R := by kernel_rfl
theorem vc273_calls (s : Option Addr) (mark : Int) (w : World) (R : Value → World → Prop) (h : vc273 s mark w R) : Calls Tryz.prog 273 #[Value.pointer s, Value.int .i64 mark] w fun e w' => ∃ v, e = .returned v ∧ R v w' :=
  calls_of_den ctxOk (f := 273) (fn := Tryz.f273) (body := bodyOf Tryz.f273) (args := [Value.pointer s, Value.int .i64 mark]) (by kernel_rfl) (by kernel_rfl) (by kernel_rfl) (by kernel_rfl) (Eq.mp (vc273_eq s mark w R) h)

/-! ### (*ligature/mark.Set).has: function 275 -/
def vc275 (s : Option Addr) (mark : Int) (w : World) (R : Value → World → Prop) : Prop :=
  ∀ w1 : World, w1 = w.alloc (.cells #[Value.int .i64 0, Value.string ⟨#[]⟩] 93) →
  CondP (decide ((mark : Int) ≥ 0))
    (StoreP w1 (nb w) (fun w2 =>
     ∃ res0 : Int, ∃ res1 : ByteArray, (w2.cell? (nb w) = some (Value.int .i64 res0) ∧ w2.cell? ((nb w).add 1) = some (Value.string res1) ∧ True) ∧
     R (Value.tuple #[Value.agg #[Value.int .i64 res0, Value.string res1], Value.bool false]) w2) [Value.int .i64 0, Value.string ⟨#[]⟩] 0)
    (Calls Tryz.prog 268 #[Value.pointer s] w1 (fun e3 w3 =>
     ∃ n : Int, e3 = .returned (Value.int .i64 n) ∧
     Ar .i64 (0 - n) (fun n_1 =>
     CondP (decide ((mark : Int) < n_1))
       (StoreP w3 (nb w) (fun w4 =>
        ∃ res0_2 : Int, ∃ res1_3 : ByteArray, (w4.cell? (nb w) = some (Value.int .i64 res0_2) ∧ w4.cell? ((nb w).add 1) = some (Value.string res1_3) ∧ True) ∧
        R (Value.tuple #[Value.agg #[Value.int .i64 res0_2, Value.string res1_3], Value.bool false]) w4) [Value.int .i64 0, Value.string ⟨#[]⟩] 0)
       (NilC s (fun pa =>
        ∃ lA : Option Addr, ∃ lN : Nat, ∃ lC : Nat, w3.cell? (pa.add 0) = some (Value.slice lA lN lC) ∧
        Ar .i64 ((-1 : Int) - mark) (fun n_4 =>
        NilC lA (fun pa_5 =>
        (0 : Int) ≤ n_4 ∧ n_4 < ((lN : Nat) : Int) ∧
        ∃ g0 : Int, ∃ g1 : ByteArray, (w3.cell? (pa_5.add ((n_4 : Int).toNat * 2)) = some (Value.int .i64 g0) ∧ w3.cell? ((pa_5.add ((n_4 : Int).toNat * 2)).add 1) = some (Value.string g1) ∧ True) ∧
        StoreP w3 (nb w) (fun w5 =>
        ∃ res0_6 : Int, ∃ res1_7 : ByteArray, (w5.cell? (nb w) = some (Value.int .i64 res0_6) ∧ w5.cell? ((nb w).add 1) = some (Value.string res1_7) ∧ True) ∧
        R (Value.tuple #[Value.agg #[Value.int .i64 res0_6, Value.string res1_7], Value.bool true]) w5) [Value.int .i64 g0, Value.string g1] 0)))))))
theorem vc275_eq (s : Option Addr) (mark : Int) (w : World) (R : Value → World → Prop) : vc275 s mark w R = denFun ctx (bodyOf Tryz.f275) Tryz.f275.results.toList [Value.pointer s, Value.int .i64 mark] w R := by kernel_rfl
theorem vc275_calls (s : Option Addr) (mark : Int) (w : World) (R : Value → World → Prop) (h : vc275 s mark w R) : Calls Tryz.prog 275 #[Value.pointer s, Value.int .i64 mark] w fun e w' => ∃ v, e = .returned v ∧ R v w' :=
  calls_of_den ctxOk (f := 275) (fn := Tryz.f275) (body := bodyOf Tryz.f275) (args := [Value.pointer s, Value.int .i64 mark]) (by kernel_rfl) (by kernel_rfl) (by kernel_rfl) (by kernel_rfl) (Eq.mp (vc275_eq s mark w R) h)

end Go.Proofs.YtpklkijdlnioaaaGreat.Eng
