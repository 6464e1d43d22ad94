/- What these functions owe, printed by a program of this repo out of the translation. -/
import Derived.Test.YtldgehlbicoedaaGreatDoorTab
set_option linter.unusedVariables false
set_option maxRecDepth 100000
namespace Go.Proofs.YtldgehlbicoedaaGreatDoor.Eng
open Go

/-! ### ligature/ligaturelaw06.SpecParses: function 3 -/
def vc3 (t : ByteArray) (w : World) (R : Value → World → Prop) : Prop :=
  CondP (decide ((((t : ByteArray).size : Int) : Int) > 3000))
    (CondP (decide ((((t : ByteArray).size : Int) : Int) ≤ 60000))
       (Calls Tryz.prog 7 #[] w (fun e1 w1 =>
        ∃ b : Bool, e1 = .returned (Value.bool b) ∧
        R (Value.bool b) w1))
       (Calls Tryz.prog 8 #[Value.string t] w (fun e2 w2 =>
        ∃ r00 : Bool, ∃ r01A : Option Addr, ∃ r01N : Nat, ∃ r01C : Nat, ∃ r02A : Option Addr, ∃ r02N : Nat, ∃ r02C : Nat, ∃ r03A : Option Addr, ∃ r03N : Nat, ∃ r03C : Nat, ∃ r04A : Option Addr, ∃ r04N : Nat, ∃ r04C : Nat, ∃ r05A : Option Addr, ∃ r05N : Nat, ∃ r05C : Nat, ∃ r1 : Int, ∃ r2 : Int, e2 = .returned (Value.tuple #[Value.agg #[Value.bool r00, Value.slice r01A r01N r01C, Value.slice r02A r02N r02C, Value.slice r03A r03N r03C, Value.slice r04A r04N r04C, Value.slice r05A r05N r05C], Value.int .i64 r1, Value.int .i64 r2]) ∧
        ∀ w3 : World, w3 = w2.alloc (.cells #[Value.bool false, Value.slice none 0 0, Value.slice none 0 0, Value.slice none 0 0, Value.slice none 0 0, Value.slice none 0 0] 29) →
        StoreP w3 (nb w2) (fun w4 =>
        CondP (decide ((((t : ByteArray).size : Int) : Int) > 60000))
          (CondP ((r1 : Int) == 0)
             (CondP ((r2 : Int) == 3)
                (∃ g0 : Bool, ∃ g1A : Option Addr, ∃ g1N : Nat, ∃ g1C : Nat, ∃ g2A : Option Addr, ∃ g2N : Nat, ∃ g2C : Nat, ∃ g3A : Option Addr, ∃ g3N : Nat, ∃ g3C : Nat, ∃ g4A : Option Addr, ∃ g4N : Nat, ∃ g4C : Nat, ∃ g5A : Option Addr, ∃ g5N : Nat, ∃ g5C : Nat, (w4.cell? (nb w2) = some (Value.bool g0) ∧ w4.cell? ((nb w2).add 1) = some (Value.slice g1A g1N g1C) ∧ w4.cell? ((nb w2).add 2) = some (Value.slice g2A g2N g2C) ∧ w4.cell? ((nb w2).add 3) = some (Value.slice g3A g3N g3C) ∧ w4.cell? ((nb w2).add 4) = some (Value.slice g4A g4N g4C) ∧ w4.cell? ((nb w2).add 5) = some (Value.slice g5A g5N g5C) ∧ True) ∧
                 Calls Tryz.prog 9 #[Value.agg #[Value.bool g0, Value.slice g1A g1N g1C, Value.slice g2A g2N g2C, Value.slice g3A g3N g3C, Value.slice g4A g4N g4C, Value.slice g5A g5N g5C], Value.agg #[Value.bool false, Value.slice none 0 0, Value.slice none 0 0, Value.slice none 0 0, Value.slice none 0 0, Value.slice none 0 0]] w4 (fun e5 w5 =>
                 ∃ b_1 : Bool, e5 = .returned (Value.bool b_1) ∧
                 CondP b_1
                   (Calls Tryz.prog 7 #[] w5 (fun e6 w6 =>
                    ∃ b_2 : Bool, e6 = .returned (Value.bool b_2) ∧
                    R (Value.bool b_2) w6))
                   (R (Value.bool false) w5)))
                (R (Value.bool false) w4))
             (R (Value.bool false) w4))
          (Calls Tryz.prog 10 #[Value.string t] w4 (fun e7 w7 =>
           ∃ r00_3 : Bool, ∃ r01A_4 : Option Addr, ∃ r01N_5 : Nat, ∃ r01C_6 : Nat, ∃ r02A_7 : Option Addr, ∃ r02N_8 : Nat, ∃ r02C_9 : Nat, ∃ r03A_10 : Option Addr, ∃ r03N_11 : Nat, ∃ r03C_12 : Nat, ∃ r04A_13 : Option Addr, ∃ r04N_14 : Nat, ∃ r04C_15 : Nat, ∃ r05A_16 : Option Addr, ∃ r05N_17 : Nat, ∃ r05C_18 : Nat, ∃ r1_19 : Int, e7 = .returned (Value.tuple #[Value.agg #[Value.bool r00_3, Value.slice r01A_4 r01N_5 r01C_6, Value.slice r02A_7 r02N_8 r02C_9, Value.slice r03A_10 r03N_11 r03C_12, Value.slice r04A_13 r04N_14 r04C_15, Value.slice r05A_16 r05N_17 r05C_18], Value.int .i64 r1_19]) ∧
           ∀ w8 : World, w8 = w7.alloc (.cells #[Value.bool false, Value.slice none 0 0, Value.slice none 0 0, Value.slice none 0 0, Value.slice none 0 0, Value.slice none 0 0] 29) →
           StoreP w8 (nb w7) (fun w9 =>
           CondP (decide ((r1_19 : Int) > 0))
             (CondP ((r1 : Int) == r1_19)
                (CondP ((r2 : Int) == 2)
                   (∃ g0_20 : Bool, ∃ g1A_21 : Option Addr, ∃ g1N_22 : Nat, ∃ g1C_23 : Nat, ∃ g2A_24 : Option Addr, ∃ g2N_25 : Nat, ∃ g2C_26 : Nat, ∃ g3A_27 : Option Addr, ∃ g3N_28 : Nat, ∃ g3C_29 : Nat, ∃ g4A_30 : Option Addr, ∃ g4N_31 : Nat, ∃ g4C_32 : Nat, ∃ g5A_33 : Option Addr, ∃ g5N_34 : Nat, ∃ g5C_35 : Nat, (w9.cell? (nb w2) = some (Value.bool g0_20) ∧ w9.cell? ((nb w2).add 1) = some (Value.slice g1A_21 g1N_22 g1C_23) ∧ w9.cell? ((nb w2).add 2) = some (Value.slice g2A_24 g2N_25 g2C_26) ∧ w9.cell? ((nb w2).add 3) = some (Value.slice g3A_27 g3N_28 g3C_29) ∧ w9.cell? ((nb w2).add 4) = some (Value.slice g4A_30 g4N_31 g4C_32) ∧ w9.cell? ((nb w2).add 5) = some (Value.slice g5A_33 g5N_34 g5C_35) ∧ True) ∧
                    Calls Tryz.prog 9 #[Value.agg #[Value.bool g0_20, Value.slice g1A_21 g1N_22 g1C_23, Value.slice g2A_24 g2N_25 g2C_26, Value.slice g3A_27 g3N_28 g3C_29, Value.slice g4A_30 g4N_31 g4C_32, Value.slice g5A_33 g5N_34 g5C_35], Value.agg #[Value.bool false, Value.slice none 0 0, Value.slice none 0 0, Value.slice none 0 0, Value.slice none 0 0, Value.slice none 0 0]] w9 (fun e10 w10 =>
                    ∃ b_36 : Bool, e10 = .returned (Value.bool b_36) ∧
                    CondP b_36
                      (Calls Tryz.prog 7 #[] w10 (fun e11 w11 =>
                       ∃ b_37 : Bool, e11 = .returned (Value.bool b_37) ∧
                       R (Value.bool b_37) w11))
                      (R (Value.bool false) w10)))
                   (R (Value.bool false) w9))
                (R (Value.bool false) w9))
             (CondP ((r1 : Int) == 0)
                (CondP ((r2 : Int) == 0)
                   (∃ g0_38 : Bool, ∃ g1A_39 : Option Addr, ∃ g1N_40 : Nat, ∃ g1C_41 : Nat, ∃ g2A_42 : Option Addr, ∃ g2N_43 : Nat, ∃ g2C_44 : Nat, ∃ g3A_45 : Option Addr, ∃ g3N_46 : Nat, ∃ g3C_47 : Nat, ∃ g4A_48 : Option Addr, ∃ g4N_49 : Nat, ∃ g4C_50 : Nat, ∃ g5A_51 : Option Addr, ∃ g5N_52 : Nat, ∃ g5C_53 : Nat, (w9.cell? (nb w2) = some (Value.bool g0_38) ∧ w9.cell? ((nb w2).add 1) = some (Value.slice g1A_39 g1N_40 g1C_41) ∧ w9.cell? ((nb w2).add 2) = some (Value.slice g2A_42 g2N_43 g2C_44) ∧ w9.cell? ((nb w2).add 3) = some (Value.slice g3A_45 g3N_46 g3C_47) ∧ w9.cell? ((nb w2).add 4) = some (Value.slice g4A_48 g4N_49 g4C_50) ∧ w9.cell? ((nb w2).add 5) = some (Value.slice g5A_51 g5N_52 g5C_53) ∧ True) ∧
                    ∃ g0_54 : Bool, ∃ g1A_55 : Option Addr, ∃ g1N_56 : Nat, ∃ g1C_57 : Nat, ∃ g2A_58 : Option Addr, ∃ g2N_59 : Nat, ∃ g2C_60 : Nat, ∃ g3A_61 : Option Addr, ∃ g3N_62 : Nat, ∃ g3C_63 : Nat, ∃ g4A_64 : Option Addr, ∃ g4N_65 : Nat, ∃ g4C_66 : Nat, ∃ g5A_67 : Option Addr, ∃ g5N_68 : Nat, ∃ g5C_69 : Nat, (w9.cell? (nb w7) = some (Value.bool g0_54) ∧ w9.cell? ((nb w7).add 1) = some (Value.slice g1A_55 g1N_56 g1C_57) ∧ w9.cell? ((nb w7).add 2) = some (Value.slice g2A_58 g2N_59 g2C_60) ∧ w9.cell? ((nb w7).add 3) = some (Value.slice g3A_61 g3N_62 g3C_63) ∧ w9.cell? ((nb w7).add 4) = some (Value.slice g4A_64 g4N_65 g4C_66) ∧ w9.cell? ((nb w7).add 5) = some (Value.slice g5A_67 g5N_68 g5C_69) ∧ True) ∧
                    Calls Tryz.prog 9 #[Value.agg #[Value.bool g0_38, Value.slice g1A_39 g1N_40 g1C_41, Value.slice g2A_42 g2N_43 g2C_44, Value.slice g3A_45 g3N_46 g3C_47, Value.slice g4A_48 g4N_49 g4C_50, Value.slice g5A_51 g5N_52 g5C_53], Value.agg #[Value.bool g0_54, Value.slice g1A_55 g1N_56 g1C_57, Value.slice g2A_58 g2N_59 g2C_60, Value.slice g3A_61 g3N_62 g3C_63, Value.slice g4A_64 g4N_65 g4C_66, Value.slice g5A_67 g5N_68 g5C_69]] w9 (fun e12 w12 =>
                    ∃ b_70 : Bool, e12 = .returned (Value.bool b_70) ∧
                    CondP b_70
                      (Calls Tryz.prog 7 #[] w12 (fun e13 w13 =>
                       ∃ b_71 : Bool, e13 = .returned (Value.bool b_71) ∧
                       R (Value.bool b_71) w13))
                      (R (Value.bool false) w12)))
                   (R (Value.bool false) w9))
                (R (Value.bool false) w9))) [Value.bool r00_3, Value.slice r01A_4 r01N_5 r01C_6, Value.slice r02A_7 r02N_8 r02C_9, Value.slice r03A_10 r03N_11 r03C_12, Value.slice r04A_13 r04N_14 r04C_15, Value.slice r05A_16 r05N_17 r05C_18] 0))) [Value.bool r00, Value.slice r01A r01N r01C, Value.slice r02A r02N r02C, Value.slice r03A r03N r03C, Value.slice r04A r04N r04C, Value.slice r05A r05N r05C] 0)))
    (Calls Tryz.prog 8 #[Value.string t] w (fun e14 w14 =>
     ∃ r00_72 : Bool, ∃ r01A_73 : Option Addr, ∃ r01N_74 : Nat, ∃ r01C_75 : Nat, ∃ r02A_76 : Option Addr, ∃ r02N_77 : Nat, ∃ r02C_78 : Nat, ∃ r03A_79 : Option Addr, ∃ r03N_80 : Nat, ∃ r03C_81 : Nat, ∃ r04A_82 : Option Addr, ∃ r04N_83 : Nat, ∃ r04C_84 : Nat, ∃ r05A_85 : Option Addr, ∃ r05N_86 : Nat, ∃ r05C_87 : Nat, ∃ r1_88 : Int, ∃ r2_89 : Int, e14 = .returned (Value.tuple #[Value.agg #[Value.bool r00_72, Value.slice r01A_73 r01N_74 r01C_75, Value.slice r02A_76 r02N_77 r02C_78, Value.slice r03A_79 r03N_80 r03C_81, Value.slice r04A_82 r04N_83 r04C_84, Value.slice r05A_85 r05N_86 r05C_87], Value.int .i64 r1_88, Value.int .i64 r2_89]) ∧
     ∀ w15 : World, w15 = w14.alloc (.cells #[Value.bool false, Value.slice none 0 0, Value.slice none 0 0, Value.slice none 0 0, Value.slice none 0 0, Value.slice none 0 0] 29) →
     StoreP w15 (nb w14) (fun w16 =>
     CondP (decide ((((t : ByteArray).size : Int) : Int) > 60000))
       (CondP ((r1_88 : Int) == 0)
          (CondP ((r2_89 : Int) == 3)
             (∃ g0_90 : Bool, ∃ g1A_91 : Option Addr, ∃ g1N_92 : Nat, ∃ g1C_93 : Nat, ∃ g2A_94 : Option Addr, ∃ g2N_95 : Nat, ∃ g2C_96 : Nat, ∃ g3A_97 : Option Addr, ∃ g3N_98 : Nat, ∃ g3C_99 : Nat, ∃ g4A_100 : Option Addr, ∃ g4N_101 : Nat, ∃ g4C_102 : Nat, ∃ g5A_103 : Option Addr, ∃ g5N_104 : Nat, ∃ g5C_105 : Nat, (w16.cell? (nb w14) = some (Value.bool g0_90) ∧ w16.cell? ((nb w14).add 1) = some (Value.slice g1A_91 g1N_92 g1C_93) ∧ w16.cell? ((nb w14).add 2) = some (Value.slice g2A_94 g2N_95 g2C_96) ∧ w16.cell? ((nb w14).add 3) = some (Value.slice g3A_97 g3N_98 g3C_99) ∧ w16.cell? ((nb w14).add 4) = some (Value.slice g4A_100 g4N_101 g4C_102) ∧ w16.cell? ((nb w14).add 5) = some (Value.slice g5A_103 g5N_104 g5C_105) ∧ True) ∧
              Calls Tryz.prog 9 #[Value.agg #[Value.bool g0_90, Value.slice g1A_91 g1N_92 g1C_93, Value.slice g2A_94 g2N_95 g2C_96, Value.slice g3A_97 g3N_98 g3C_99, Value.slice g4A_100 g4N_101 g4C_102, Value.slice g5A_103 g5N_104 g5C_105], Value.agg #[Value.bool false, Value.slice none 0 0, Value.slice none 0 0, Value.slice none 0 0, Value.slice none 0 0, Value.slice none 0 0]] w16 (fun e17 w17 =>
              ∃ b_106 : Bool, e17 = .returned (Value.bool b_106) ∧
              CondP b_106
                (Calls Tryz.prog 7 #[] w17 (fun e18 w18 =>
                 ∃ b_107 : Bool, e18 = .returned (Value.bool b_107) ∧
                 R (Value.bool b_107) w18))
                (R (Value.bool false) w17)))
             (R (Value.bool false) w16))
          (R (Value.bool false) w16))
       (Calls Tryz.prog 10 #[Value.string t] w16 (fun e19 w19 =>
        ∃ r00_108 : Bool, ∃ r01A_109 : Option Addr, ∃ r01N_110 : Nat, ∃ r01C_111 : Nat, ∃ r02A_112 : Option Addr, ∃ r02N_113 : Nat, ∃ r02C_114 : Nat, ∃ r03A_115 : Option Addr, ∃ r03N_116 : Nat, ∃ r03C_117 : Nat, ∃ r04A_118 : Option Addr, ∃ r04N_119 : Nat, ∃ r04C_120 : Nat, ∃ r05A_121 : Option Addr, ∃ r05N_122 : Nat, ∃ r05C_123 : Nat, ∃ r1_124 : Int, e19 = .returned (Value.tuple #[Value.agg #[Value.bool r00_108, Value.slice r01A_109 r01N_110 r01C_111, Value.slice r02A_112 r02N_113 r02C_114, Value.slice r03A_115 r03N_116 r03C_117, Value.slice r04A_118 r04N_119 r04C_120, Value.slice r05A_121 r05N_122 r05C_123], Value.int .i64 r1_124]) ∧
        ∀ w20 : World, w20 = w19.alloc (.cells #[Value.bool false, Value.slice none 0 0, Value.slice none 0 0, Value.slice none 0 0, Value.slice none 0 0, Value.slice none 0 0] 29) →
        StoreP w20 (nb w19) (fun w21 =>
        CondP (decide ((r1_124 : Int) > 0))
          (CondP ((r1_88 : Int) == r1_124)
             (CondP ((r2_89 : Int) == 2)
                (∃ g0_125 : Bool, ∃ g1A_126 : Option Addr, ∃ g1N_127 : Nat, ∃ g1C_128 : Nat, ∃ g2A_129 : Option Addr, ∃ g2N_130 : Nat, ∃ g2C_131 : Nat, ∃ g3A_132 : Option Addr, ∃ g3N_133 : Nat, ∃ g3C_134 : Nat, ∃ g4A_135 : Option Addr, ∃ g4N_136 : Nat, ∃ g4C_137 : Nat, ∃ g5A_138 : Option Addr, ∃ g5N_139 : Nat, ∃ g5C_140 : Nat, (w21.cell? (nb w14) = some (Value.bool g0_125) ∧ w21.cell? ((nb w14).add 1) = some (Value.slice g1A_126 g1N_127 g1C_128) ∧ w21.cell? ((nb w14).add 2) = some (Value.slice g2A_129 g2N_130 g2C_131) ∧ w21.cell? ((nb w14).add 3) = some (Value.slice g3A_132 g3N_133 g3C_134) ∧ w21.cell? ((nb w14).add 4) = some (Value.slice g4A_135 g4N_136 g4C_137) ∧ w21.cell? ((nb w14).add 5) = some (Value.slice g5A_138 g5N_139 g5C_140) ∧ True) ∧
                 Calls Tryz.prog 9 #[Value.agg #[Value.bool g0_125, Value.slice g1A_126 g1N_127 g1C_128, Value.slice g2A_129 g2N_130 g2C_131, Value.slice g3A_132 g3N_133 g3C_134, Value.slice g4A_135 g4N_136 g4C_137, Value.slice g5A_138 g5N_139 g5C_140], Value.agg #[Value.bool false, Value.slice none 0 0, Value.slice none 0 0, Value.slice none 0 0, Value.slice none 0 0, Value.slice none 0 0]] w21 (fun e22 w22 =>
                 ∃ b_141 : Bool, e22 = .returned (Value.bool b_141) ∧
                 CondP b_141
                   (Calls Tryz.prog 7 #[] w22 (fun e23 w23 =>
                    ∃ b_142 : Bool, e23 = .returned (Value.bool b_142) ∧
                    R (Value.bool b_142) w23))
                   (R (Value.bool false) w22)))
                (R (Value.bool false) w21))
             (R (Value.bool false) w21))
          (CondP ((r1_88 : Int) == 0)
             (CondP ((r2_89 : Int) == 0)
                (∃ g0_143 : Bool, ∃ g1A_144 : Option Addr, ∃ g1N_145 : Nat, ∃ g1C_146 : Nat, ∃ g2A_147 : Option Addr, ∃ g2N_148 : Nat, ∃ g2C_149 : Nat, ∃ g3A_150 : Option Addr, ∃ g3N_151 : Nat, ∃ g3C_152 : Nat, ∃ g4A_153 : Option Addr, ∃ g4N_154 : Nat, ∃ g4C_155 : Nat, ∃ g5A_156 : Option Addr, ∃ g5N_157 : Nat, ∃ g5C_158 : Nat, (w21.cell? (nb w14) = some (Value.bool g0_143) ∧ w21.cell? ((nb w14).add 1) = some (Value.slice g1A_144 g1N_145 g1C_146) ∧ w21.cell? ((nb w14).add 2) = some (Value.slice g2A_147 g2N_148 g2C_149) ∧ w21.cell? ((nb w14).add 3) = some (Value.slice g3A_150 g3N_151 g3C_152) ∧ w21.cell? ((nb w14).add 4) = some (Value.slice g4A_153 g4N_154 g4C_155) ∧ w21.cell? ((nb w14).add 5) = some (Value.slice g5A_156 g5N_157 g5C_158) ∧ True) ∧
                 ∃ g0_159 : Bool, ∃ g1A_160 : Option Addr, ∃ g1N_161 : Nat, ∃ g1C_162 : Nat, ∃ g2A_163 : Option Addr, ∃ g2N_164 : Nat, ∃ g2C_165 : Nat, ∃ g3A_166 : Option Addr, ∃ g3N_167 : Nat, ∃ g3C_168 : Nat, ∃ g4A_169 : Option Addr, ∃ g4N_170 : Nat, ∃ g4C_171 : Nat, ∃ g5A_172 : Option Addr, ∃ g5N_173 : Nat, ∃ g5C_174 : Nat, (w21.cell? (nb w19) = some (Value.bool g0_159) ∧ w21.cell? ((nb w19).add 1) = some (Value.slice g1A_160 g1N_161 g1C_162) ∧ w21.cell? ((nb w19).add 2) = some (Value.slice g2A_163 g2N_164 g2C_165) ∧ w21.cell? ((nb w19).add 3) = some (Value.slice g3A_166 g3N_167 g3C_168) ∧ w21.cell? ((nb w19).add 4) = some (Value.slice g4A_169 g4N_170 g4C_171) ∧ w21.cell? ((nb w19).add 5) = some (Value.slice g5A_172 g5N_173 g5C_174) ∧ True) ∧
                 Calls Tryz.prog 9 #[Value.agg #[Value.bool g0_143, Value.slice g1A_144 g1N_145 g1C_146, Value.slice g2A_147 g2N_148 g2C_149, Value.slice g3A_150 g3N_151 g3C_152, Value.slice g4A_153 g4N_154 g4C_155, Value.slice g5A_156 g5N_157 g5C_158], Value.agg #[Value.bool g0_159, Value.slice g1A_160 g1N_161 g1C_162, Value.slice g2A_163 g2N_164 g2C_165, Value.slice g3A_166 g3N_167 g3C_168, Value.slice g4A_169 g4N_170 g4C_171, Value.slice g5A_172 g5N_173 g5C_174]] w21 (fun e24 w24 =>
                 ∃ b_175 : Bool, e24 = .returned (Value.bool b_175) ∧
                 CondP b_175
                   (Calls Tryz.prog 7 #[] w24 (fun e25 w25 =>
                    ∃ b_176 : Bool, e25 = .returned (Value.bool b_176) ∧
                    R (Value.bool b_176) w25))
                   (R (Value.bool false) w24)))
                (R (Value.bool false) w21))
             (R (Value.bool false) w21))) [Value.bool r00_108, Value.slice r01A_109 r01N_110 r01C_111, Value.slice r02A_112 r02N_113 r02C_114, Value.slice r03A_115 r03N_116 r03C_117, Value.slice r04A_118 r04N_119 r04C_120, Value.slice r05A_121 r05N_122 r05C_123] 0))) [Value.bool r00_72, Value.slice r01A_73 r01N_74 r01C_75, Value.slice r02A_76 r02N_77 r02C_78, Value.slice r03A_79 r03N_80 r03C_81, Value.slice r04A_82 r04N_83 r04C_84, Value.slice r05A_85 r05N_86 r05C_87] 0))
theorem vc3_eq (t : ByteArray) (w : World) (R : Value → World → Prop) : vc3 t w R = denFun ctx (bodyOf Tryz.f3) Tryz.f3.results.toList [Value.string t] w R := by kernel_rfl
theorem vc3_calls (t : ByteArray) (w : World) (R : Value → World → Prop) (h : vc3 t w R) : Calls Tryz.prog 3 #[Value.string t] w fun e w' => ∃ v, e = .returned v ∧ R v w' :=
  calls_of_den ctxOk (f := 3) (fn := Tryz.f3) (body := bodyOf Tryz.f3) (args := [Value.string t]) (by kernel_rfl) (by kernel_rfl) (by kernel_rfl) (by kernel_rfl) (Eq.mp (vc3_eq t w R) h)

/-! ### ligature/ligaturelaw06.SpecBack: function 4 -/
def vc4 (s0 : Bool) (s1A : Option Addr) (s1N : Nat) (s1C : Nat) (s2A : Option Addr) (s2N : Nat) (s2C : Nat) (s3A : Option Addr) (s3N : Nat) (s3C : Nat) (s4A : Option Addr) (s4N : Nat) (s4C : Nat) (s5A : Option Addr) (s5N : Nat) (s5C : Nat) (t : ByteArray) (w : World) (R : Value → World → Prop) : Prop :=
  ∀ w1 : World, w1 = w.alloc (.cells #[Value.bool s0, Value.slice s1A s1N s1C, Value.slice s2A s2N s2C, Value.slice s3A s3N s3C, Value.slice s4A s4N s4C, Value.slice s5A s5N s5C] 29) →
  ∃ g0 : Bool, ∃ g1A : Option Addr, ∃ g1N : Nat, ∃ g1C : Nat, ∃ g2A : Option Addr, ∃ g2N : Nat, ∃ g2C : Nat, ∃ g3A : Option Addr, ∃ g3N : Nat, ∃ g3C : Nat, ∃ g4A : Option Addr, ∃ g4N : Nat, ∃ g4C : Nat, ∃ g5A : Option Addr, ∃ g5N : Nat, ∃ g5C : Nat, (w1.cell? (nb w) = some (Value.bool g0) ∧ w1.cell? ((nb w).add 1) = some (Value.slice g1A g1N g1C) ∧ w1.cell? ((nb w).add 2) = some (Value.slice g2A g2N g2C) ∧ w1.cell? ((nb w).add 3) = some (Value.slice g3A g3N g3C) ∧ w1.cell? ((nb w).add 4) = some (Value.slice g4A g4N g4C) ∧ w1.cell? ((nb w).add 5) = some (Value.slice g5A g5N g5C) ∧ True) ∧
  Calls Tryz.prog 11 #[Value.agg #[Value.bool g0, Value.slice g1A g1N g1C, Value.slice g2A g2N g2C, Value.slice g3A g3N g3C, Value.slice g4A g4N g4C, Value.slice g5A g5N g5C]] w1 (fun e2 w2 =>
  ∃ b : Bool, e2 = .returned (Value.bool b) ∧
  CondP b
    (Calls Tryz.prog 7 #[] w2 (fun e3 w3 =>
     ∃ b_1 : Bool, e3 = .returned (Value.bool b_1) ∧
     R (Value.bool b_1) w3))
    (CondP (decide ((((t : ByteArray).size : Int) : Int) > 3000))
       (Calls Tryz.prog 7 #[] w2 (fun e4 w4 =>
        ∃ b_2 : Bool, e4 = .returned (Value.bool b_2) ∧
        R (Value.bool b_2) w4))
       (∃ g0_3 : Bool, ∃ g1A_4 : Option Addr, ∃ g1N_5 : Nat, ∃ g1C_6 : Nat, ∃ g2A_7 : Option Addr, ∃ g2N_8 : Nat, ∃ g2C_9 : Nat, ∃ g3A_10 : Option Addr, ∃ g3N_11 : Nat, ∃ g3C_12 : Nat, ∃ g4A_13 : Option Addr, ∃ g4N_14 : Nat, ∃ g4C_15 : Nat, ∃ g5A_16 : Option Addr, ∃ g5N_17 : Nat, ∃ g5C_18 : Nat, (w2.cell? (nb w) = some (Value.bool g0_3) ∧ w2.cell? ((nb w).add 1) = some (Value.slice g1A_4 g1N_5 g1C_6) ∧ w2.cell? ((nb w).add 2) = some (Value.slice g2A_7 g2N_8 g2C_9) ∧ w2.cell? ((nb w).add 3) = some (Value.slice g3A_10 g3N_11 g3C_12) ∧ w2.cell? ((nb w).add 4) = some (Value.slice g4A_13 g4N_14 g4C_15) ∧ w2.cell? ((nb w).add 5) = some (Value.slice g5A_16 g5N_17 g5C_18) ∧ True) ∧
        Calls Tryz.prog 12 #[Value.agg #[Value.bool g0_3, Value.slice g1A_4 g1N_5 g1C_6, Value.slice g2A_7 g2N_8 g2C_9, Value.slice g3A_10 g3N_11 g3C_12, Value.slice g4A_13 g4N_14 g4C_15, Value.slice g5A_16 g5N_17 g5C_18]] w2 (fun e5 w5 =>
        ∃ r0 : ByteArray, ∃ r1 : Int, e5 = .returned (Value.tuple #[Value.string r0, Value.int .i64 r1]) ∧
        ∀ J19 : List Value → World → Prop, (∀ y4 : Bool, ∀ w6 : World, (Calls Tryz.prog 8 #[Value.string t] w6 (fun e7 w7 =>
          ∃ r00 : Bool, ∃ r01A : Option Addr, ∃ r01N : Nat, ∃ r01C : Nat, ∃ r02A : Option Addr, ∃ r02N : Nat, ∃ r02C : Nat, ∃ r03A : Option Addr, ∃ r03N : Nat, ∃ r03C : Nat, ∃ r04A : Option Addr, ∃ r04N : Nat, ∃ r04C : Nat, ∃ r05A : Option Addr, ∃ r05N : Nat, ∃ r05C : Nat, ∃ r1_20 : Int, ∃ r2 : Int, e7 = .returned (Value.tuple #[Value.agg #[Value.bool r00, Value.slice r01A r01N r01C, Value.slice r02A r02N r02C, Value.slice r03A r03N r03C, Value.slice r04A r04N r04C, Value.slice r05A r05N r05C], Value.int .i64 r1_20, Value.int .i64 r2]) ∧
          ∀ w8 : World, w8 = w7.alloc (.cells #[Value.bool false, Value.slice none 0 0, Value.slice none 0 0, Value.slice none 0 0, Value.slice none 0 0, Value.slice none 0 0] 29) →
          StoreP w8 (nb w7) (fun w9 =>
          CondP ((r2 : Int) == 0)
            (∃ g0_21 : Bool, ∃ g1A_22 : Option Addr, ∃ g1N_23 : Nat, ∃ g1C_24 : Nat, ∃ g2A_25 : Option Addr, ∃ g2N_26 : Nat, ∃ g2C_27 : Nat, ∃ g3A_28 : Option Addr, ∃ g3N_29 : Nat, ∃ g3C_30 : Nat, ∃ g4A_31 : Option Addr, ∃ g4N_32 : Nat, ∃ g4C_33 : Nat, ∃ g5A_34 : Option Addr, ∃ g5N_35 : Nat, ∃ g5C_36 : Nat, (w9.cell? (nb w7) = some (Value.bool g0_21) ∧ w9.cell? ((nb w7).add 1) = some (Value.slice g1A_22 g1N_23 g1C_24) ∧ w9.cell? ((nb w7).add 2) = some (Value.slice g2A_25 g2N_26 g2C_27) ∧ w9.cell? ((nb w7).add 3) = some (Value.slice g3A_28 g3N_29 g3C_30) ∧ w9.cell? ((nb w7).add 4) = some (Value.slice g4A_31 g4N_32 g4C_33) ∧ w9.cell? ((nb w7).add 5) = some (Value.slice g5A_34 g5N_35 g5C_36) ∧ True) ∧
             Calls Tryz.prog 12 #[Value.agg #[Value.bool g0_21, Value.slice g1A_22 g1N_23 g1C_24, Value.slice g2A_25 g2N_26 g2C_27, Value.slice g3A_28 g3N_29 g3C_30, Value.slice g4A_31 g4N_32 g4C_33, Value.slice g5A_34 g5N_35 g5C_36]] w9 (fun e10 w10 =>
             ∃ r0_37 : ByteArray, ∃ r1_38 : Int, e10 = .returned (Value.tuple #[Value.string r0_37, Value.int .i64 r1_38]) ∧
             CondP ((r1_38 : Int) == 0)
               (CondP ((r0_37 : ByteArray).toList == (t : ByteArray).toList)
                  (Calls Tryz.prog 7 #[] w10 (fun e11 w11 =>
                   ∃ b_39 : Bool, e11 = .returned (Value.bool b_39) ∧
                   R (Value.bool b_39) w11))
                  (R (Value.bool false) w10))
               (R (Value.bool false) w10)))
            (Calls Tryz.prog 7 #[] w9 (fun e12 w12 =>
             ∃ b_40 : Bool, e12 = .returned (Value.bool b_40) ∧
             R (Value.bool b_40) w12))) [Value.bool r00, Value.slice r01A r01N r01C, Value.slice r02A r02N r02C, Value.slice r03A r03N r03C, Value.slice r04A r04N r04C, Value.slice r05A r05N r05C] 0)) → J19 [Value.bool y4] w6) →
        CondP ((r1 : Int) == 0)
          (Calls Tryz.prog 8 #[Value.string r0] w5 (fun e13 w13 =>
           ∃ r00_41 : Bool, ∃ r01A_42 : Option Addr, ∃ r01N_43 : Nat, ∃ r01C_44 : Nat, ∃ r02A_45 : Option Addr, ∃ r02N_46 : Nat, ∃ r02C_47 : Nat, ∃ r03A_48 : Option Addr, ∃ r03N_49 : Nat, ∃ r03C_50 : Nat, ∃ r04A_51 : Option Addr, ∃ r04N_52 : Nat, ∃ r04C_53 : Nat, ∃ r05A_54 : Option Addr, ∃ r05N_55 : Nat, ∃ r05C_56 : Nat, ∃ r1_57 : Int, ∃ r2_58 : Int, e13 = .returned (Value.tuple #[Value.agg #[Value.bool r00_41, Value.slice r01A_42 r01N_43 r01C_44, Value.slice r02A_45 r02N_46 r02C_47, Value.slice r03A_48 r03N_49 r03C_50, Value.slice r04A_51 r04N_52 r04C_53, Value.slice r05A_54 r05N_55 r05C_56], Value.int .i64 r1_57, Value.int .i64 r2_58]) ∧
           ∀ w14 : World, w14 = w13.alloc (.cells #[Value.bool false, Value.slice none 0 0, Value.slice none 0 0, Value.slice none 0 0, Value.slice none 0 0, Value.slice none 0 0] 29) →
           StoreP w14 (nb w13) (fun w15 =>
           CondP ((r2_58 : Int) != 0)
             (R (Value.bool false) w15)
             (CondP ((r1_57 : Int) != 0)
                (R (Value.bool false) w15)
                (∃ g0_59 : Bool, ∃ g1A_60 : Option Addr, ∃ g1N_61 : Nat, ∃ g1C_62 : Nat, ∃ g2A_63 : Option Addr, ∃ g2N_64 : Nat, ∃ g2C_65 : Nat, ∃ g3A_66 : Option Addr, ∃ g3N_67 : Nat, ∃ g3C_68 : Nat, ∃ g4A_69 : Option Addr, ∃ g4N_70 : Nat, ∃ g4C_71 : Nat, ∃ g5A_72 : Option Addr, ∃ g5N_73 : Nat, ∃ g5C_74 : Nat, (w15.cell? (nb w13) = some (Value.bool g0_59) ∧ w15.cell? ((nb w13).add 1) = some (Value.slice g1A_60 g1N_61 g1C_62) ∧ w15.cell? ((nb w13).add 2) = some (Value.slice g2A_63 g2N_64 g2C_65) ∧ w15.cell? ((nb w13).add 3) = some (Value.slice g3A_66 g3N_67 g3C_68) ∧ w15.cell? ((nb w13).add 4) = some (Value.slice g4A_69 g4N_70 g4C_71) ∧ w15.cell? ((nb w13).add 5) = some (Value.slice g5A_72 g5N_73 g5C_74) ∧ True) ∧
                 ∃ g0_75 : Bool, ∃ g1A_76 : Option Addr, ∃ g1N_77 : Nat, ∃ g1C_78 : Nat, ∃ g2A_79 : Option Addr, ∃ g2N_80 : Nat, ∃ g2C_81 : Nat, ∃ g3A_82 : Option Addr, ∃ g3N_83 : Nat, ∃ g3C_84 : Nat, ∃ g4A_85 : Option Addr, ∃ g4N_86 : Nat, ∃ g4C_87 : Nat, ∃ g5A_88 : Option Addr, ∃ g5N_89 : Nat, ∃ g5C_90 : Nat, (w15.cell? (nb w) = some (Value.bool g0_75) ∧ w15.cell? ((nb w).add 1) = some (Value.slice g1A_76 g1N_77 g1C_78) ∧ w15.cell? ((nb w).add 2) = some (Value.slice g2A_79 g2N_80 g2C_81) ∧ w15.cell? ((nb w).add 3) = some (Value.slice g3A_82 g3N_83 g3C_84) ∧ w15.cell? ((nb w).add 4) = some (Value.slice g4A_85 g4N_86 g4C_87) ∧ w15.cell? ((nb w).add 5) = some (Value.slice g5A_88 g5N_89 g5C_90) ∧ True) ∧
                 Calls Tryz.prog 9 #[Value.agg #[Value.bool g0_59, Value.slice g1A_60 g1N_61 g1C_62, Value.slice g2A_63 g2N_64 g2C_65, Value.slice g3A_66 g3N_67 g3C_68, Value.slice g4A_69 g4N_70 g4C_71, Value.slice g5A_72 g5N_73 g5C_74], Value.agg #[Value.bool g0_75, Value.slice g1A_76 g1N_77 g1C_78, Value.slice g2A_79 g2N_80 g2C_81, Value.slice g3A_82 g3N_83 g3C_84, Value.slice g4A_85 g4N_86 g4C_87, Value.slice g5A_88 g5N_89 g5C_90]] w15 (fun e16 w16 =>
                 ∃ b_91 : Bool, e16 = .returned (Value.bool b_91) ∧
                 CondP (!b_91)
                   (R (Value.bool false) w16)
                   (J19 [Value.bool false] w16))))) [Value.bool r00_41, Value.slice r01A_42 r01N_43 r01C_44, Value.slice r02A_45 r02N_46 r02C_47, Value.slice r03A_48 r03N_49 r03C_50, Value.slice r04A_51 r04N_52 r04C_53, Value.slice r05A_54 r05N_55 r05C_56] 0))
          (J19 [Value.bool false] w5)))))
theorem vc4_eq (s0 : Bool) (s1A : Option Addr) (s1N : Nat) (s1C : Nat) (s2A : Option Addr) (s2N : Nat) (s2C : Nat) (s3A : Option Addr) (s3N : Nat) (s3C : Nat) (s4A : Option Addr) (s4N : Nat) (s4C : Nat) (s5A : Option Addr) (s5N : Nat) (s5C : Nat) (t : ByteArray) (w : World) (R : Value → World → Prop) : vc4 s0 s1A s1N s1C s2A s2N s2C s3A s3N s3C s4A s4N s4C s5A s5N s5C t w R = denFun ctx (bodyOf Tryz.f4) Tryz.f4.results.toList [Value.agg #[Value.bool s0, Value.slice s1A s1N s1C, Value.slice s2A s2N s2C, Value.slice s3A s3N s3C, Value.slice s4A s4N s4C, Value.slice s5A s5N s5C], Value.string t] w R := by kernel_rfl
theorem vc4_calls (s0 : Bool) (s1A : Option Addr) (s1N : Nat) (s1C : Nat) (s2A : Option Addr) (s2N : Nat) (s2C : Nat) (s3A : Option Addr) (s3N : Nat) (s3C : Nat) (s4A : Option Addr) (s4N : Nat) (s4C : Nat) (s5A : Option Addr) (s5N : Nat) (s5C : Nat) (t : ByteArray) (w : World) (R : Value → World → Prop) (h : vc4 s0 s1A s1N s1C s2A s2N s2C s3A s3N s3C s4A s4N s4C s5A s5N s5C t w R) : Calls Tryz.prog 4 #[Value.agg #[Value.bool s0, Value.slice s1A s1N s1C, Value.slice s2A s2N s2C, Value.slice s3A s3N s3C, Value.slice s4A s4N s4C, Value.slice s5A s5N s5C], Value.string t] w fun e w' => ∃ v, e = .returned v ∧ R v w' :=
  calls_of_den ctxOk (f := 4) (fn := Tryz.f4) (body := bodyOf Tryz.f4) (args := [Value.agg #[Value.bool s0, Value.slice s1A s1N s1C, Value.slice s2A s2N s2C, Value.slice s3A s3N s3C, Value.slice s4A s4N s4C, Value.slice s5A s5N s5C], Value.string t]) (by kernel_rfl) (by kernel_rfl) (by kernel_rfl) (by kernel_rfl) (Eq.mp (vc4_eq s0 s1A s1N s1C s2A s2N s2C s3A s3N s3C s4A s4N s4C s5A s5N s5C t w R) h)

/-! ### ligature/ligaturelaw06.SpecLines: function 5 -/
def vc5 (s0 : Bool) (s1A : Option Addr) (s1N : Nat) (s1C : Nat) (s2A : Option Addr) (s2N : Nat) (s2C : Nat) (s3A : Option Addr) (s3N : Nat) (s3C : Nat) (s4A : Option Addr) (s4N : Nat) (s4C : Nat) (s5A : Option Addr) (s5N : Nat) (s5C : Nat) (k : Int) (w : World) (R : Value → World → Prop) : Prop :=
  ∀ w1 : World, w1 = w.alloc (.cells #[Value.bool s0, Value.slice s1A s1N s1C, Value.slice s2A s2N s2C, Value.slice s3A s3N s3C, Value.slice s4A s4N s4C, Value.slice s5A s5N s5C] 29) →
  ∃ g0 : Bool, ∃ g1A : Option Addr, ∃ g1N : Nat, ∃ g1C : Nat, ∃ g2A : Option Addr, ∃ g2N : Nat, ∃ g2C : Nat, ∃ g3A : Option Addr, ∃ g3N : Nat, ∃ g3C : Nat, ∃ g4A : Option Addr, ∃ g4N : Nat, ∃ g4C : Nat, ∃ g5A : Option Addr, ∃ g5N : Nat, ∃ g5C : Nat, (w1.cell? (nb w) = some (Value.bool g0) ∧ w1.cell? ((nb w).add 1) = some (Value.slice g1A g1N g1C) ∧ w1.cell? ((nb w).add 2) = some (Value.slice g2A g2N g2C) ∧ w1.cell? ((nb w).add 3) = some (Value.slice g3A g3N g3C) ∧ w1.cell? ((nb w).add 4) = some (Value.slice g4A g4N g4C) ∧ w1.cell? ((nb w).add 5) = some (Value.slice g5A g5N g5C) ∧ True) ∧
  Calls Tryz.prog 12 #[Value.agg #[Value.bool g0, Value.slice g1A g1N g1C, Value.slice g2A g2N g2C, Value.slice g3A g3N g3C, Value.slice g4A g4N g4C, Value.slice g5A g5N g5C]] w1 (fun e2 w2 =>
  ∃ r0 : ByteArray, ∃ r1 : Int, e2 = .returned (Value.tuple #[Value.string r0, Value.int .i64 r1]) ∧
  ∃ g0_1 : Bool, ∃ g1A_2 : Option Addr, ∃ g1N_3 : Nat, ∃ g1C_4 : Nat, ∃ g2A_5 : Option Addr, ∃ g2N_6 : Nat, ∃ g2C_7 : Nat, ∃ g3A_8 : Option Addr, ∃ g3N_9 : Nat, ∃ g3C_10 : Nat, ∃ g4A_11 : Option Addr, ∃ g4N_12 : Nat, ∃ g4C_13 : Nat, ∃ g5A_14 : Option Addr, ∃ g5N_15 : Nat, ∃ g5C_16 : Nat, (w2.cell? (nb w) = some (Value.bool g0_1) ∧ w2.cell? ((nb w).add 1) = some (Value.slice g1A_2 g1N_3 g1C_4) ∧ w2.cell? ((nb w).add 2) = some (Value.slice g2A_5 g2N_6 g2C_7) ∧ w2.cell? ((nb w).add 3) = some (Value.slice g3A_8 g3N_9 g3C_10) ∧ w2.cell? ((nb w).add 4) = some (Value.slice g4A_11 g4N_12 g4C_13) ∧ w2.cell? ((nb w).add 5) = some (Value.slice g5A_14 g5N_15 g5C_16) ∧ True) ∧
  Calls Tryz.prog 11 #[Value.agg #[Value.bool g0_1, Value.slice g1A_2 g1N_3 g1C_4, Value.slice g2A_5 g2N_6 g2C_7, Value.slice g3A_8 g3N_9 g3C_10, Value.slice g4A_11 g4N_12 g4C_13, Value.slice g5A_14 g5N_15 g5C_16]] w2 (fun e3 w3 =>
  ∃ b : Bool, e3 = .returned (Value.bool b) ∧
  CondP b
    (Calls Tryz.prog 7 #[] w3 (fun e4 w4 =>
     ∃ b_17 : Bool, e4 = .returned (Value.bool b_17) ∧
     R (Value.bool b_17) w4))
    (CondP ((r1 : Int) != 0)
       (Calls Tryz.prog 7 #[] w3 (fun e5 w5 =>
        ∃ b_18 : Bool, e5 = .returned (Value.bool b_18) ∧
        R (Value.bool b_18) w5))
       (Calls Tryz.prog 7 #[] w3 (fun e6 w6 =>
        ∃ b_19 : Bool, e6 = .returned (Value.bool b_19) ∧
        CondP (!b_19)
          (Calls Tryz.prog 7 #[] w6 (fun e7 w7 =>
           ∃ b_20 : Bool, e7 = .returned (Value.bool b_20) ∧
           R (Value.bool b_20) w7))
          (∀ I21 : List Value → World → Prop, (∀ i : Int, ∀ endsA : Option Addr, ∀ endsN : Nat, ∀ endsC : Nat, ∀ w8 : World, (CondP (decide ((i : Int) < ((r0 : ByteArray).size : Int)))
               (∀ J22 : List Value → World → Prop, (∀ endsA_23 : Option Addr, ∀ endsN_24 : Nat, ∀ endsC_25 : Nat, ∀ w9 : World, (Ar .i64 ((i : Int) + 1) (fun n =>
                  I21 [Value.int .i64 n, Value.slice endsA_23 endsN_24 endsC_25] w9)) → J22 [Value.slice endsA_23 endsN_24 endsC_25] w9) →
                (0 : Int) ≤ i ∧ i < ((r0 : ByteArray).size : Int) ∧
                CondP ((btAt r0 i : Int) == 10)
                  (Ar .i64 ((i : Int) + 1) (fun n_26 =>
                   ∀ w10 : World, w10 = w8.alloc (.cells #[Value.int .i64 n_26] 3) →
                   ∃ lA : Option Addr, ∃ lN : Nat, ∃ lC : Nat, ∃ w11 : World, (Builtin.append_ #[41, 41] 41 #[Value.slice endsA endsN endsC, Value.slice (some (nb w8)) 1 1]).run Tryz.prog w10 = .ok (Value.slice lA lN lC) w11 ∧
                   J22 [Value.slice lA lN lC] w11))
                  (J22 [Value.slice endsA endsN endsC] w8))
               (Ar .i64 ((((endsN : Nat) : Int) : Int) + 1) (fun n_27 =>
                (IntKind.wrap .u64 n_27 : Int) ≠ 0 ∧
                CondP ((IntKind.wrap .i64 (Int.tmod (IntKind.wrap .u64 k) (IntKind.wrap .u64 n_27)) : Int) == 0)
                  (Calls Tryz.prog 8 #[Value.string ⟨#[]⟩] w8 (fun e12 w12 =>
                   ∃ r00 : Bool, ∃ r01A : Option Addr, ∃ r01N : Nat, ∃ r01C : Nat, ∃ r02A : Option Addr, ∃ r02N : Nat, ∃ r02C : Nat, ∃ r03A : Option Addr, ∃ r03N : Nat, ∃ r03C : Nat, ∃ r04A : Option Addr, ∃ r04N : Nat, ∃ r04C : Nat, ∃ r05A : Option Addr, ∃ r05N : Nat, ∃ r05C : Nat, ∃ r1_28 : Int, ∃ r2 : Int, e12 = .returned (Value.tuple #[Value.agg #[Value.bool r00, Value.slice r01A r01N r01C, Value.slice r02A r02N r02C, Value.slice r03A r03N r03C, Value.slice r04A r04N r04C, Value.slice r05A r05N r05C], Value.int .i64 r1_28, Value.int .i64 r2]) ∧
                   ∀ w13 : World, w13 = w12.alloc (.cells #[Value.bool false, Value.slice none 0 0, Value.slice none 0 0, Value.slice none 0 0, Value.slice none 0 0, Value.slice none 0 0] 29) →
                   StoreP w13 (nb w12) (fun w14 =>
                   CondP ((r1_28 : Int) == 1)
                     (R (Value.bool ((r2 : Int) == 2)) w14)
                     (R (Value.bool false) w14)) [Value.bool r00, Value.slice r01A r01N r01C, Value.slice r02A r02N r02C, Value.slice r03A r03N r03C, Value.slice r04A r04N r04C, Value.slice r05A r05N r05C] 0))
                  (Ar .i64 ((IntKind.wrap .i64 (Int.tmod (IntKind.wrap .u64 k) (IntKind.wrap .u64 n_27)) : Int) - 1) (fun n_29 =>
                   NilC endsA (fun pa =>
                   (0 : Int) ≤ n_29 ∧ n_29 < ((endsN : Nat) : Int) ∧
                   ∃ n_30 : Int, w8.cell? (pa.add ((n_29 : Int).toNat * 1)) = some (Value.int .i64 n_30) ∧
                   (0 : Int) ≤ ((0 : Nat) : Int) ∧ ((0 : Nat) : Int) ≤ (n_30 : Int) ∧ (n_30 : Int) ≤ ((r0 : ByteArray).size : Int) ∧
                   Calls Tryz.prog 8 #[Value.string ((r0 : ByteArray).extract ((0 : Nat) : Int).toNat (n_30 : Int).toNat)] w8 (fun e15 w15 =>
                   ∃ r00_31 : Bool, ∃ r01A_32 : Option Addr, ∃ r01N_33 : Nat, ∃ r01C_34 : Nat, ∃ r02A_35 : Option Addr, ∃ r02N_36 : Nat, ∃ r02C_37 : Nat, ∃ r03A_38 : Option Addr, ∃ r03N_39 : Nat, ∃ r03C_40 : Nat, ∃ r04A_41 : Option Addr, ∃ r04N_42 : Nat, ∃ r04C_43 : Nat, ∃ r05A_44 : Option Addr, ∃ r05N_45 : Nat, ∃ r05C_46 : Nat, ∃ r1_47 : Int, ∃ r2_48 : Int, e15 = .returned (Value.tuple #[Value.agg #[Value.bool r00_31, Value.slice r01A_32 r01N_33 r01C_34, Value.slice r02A_35 r02N_36 r02C_37, Value.slice r03A_38 r03N_39 r03C_40, Value.slice r04A_41 r04N_42 r04C_43, Value.slice r05A_44 r05N_45 r05C_46], Value.int .i64 r1_47, Value.int .i64 r2_48]) ∧
                   ∀ w16 : World, w16 = w15.alloc (.cells #[Value.bool false, Value.slice none 0 0, Value.slice none 0 0, Value.slice none 0 0, Value.slice none 0 0, Value.slice none 0 0] 29) →
                   StoreP w16 (nb w15) (fun w17 =>
                   CondP ((r2_48 : Int) != 0)
                     (R (Value.bool false) w17)
                     (CondP ((r1_47 : Int) != 0)
                        (R (Value.bool false) w17)
                        (∃ g0_49 : Bool, ∃ g1A_50 : Option Addr, ∃ g1N_51 : Nat, ∃ g1C_52 : Nat, ∃ g2A_53 : Option Addr, ∃ g2N_54 : Nat, ∃ g2C_55 : Nat, ∃ g3A_56 : Option Addr, ∃ g3N_57 : Nat, ∃ g3C_58 : Nat, ∃ g4A_59 : Option Addr, ∃ g4N_60 : Nat, ∃ g4C_61 : Nat, ∃ g5A_62 : Option Addr, ∃ g5N_63 : Nat, ∃ g5C_64 : Nat, (w17.cell? (nb w15) = some (Value.bool g0_49) ∧ w17.cell? ((nb w15).add 1) = some (Value.slice g1A_50 g1N_51 g1C_52) ∧ w17.cell? ((nb w15).add 2) = some (Value.slice g2A_53 g2N_54 g2C_55) ∧ w17.cell? ((nb w15).add 3) = some (Value.slice g3A_56 g3N_57 g3C_58) ∧ w17.cell? ((nb w15).add 4) = some (Value.slice g4A_59 g4N_60 g4C_61) ∧ w17.cell? ((nb w15).add 5) = some (Value.slice g5A_62 g5N_63 g5C_64) ∧ True) ∧
                         Calls Tryz.prog 13 #[Value.agg #[Value.bool g0_49, Value.slice g1A_50 g1N_51 g1C_52, Value.slice g2A_53 g2N_54 g2C_55, Value.slice g3A_56 g3N_57 g3C_58, Value.slice g4A_59 g4N_60 g4C_61, Value.slice g5A_62 g5N_63 g5C_64]] w17 (fun e18 w18 =>
                         ∃ b_65 : Bool, e18 = .returned (Value.bool b_65) ∧
                         CondP (!b_65)
                           (R (Value.bool false) w18)
                           (Ar .i64 ((IntKind.wrap .i64 (Int.tmod (IntKind.wrap .u64 k) (IntKind.wrap .u64 n_27)) : Int) - 1) (fun n_66 =>
                            NilC endsA (fun pa_67 =>
                            (0 : Int) ≤ n_66 ∧ n_66 < ((endsN : Nat) : Int) ∧
                            ∃ n_68 : Int, w18.cell? (pa_67.add ((n_66 : Int).toNat * 1)) = some (Value.int .i64 n_68) ∧
                            (0 : Int) ≤ ((0 : Nat) : Int) ∧ ((0 : Nat) : Int) ≤ (n_68 : Int) ∧ (n_68 : Int) ≤ ((r0 : ByteArray).size : Int) ∧
                            ((((r0 : ByteArray).extract ((0 : Nat) : Int).toNat (n_68 : Int).toNat : ByteArray).size + (⟨#[110, 111, 116, 104, 105, 110, 103, 10]⟩ : ByteArray).size : Nat) : Int) ≤ IntKind.i64.max ∧
                            Calls Tryz.prog 8 #[Value.string (((r0 : ByteArray).extract ((0 : Nat) : Int).toNat (n_68 : Int).toNat : ByteArray) ++ (⟨#[110, 111, 116, 104, 105, 110, 103, 10]⟩ : ByteArray))] w18 (fun e19 w19 =>
                            ∃ r00_69 : Bool, ∃ r01A_70 : Option Addr, ∃ r01N_71 : Nat, ∃ r01C_72 : Nat, ∃ r02A_73 : Option Addr, ∃ r02N_74 : Nat, ∃ r02C_75 : Nat, ∃ r03A_76 : Option Addr, ∃ r03N_77 : Nat, ∃ r03C_78 : Nat, ∃ r04A_79 : Option Addr, ∃ r04N_80 : Nat, ∃ r04C_81 : Nat, ∃ r05A_82 : Option Addr, ∃ r05N_83 : Nat, ∃ r05C_84 : Nat, ∃ r1_85 : Int, ∃ r2_86 : Int, e19 = .returned (Value.tuple #[Value.agg #[Value.bool r00_69, Value.slice r01A_70 r01N_71 r01C_72, Value.slice r02A_73 r02N_74 r02C_75, Value.slice r03A_76 r03N_77 r03C_78, Value.slice r04A_79 r04N_80 r04C_81, Value.slice r05A_82 r05N_83 r05C_84], Value.int .i64 r1_85, Value.int .i64 r2_86]) ∧
                            Ar .i64 ((IntKind.wrap .i64 (Int.tmod (IntKind.wrap .u64 k) (IntKind.wrap .u64 n_27)) : Int) - 1) (fun n_87 =>
                            NilC endsA (fun pa_88 =>
                            (0 : Int) ≤ n_87 ∧ n_87 < ((endsN : Nat) : Int) ∧
                            ∃ n_89 : Int, w19.cell? (pa_88.add ((n_87 : Int).toNat * 1)) = some (Value.int .i64 n_89) ∧
                            Ar .i64 ((n_89 : Int) - 1) (fun n_90 =>
                            (0 : Int) ≤ ((0 : Nat) : Int) ∧ ((0 : Nat) : Int) ≤ (n_90 : Int) ∧ (n_90 : Int) ≤ ((r0 : ByteArray).size : Int) ∧
                            Calls Tryz.prog 8 #[Value.string ((r0 : ByteArray).extract ((0 : Nat) : Int).toNat (n_90 : Int).toNat)] w19 (fun e20 w20 =>
                            ∃ r00_91 : Bool, ∃ r01A_92 : Option Addr, ∃ r01N_93 : Nat, ∃ r01C_94 : Nat, ∃ r02A_95 : Option Addr, ∃ r02N_96 : Nat, ∃ r02C_97 : Nat, ∃ r03A_98 : Option Addr, ∃ r03N_99 : Nat, ∃ r03C_100 : Nat, ∃ r04A_101 : Option Addr, ∃ r04N_102 : Nat, ∃ r04C_103 : Nat, ∃ r05A_104 : Option Addr, ∃ r05N_105 : Nat, ∃ r05C_106 : Nat, ∃ r1_107 : Int, ∃ r2_108 : Int, e20 = .returned (Value.tuple #[Value.agg #[Value.bool r00_91, Value.slice r01A_92 r01N_93 r01C_94, Value.slice r02A_95 r02N_96 r02C_97, Value.slice r03A_98 r03N_99 r03C_100, Value.slice r04A_101 r04N_102 r04C_103, Value.slice r05A_104 r05N_105 r05C_106], Value.int .i64 r1_107, Value.int .i64 r2_108]) ∧
                            ∀ w21 : World, w21 = w20.alloc (.cells #[Value.bool false, Value.slice none 0 0, Value.slice none 0 0, Value.slice none 0 0, Value.slice none 0 0, Value.slice none 0 0] 29) →
                            StoreP w21 (nb w20) (fun w22 =>
                            Ar .i64 ((IntKind.wrap .i64 (Int.tmod (IntKind.wrap .u64 k) (IntKind.wrap .u64 n_27)) : Int) + 1) (fun n_109 =>
                            CondP ((r1_85 : Int) == n_109)
                              (CondP ((r2_86 : Int) == 2)
                                 (CondP ((r1_107 : Int) == (IntKind.wrap .i64 (Int.tmod (IntKind.wrap .u64 k) (IntKind.wrap .u64 n_27))))
                                    (R (Value.bool ((r2_108 : Int) == 2)) w22)
                                    (R (Value.bool false) w22))
                                 (R (Value.bool false) w22))
                              (R (Value.bool false) w22))) [Value.bool r00_91, Value.slice r01A_92 r01N_93 r01C_94, Value.slice r02A_95 r02N_96 r02C_97, Value.slice r03A_98 r03N_99 r03C_100, Value.slice r04A_101 r04N_102 r04C_103, Value.slice r05A_104 r05N_105 r05C_106] 0)))))))))))) [Value.bool r00_31, Value.slice r01A_32 r01N_33 r01C_34, Value.slice r02A_35 r02N_36 r02C_37, Value.slice r03A_38 r03N_39 r03C_40, Value.slice r04A_41 r04N_42 r04C_43, Value.slice r05A_44 r05N_45 r05C_46] 0))))))) → I21 [Value.int .i64 i, Value.slice endsA endsN endsC] w8) →
           I21 [Value.int .i64 0, Value.slice none 0 0] w6))))))
theorem vc5_eq (s0 : Bool) (s1A : Option Addr) (s1N : Nat) (s1C : Nat) (s2A : Option Addr) (s2N : Nat) (s2C : Nat) (s3A : Option Addr) (s3N : Nat) (s3C : Nat) (s4A : Option Addr) (s4N : Nat) (s4C : Nat) (s5A : Option Addr) (s5N : Nat) (s5C : Nat) (k : Int) (w : World) (R : Value → World → Prop) : vc5 s0 s1A s1N s1C s2A s2N s2C s3A s3N s3C s4A s4N s4C s5A s5N s5C k w R = denFun ctx (bodyOf Tryz.f5) Tryz.f5.results.toList [Value.agg #[Value.bool s0, Value.slice s1A s1N s1C, Value.slice s2A s2N s2C, Value.slice s3A s3N s3C, Value.slice s4A s4N s4C, Value.slice s5A s5N s5C], Value.int .i64 k] w R := by kernel_rfl
theorem vc5_calls (s0 : Bool) (s1A : Option Addr) (s1N : Nat) (s1C : Nat) (s2A : Option Addr) (s2N : Nat) (s2C : Nat) (s3A : Option Addr) (s3N : Nat) (s3C : Nat) (s4A : Option Addr) (s4N : Nat) (s4C : Nat) (s5A : Option Addr) (s5N : Nat) (s5C : Nat) (k : Int) (w : World) (R : Value → World → Prop) (h : vc5 s0 s1A s1N s1C s2A s2N s2C s3A s3N s3C s4A s4N s4C s5A s5N s5C k w R) : Calls Tryz.prog 5 #[Value.agg #[Value.bool s0, Value.slice s1A s1N s1C, Value.slice s2A s2N s2C, Value.slice s3A s3N s3C, Value.slice s4A s4N s4C, Value.slice s5A s5N s5C], Value.int .i64 k] w fun e w' => ∃ v, e = .returned v ∧ R v w' :=
  calls_of_den ctxOk (f := 5) (fn := Tryz.f5) (body := bodyOf Tryz.f5) (args := [Value.agg #[Value.bool s0, Value.slice s1A s1N s1C, Value.slice s2A s2N s2C, Value.slice s3A s3N s3C, Value.slice s4A s4N s4C, Value.slice s5A s5N s5C], Value.int .i64 k]) (by kernel_rfl) (by kernel_rfl) (by kernel_rfl) (by kernel_rfl) (Eq.mp (vc5_eq s0 s1A s1N s1C s2A s2N s2C s3A s3N s3C s4A s4N s4C s5A s5N s5C k w R) h)

/-! ### ligature/ligaturelaw06.SpecPrints: function 6 -/
def vc6 (a0 : Bool) (a1A : Option Addr) (a1N : Nat) (a1C : Nat) (a2A : Option Addr) (a2N : Nat) (a2C : Nat) (a3A : Option Addr) (a3N : Nat) (a3C : Nat) (a4A : Option Addr) (a4N : Nat) (a4C : Nat) (a5A : Option Addr) (a5N : Nat) (a5C : Nat) (b0 : Bool) (b1A : Option Addr) (b1N : Nat) (b1C : Nat) (b2A : Option Addr) (b2N : Nat) (b2C : Nat) (b3A : Option Addr) (b3N : Nat) (b3C : Nat) (b4A : Option Addr) (b4N : Nat) (b4C : Nat) (b5A : Option Addr) (b5N : Nat) (b5C : Nat) (w : World) (R : Value → World → Prop) : Prop :=
  ∀ w1 : World, w1 = w.alloc (.cells #[Value.bool a0, Value.slice a1A a1N a1C, Value.slice a2A a2N a2C, Value.slice a3A a3N a3C, Value.slice a4A a4N a4C, Value.slice a5A a5N a5C] 29) →
  ∀ w2 : World, w2 = w1.alloc (.cells #[Value.bool b0, Value.slice b1A b1N b1C, Value.slice b2A b2N b2C, Value.slice b3A b3N b3C, Value.slice b4A b4N b4C, Value.slice b5A b5N b5C] 29) →
  ∃ g0 : Bool, ∃ g1A : Option Addr, ∃ g1N : Nat, ∃ g1C : Nat, ∃ g2A : Option Addr, ∃ g2N : Nat, ∃ g2C : Nat, ∃ g3A : Option Addr, ∃ g3N : Nat, ∃ g3C : Nat, ∃ g4A : Option Addr, ∃ g4N : Nat, ∃ g4C : Nat, ∃ g5A : Option Addr, ∃ g5N : Nat, ∃ g5C : Nat, (w2.cell? (nb w) = some (Value.bool g0) ∧ w2.cell? ((nb w).add 1) = some (Value.slice g1A g1N g1C) ∧ w2.cell? ((nb w).add 2) = some (Value.slice g2A g2N g2C) ∧ w2.cell? ((nb w).add 3) = some (Value.slice g3A g3N g3C) ∧ w2.cell? ((nb w).add 4) = some (Value.slice g4A g4N g4C) ∧ w2.cell? ((nb w).add 5) = some (Value.slice g5A g5N g5C) ∧ True) ∧
  Calls Tryz.prog 11 #[Value.agg #[Value.bool g0, Value.slice g1A g1N g1C, Value.slice g2A g2N g2C, Value.slice g3A g3N g3C, Value.slice g4A g4N g4C, Value.slice g5A g5N g5C]] w2 (fun e3 w3 =>
  ∃ b : Bool, e3 = .returned (Value.bool b) ∧
  CondP b
    (Calls Tryz.prog 7 #[] w3 (fun e4 w4 =>
     ∃ b_1 : Bool, e4 = .returned (Value.bool b_1) ∧
     R (Value.bool b_1) w4))
    (∃ g0_2 : Bool, ∃ g1A_3 : Option Addr, ∃ g1N_4 : Nat, ∃ g1C_5 : Nat, ∃ g2A_6 : Option Addr, ∃ g2N_7 : Nat, ∃ g2C_8 : Nat, ∃ g3A_9 : Option Addr, ∃ g3N_10 : Nat, ∃ g3C_11 : Nat, ∃ g4A_12 : Option Addr, ∃ g4N_13 : Nat, ∃ g4C_14 : Nat, ∃ g5A_15 : Option Addr, ∃ g5N_16 : Nat, ∃ g5C_17 : Nat, (w3.cell? (nb w1) = some (Value.bool g0_2) ∧ w3.cell? ((nb w1).add 1) = some (Value.slice g1A_3 g1N_4 g1C_5) ∧ w3.cell? ((nb w1).add 2) = some (Value.slice g2A_6 g2N_7 g2C_8) ∧ w3.cell? ((nb w1).add 3) = some (Value.slice g3A_9 g3N_10 g3C_11) ∧ w3.cell? ((nb w1).add 4) = some (Value.slice g4A_12 g4N_13 g4C_14) ∧ w3.cell? ((nb w1).add 5) = some (Value.slice g5A_15 g5N_16 g5C_17) ∧ True) ∧
     Calls Tryz.prog 11 #[Value.agg #[Value.bool g0_2, Value.slice g1A_3 g1N_4 g1C_5, Value.slice g2A_6 g2N_7 g2C_8, Value.slice g3A_9 g3N_10 g3C_11, Value.slice g4A_12 g4N_13 g4C_14, Value.slice g5A_15 g5N_16 g5C_17]] w3 (fun e5 w5 =>
     ∃ b_18 : Bool, e5 = .returned (Value.bool b_18) ∧
     CondP b_18
       (Calls Tryz.prog 7 #[] w5 (fun e6 w6 =>
        ∃ b_19 : Bool, e6 = .returned (Value.bool b_19) ∧
        R (Value.bool b_19) w6))
       (∃ g0_20 : Bool, ∃ g1A_21 : Option Addr, ∃ g1N_22 : Nat, ∃ g1C_23 : Nat, ∃ g2A_24 : Option Addr, ∃ g2N_25 : Nat, ∃ g2C_26 : Nat, ∃ g3A_27 : Option Addr, ∃ g3N_28 : Nat, ∃ g3C_29 : Nat, ∃ g4A_30 : Option Addr, ∃ g4N_31 : Nat, ∃ g4C_32 : Nat, ∃ g5A_33 : Option Addr, ∃ g5N_34 : Nat, ∃ g5C_35 : Nat, (w5.cell? (nb w) = some (Value.bool g0_20) ∧ w5.cell? ((nb w).add 1) = some (Value.slice g1A_21 g1N_22 g1C_23) ∧ w5.cell? ((nb w).add 2) = some (Value.slice g2A_24 g2N_25 g2C_26) ∧ w5.cell? ((nb w).add 3) = some (Value.slice g3A_27 g3N_28 g3C_29) ∧ w5.cell? ((nb w).add 4) = some (Value.slice g4A_30 g4N_31 g4C_32) ∧ w5.cell? ((nb w).add 5) = some (Value.slice g5A_33 g5N_34 g5C_35) ∧ True) ∧
        Calls Tryz.prog 12 #[Value.agg #[Value.bool g0_20, Value.slice g1A_21 g1N_22 g1C_23, Value.slice g2A_24 g2N_25 g2C_26, Value.slice g3A_27 g3N_28 g3C_29, Value.slice g4A_30 g4N_31 g4C_32, Value.slice g5A_33 g5N_34 g5C_35]] w5 (fun e7 w7 =>
        ∃ r0 : ByteArray, ∃ r1 : Int, e7 = .returned (Value.tuple #[Value.string r0, Value.int .i64 r1]) ∧
        ∃ g0_36 : Bool, ∃ g1A_37 : Option Addr, ∃ g1N_38 : Nat, ∃ g1C_39 : Nat, ∃ g2A_40 : Option Addr, ∃ g2N_41 : Nat, ∃ g2C_42 : Nat, ∃ g3A_43 : Option Addr, ∃ g3N_44 : Nat, ∃ g3C_45 : Nat, ∃ g4A_46 : Option Addr, ∃ g4N_47 : Nat, ∃ g4C_48 : Nat, ∃ g5A_49 : Option Addr, ∃ g5N_50 : Nat, ∃ g5C_51 : Nat, (w7.cell? (nb w) = some (Value.bool g0_36) ∧ w7.cell? ((nb w).add 1) = some (Value.slice g1A_37 g1N_38 g1C_39) ∧ w7.cell? ((nb w).add 2) = some (Value.slice g2A_40 g2N_41 g2C_42) ∧ w7.cell? ((nb w).add 3) = some (Value.slice g3A_43 g3N_44 g3C_45) ∧ w7.cell? ((nb w).add 4) = some (Value.slice g4A_46 g4N_47 g4C_48) ∧ w7.cell? ((nb w).add 5) = some (Value.slice g5A_49 g5N_50 g5C_51) ∧ True) ∧
        Calls Tryz.prog 14 #[Value.agg #[Value.bool g0_36, Value.slice g1A_37 g1N_38 g1C_39, Value.slice g2A_40 g2N_41 g2C_42, Value.slice g3A_43 g3N_44 g3C_45, Value.slice g4A_46 g4N_47 g4C_48, Value.slice g5A_49 g5N_50 g5C_51]] w7 (fun e8 w8 =>
        ∃ b_52 : Bool, e8 = .returned (Value.bool b_52) ∧
        ∀ w9 : World, w9 = w8.drew →
        ∃ g0_53 : Bool, ∃ g1A_54 : Option Addr, ∃ g1N_55 : Nat, ∃ g1C_56 : Nat, ∃ g2A_57 : Option Addr, ∃ g2N_58 : Nat, ∃ g2C_59 : Nat, ∃ g3A_60 : Option Addr, ∃ g3N_61 : Nat, ∃ g3C_62 : Nat, ∃ g4A_63 : Option Addr, ∃ g4N_64 : Nat, ∃ g4C_65 : Nat, ∃ g5A_66 : Option Addr, ∃ g5N_67 : Nat, ∃ g5C_68 : Nat, (w9.cell? (nb w) = some (Value.bool g0_53) ∧ w9.cell? ((nb w).add 1) = some (Value.slice g1A_54 g1N_55 g1C_56) ∧ w9.cell? ((nb w).add 2) = some (Value.slice g2A_57 g2N_58 g2C_59) ∧ w9.cell? ((nb w).add 3) = some (Value.slice g3A_60 g3N_61 g3C_62) ∧ w9.cell? ((nb w).add 4) = some (Value.slice g4A_63 g4N_64 g4C_65) ∧ w9.cell? ((nb w).add 5) = some (Value.slice g5A_66 g5N_67 g5C_68) ∧ True) ∧
        Calls Tryz.prog 13 #[Value.agg #[Value.bool g0_53, Value.slice g1A_54 g1N_55 g1C_56, Value.slice g2A_57 g2N_58 g2C_59, Value.slice g3A_60 g3N_61 g3C_62, Value.slice g4A_63 g4N_64 g4C_65, Value.slice g5A_66 g5N_67 g5C_68]] w9 (fun e10 w10 =>
        ∃ b_69 : Bool, e10 = .returned (Value.bool b_69) ∧
        CondP (!(b_69 == b_52))
          (R (Value.bool false) w10)
          (∃ g0_70 : Bool, ∃ g1A_71 : Option Addr, ∃ g1N_72 : Nat, ∃ g1C_73 : Nat, ∃ g2A_74 : Option Addr, ∃ g2N_75 : Nat, ∃ g2C_76 : Nat, ∃ g3A_77 : Option Addr, ∃ g3N_78 : Nat, ∃ g3C_79 : Nat, ∃ g4A_80 : Option Addr, ∃ g4N_81 : Nat, ∃ g4C_82 : Nat, ∃ g5A_83 : Option Addr, ∃ g5N_84 : Nat, ∃ g5C_85 : Nat, (w10.cell? (nb w) = some (Value.bool g0_70) ∧ w10.cell? ((nb w).add 1) = some (Value.slice g1A_71 g1N_72 g1C_73) ∧ w10.cell? ((nb w).add 2) = some (Value.slice g2A_74 g2N_75 g2C_76) ∧ w10.cell? ((nb w).add 3) = some (Value.slice g3A_77 g3N_78 g3C_79) ∧ w10.cell? ((nb w).add 4) = some (Value.slice g4A_80 g4N_81 g4C_82) ∧ w10.cell? ((nb w).add 5) = some (Value.slice g5A_83 g5N_84 g5C_85) ∧ True) ∧
           ∃ g0_86 : Bool, ∃ g1A_87 : Option Addr, ∃ g1N_88 : Nat, ∃ g1C_89 : Nat, ∃ g2A_90 : Option Addr, ∃ g2N_91 : Nat, ∃ g2C_92 : Nat, ∃ g3A_93 : Option Addr, ∃ g3N_94 : Nat, ∃ g3C_95 : Nat, ∃ g4A_96 : Option Addr, ∃ g4N_97 : Nat, ∃ g4C_98 : Nat, ∃ g5A_99 : Option Addr, ∃ g5N_100 : Nat, ∃ g5C_101 : Nat, (w10.cell? (nb w1) = some (Value.bool g0_86) ∧ w10.cell? ((nb w1).add 1) = some (Value.slice g1A_87 g1N_88 g1C_89) ∧ w10.cell? ((nb w1).add 2) = some (Value.slice g2A_90 g2N_91 g2C_92) ∧ w10.cell? ((nb w1).add 3) = some (Value.slice g3A_93 g3N_94 g3C_95) ∧ w10.cell? ((nb w1).add 4) = some (Value.slice g4A_96 g4N_97 g4C_98) ∧ w10.cell? ((nb w1).add 5) = some (Value.slice g5A_99 g5N_100 g5C_101) ∧ True) ∧
           ∃ g0_102 : Bool, ∃ g1A_103 : Option Addr, ∃ g1N_104 : Nat, ∃ g1C_105 : Nat, ∃ g2A_106 : Option Addr, ∃ g2N_107 : Nat, ∃ g2C_108 : Nat, ∃ g3A_109 : Option Addr, ∃ g3N_110 : Nat, ∃ g3C_111 : Nat, ∃ g4A_112 : Option Addr, ∃ g4N_113 : Nat, ∃ g4C_114 : Nat, ∃ g5A_115 : Option Addr, ∃ g5N_116 : Nat, ∃ g5C_117 : Nat, (w10.cell? (nb w) = some (Value.bool g0_102) ∧ w10.cell? ((nb w).add 1) = some (Value.slice g1A_103 g1N_104 g1C_105) ∧ w10.cell? ((nb w).add 2) = some (Value.slice g2A_106 g2N_107 g2C_108) ∧ w10.cell? ((nb w).add 3) = some (Value.slice g3A_109 g3N_110 g3C_111) ∧ w10.cell? ((nb w).add 4) = some (Value.slice g4A_112 g4N_113 g4C_114) ∧ w10.cell? ((nb w).add 5) = some (Value.slice g5A_115 g5N_116 g5C_117) ∧ True) ∧
           ∃ g0_118 : Bool, ∃ g1A_119 : Option Addr, ∃ g1N_120 : Nat, ∃ g1C_121 : Nat, ∃ g2A_122 : Option Addr, ∃ g2N_123 : Nat, ∃ g2C_124 : Nat, ∃ g3A_125 : Option Addr, ∃ g3N_126 : Nat, ∃ g3C_127 : Nat, ∃ g4A_128 : Option Addr, ∃ g4N_129 : Nat, ∃ g4C_130 : Nat, ∃ g5A_131 : Option Addr, ∃ g5N_132 : Nat, ∃ g5C_133 : Nat, (w10.cell? (nb w1) = some (Value.bool g0_118) ∧ w10.cell? ((nb w1).add 1) = some (Value.slice g1A_119 g1N_120 g1C_121) ∧ w10.cell? ((nb w1).add 2) = some (Value.slice g2A_122 g2N_123 g2C_124) ∧ w10.cell? ((nb w1).add 3) = some (Value.slice g3A_125 g3N_126 g3C_127) ∧ w10.cell? ((nb w1).add 4) = some (Value.slice g4A_128 g4N_129 g4C_130) ∧ w10.cell? ((nb w1).add 5) = some (Value.slice g5A_131 g5N_132 g5C_133) ∧ True) ∧
           Calls Tryz.prog 15 #[Value.agg #[Value.bool g0_70, Value.slice g1A_71 g1N_72 g1C_73, Value.slice g2A_74 g2N_75 g2C_76, Value.slice g3A_77 g3N_78 g3C_79, Value.slice g4A_80 g4N_81 g4C_82, Value.slice g5A_83 g5N_84 g5C_85], Value.agg #[Value.bool g0_86, Value.slice g1A_87 g1N_88 g1C_89, Value.slice g2A_90 g2N_91 g2C_92, Value.slice g3A_93 g3N_94 g3C_95, Value.slice g4A_96 g4N_97 g4C_98, Value.slice g5A_99 g5N_100 g5C_101]] w10 (fun e11 w11 =>
           ∃ b_134 : Bool, e11 = .returned (Value.bool b_134) ∧
           (w11.cell? (nb w1) = some (Value.bool g0_118) ∧ w11.cell? ((nb w1).add 1) = some (Value.slice g1A_119 g1N_120 g1C_121) ∧ w11.cell? ((nb w1).add 2) = some (Value.slice g2A_122 g2N_123 g2C_124) ∧ w11.cell? ((nb w1).add 3) = some (Value.slice g3A_125 g3N_126 g3C_127) ∧ w11.cell? ((nb w1).add 4) = some (Value.slice g4A_128 g4N_129 g4C_130) ∧ w11.cell? ((nb w1).add 5) = some (Value.slice g5A_131 g5N_132 g5C_133) ∧ True) ∧
           (w11.cell? (nb w) = some (Value.bool g0_102) ∧ w11.cell? ((nb w).add 1) = some (Value.slice g1A_103 g1N_104 g1C_105) ∧ w11.cell? ((nb w).add 2) = some (Value.slice g2A_106 g2N_107 g2C_108) ∧ w11.cell? ((nb w).add 3) = some (Value.slice g3A_109 g3N_110 g3C_111) ∧ w11.cell? ((nb w).add 4) = some (Value.slice g4A_112 g4N_113 g4C_114) ∧ w11.cell? ((nb w).add 5) = some (Value.slice g5A_115 g5N_116 g5C_117) ∧ True) ∧
           Calls Tryz.prog 9 #[Value.agg #[Value.bool g0_102, Value.slice g1A_103 g1N_104 g1C_105, Value.slice g2A_106 g2N_107 g2C_108, Value.slice g3A_109 g3N_110 g3C_111, Value.slice g4A_112 g4N_113 g4C_114, Value.slice g5A_115 g5N_116 g5C_117], Value.agg #[Value.bool g0_118, Value.slice g1A_119 g1N_120 g1C_121, Value.slice g2A_122 g2N_123 g2C_124, Value.slice g3A_125 g3N_126 g3C_127, Value.slice g4A_128 g4N_129 g4C_130, Value.slice g5A_131 g5N_132 g5C_133]] w11 (fun e12 w12 =>
           ∃ b_135 : Bool, e12 = .returned (Value.bool b_135) ∧
           CondP (!(b_134 == b_135))
             (R (Value.bool false) w12)
             (∃ g0_136 : Bool, ∃ g1A_137 : Option Addr, ∃ g1N_138 : Nat, ∃ g1C_139 : Nat, ∃ g2A_140 : Option Addr, ∃ g2N_141 : Nat, ∃ g2C_142 : Nat, ∃ g3A_143 : Option Addr, ∃ g3N_144 : Nat, ∃ g3C_145 : Nat, ∃ g4A_146 : Option Addr, ∃ g4N_147 : Nat, ∃ g4C_148 : Nat, ∃ g5A_149 : Option Addr, ∃ g5N_150 : Nat, ∃ g5C_151 : Nat, (w12.cell? (nb w) = some (Value.bool g0_136) ∧ w12.cell? ((nb w).add 1) = some (Value.slice g1A_137 g1N_138 g1C_139) ∧ w12.cell? ((nb w).add 2) = some (Value.slice g2A_140 g2N_141 g2C_142) ∧ w12.cell? ((nb w).add 3) = some (Value.slice g3A_143 g3N_144 g3C_145) ∧ w12.cell? ((nb w).add 4) = some (Value.slice g4A_146 g4N_147 g4C_148) ∧ w12.cell? ((nb w).add 5) = some (Value.slice g5A_149 g5N_150 g5C_151) ∧ True) ∧
              ∃ g0_152 : Bool, ∃ g1A_153 : Option Addr, ∃ g1N_154 : Nat, ∃ g1C_155 : Nat, ∃ g2A_156 : Option Addr, ∃ g2N_157 : Nat, ∃ g2C_158 : Nat, ∃ g3A_159 : Option Addr, ∃ g3N_160 : Nat, ∃ g3C_161 : Nat, ∃ g4A_162 : Option Addr, ∃ g4N_163 : Nat, ∃ g4C_164 : Nat, ∃ g5A_165 : Option Addr, ∃ g5N_166 : Nat, ∃ g5C_167 : Nat, (w12.cell? (nb w) = some (Value.bool g0_152) ∧ w12.cell? ((nb w).add 1) = some (Value.slice g1A_153 g1N_154 g1C_155) ∧ w12.cell? ((nb w).add 2) = some (Value.slice g2A_156 g2N_157 g2C_158) ∧ w12.cell? ((nb w).add 3) = some (Value.slice g3A_159 g3N_160 g3C_161) ∧ w12.cell? ((nb w).add 4) = some (Value.slice g4A_162 g4N_163 g4C_164) ∧ w12.cell? ((nb w).add 5) = some (Value.slice g5A_165 g5N_166 g5C_167) ∧ True) ∧
              Calls Tryz.prog 15 #[Value.agg #[Value.bool g0_136, Value.slice g1A_137 g1N_138 g1C_139, Value.slice g2A_140 g2N_141 g2C_142, Value.slice g3A_143 g3N_144 g3C_145, Value.slice g4A_146 g4N_147 g4C_148, Value.slice g5A_149 g5N_150 g5C_151], Value.agg #[Value.bool g0_152, Value.slice g1A_153 g1N_154 g1C_155, Value.slice g2A_156 g2N_157 g2C_158, Value.slice g3A_159 g3N_160 g3C_161, Value.slice g4A_162 g4N_163 g4C_164, Value.slice g5A_165 g5N_166 g5C_167]] w12 (fun e13 w13 =>
              ∃ b_168 : Bool, e13 = .returned (Value.bool b_168) ∧
              CondP (!b_168)
                (R (Value.bool false) w13)
                (CondP (!b_52)
                   (CondP ((r0 : ByteArray).toList == (⟨#[]⟩ : ByteArray).toList)
                      (CondP ((r1 : Int) == 1)
                         (Calls Tryz.prog 7 #[] w13 (fun e14 w14 =>
                          ∃ b_169 : Bool, e14 = .returned (Value.bool b_169) ∧
                          R (Value.bool b_169) w14))
                         (R (Value.bool false) w13))
                      (R (Value.bool false) w13))
                   (∃ g0_170 : Bool, ∃ g1A_171 : Option Addr, ∃ g1N_172 : Nat, ∃ g1C_173 : Nat, ∃ g2A_174 : Option Addr, ∃ g2N_175 : Nat, ∃ g2C_176 : Nat, ∃ g3A_177 : Option Addr, ∃ g3N_178 : Nat, ∃ g3C_179 : Nat, ∃ g4A_180 : Option Addr, ∃ g4N_181 : Nat, ∃ g4C_182 : Nat, ∃ g5A_183 : Option Addr, ∃ g5N_184 : Nat, ∃ g5C_185 : Nat, (w13.cell? (nb w) = some (Value.bool g0_170) ∧ w13.cell? ((nb w).add 1) = some (Value.slice g1A_171 g1N_172 g1C_173) ∧ w13.cell? ((nb w).add 2) = some (Value.slice g2A_174 g2N_175 g2C_176) ∧ w13.cell? ((nb w).add 3) = some (Value.slice g3A_177 g3N_178 g3C_179) ∧ w13.cell? ((nb w).add 4) = some (Value.slice g4A_180 g4N_181 g4C_182) ∧ w13.cell? ((nb w).add 5) = some (Value.slice g5A_183 g5N_184 g5C_185) ∧ True) ∧
                    Calls Tryz.prog 16 #[Value.agg #[Value.bool g0_170, Value.slice g1A_171 g1N_172 g1C_173, Value.slice g2A_174 g2N_175 g2C_176, Value.slice g3A_177 g3N_178 g3C_179, Value.slice g4A_180 g4N_181 g4C_182, Value.slice g5A_183 g5N_184 g5C_185]] w13 (fun e15 w15 =>
                    ∃ s : ByteArray, e15 = .returned (Value.string s) ∧
                    CondP ((r0 : ByteArray).toList == (s : ByteArray).toList)
                      (CondP ((r1 : Int) == 0)
                         (Calls Tryz.prog 7 #[] w15 (fun e16 w16 =>
                          ∃ b_186 : Bool, e16 = .returned (Value.bool b_186) ∧
                          R (Value.bool b_186) w16))
                         (R (Value.bool false) w15))
                      (R (Value.bool false) w15))))))))))))))))
theorem vc6_eq (a0 : Bool) (a1A : Option Addr) (a1N : Nat) (a1C : Nat) (a2A : Option Addr) (a2N : Nat) (a2C : Nat) (a3A : Option Addr) (a3N : Nat) (a3C : Nat) (a4A : Option Addr) (a4N : Nat) (a4C : Nat) (a5A : Option Addr) (a5N : Nat) (a5C : Nat) (b0 : Bool) (b1A : Option Addr) (b1N : Nat) (b1C : Nat) (b2A : Option Addr) (b2N : Nat) (b2C : Nat) (b3A : Option Addr) (b3N : Nat) (b3C : Nat) (b4A : Option Addr) (b4N : Nat) (b4C : Nat) (b5A : Option Addr) (b5N : Nat) (b5C : Nat) (w : World) (R : Value → World → Prop) : vc6 a0 a1A a1N a1C a2A a2N a2C a3A a3N a3C a4A a4N a4C a5A a5N a5C b0 b1A b1N b1C b2A b2N b2C b3A b3N b3C b4A b4N b4C b5A b5N b5C w R = denFun ctx (bodyOf Tryz.f6) Tryz.f6.results.toList [Value.agg #[Value.bool a0, Value.slice a1A a1N a1C, Value.slice a2A a2N a2C, Value.slice a3A a3N a3C, Value.slice a4A a4N a4C, Value.slice a5A a5N a5C], Value.agg #[Value.bool b0, Value.slice b1A b1N b1C, Value.slice b2A b2N b2C, Value.slice b3A b3N b3C, Value.slice b4A b4N b4C, Value.slice b5A b5N b5C]] w R := by kernel_rfl
theorem vc6_calls (a0 : Bool) (a1A : Option Addr) (a1N : Nat) (a1C : Nat) (a2A : Option Addr) (a2N : Nat) (a2C : Nat) (a3A : Option Addr) (a3N : Nat) (a3C : Nat) (a4A : Option Addr) (a4N : Nat) (a4C : Nat) (a5A : Option Addr) (a5N : Nat) (a5C : Nat) (b0 : Bool) (b1A : Option Addr) (b1N : Nat) (b1C : Nat) (b2A : Option Addr) (b2N : Nat) (b2C : Nat) (b3A : Option Addr) (b3N : Nat) (b3C : Nat) (b4A : Option Addr) (b4N : Nat) (b4C : Nat) (b5A : Option Addr) (b5N : Nat) (b5C : Nat) (w : World) (R : Value → World → Prop) (h : vc6 a0 a1A a1N a1C a2A a2N a2C a3A a3N a3C a4A a4N a4C a5A a5N a5C b0 b1A b1N b1C b2A b2N b2C b3A b3N b3C b4A b4N b4C b5A b5N b5C w R) : Calls Tryz.prog 6 #[Value.agg #[Value.bool a0, Value.slice a1A a1N a1C, Value.slice a2A a2N a2C, Value.slice a3A a3N a3C, Value.slice a4A a4N a4C, Value.slice a5A a5N a5C], Value.agg #[Value.bool b0, Value.slice b1A b1N b1C, Value.slice b2A b2N b2C, Value.slice b3A b3N b3C, Value.slice b4A b4N b4C, Value.slice b5A b5N b5C]] w fun e w' => ∃ v, e = .returned v ∧ R v w' :=
  calls_of_den ctxOk (f := 6) (fn := Tryz.f6) (body := bodyOf Tryz.f6) (args := [Value.agg #[Value.bool a0, Value.slice a1A a1N a1C, Value.slice a2A a2N a2C, Value.slice a3A a3N a3C, Value.slice a4A a4N a4C, Value.slice a5A a5N a5C], Value.agg #[Value.bool b0, Value.slice b1A b1N b1C, Value.slice b2A b2N b2C, Value.slice b3A b3N b3C, Value.slice b4A b4N b4C, Value.slice b5A b5N b5C]]) (by kernel_rfl) (by kernel_rfl) (by kernel_rfl) (by kernel_rfl) (Eq.mp (vc6_eq a0 a1A a1N a1C a2A a2N a2C a3A a3N a3C a4A a4N a4C a5A a5N a5C b0 b1A b1N b1C b2A b2N b2C b3A b3N b3C b4A b4N b4C b5A b5N b5C w R) h)

/-! ### ligature/ligaturelaw06.awake: function 7 -/
def vc7 (w : World) (R : Value → World → Prop) : Prop :=
  Calls Tryz.prog 8 #[Value.string ⟨#[118, 111, 99, 97, 98, 32, 109, 101, 114, 103, 101, 115, 10, 109, 101, 114, 103, 101, 32, 57, 55, 32, 57, 56, 10, 115, 112, 101, 99, 105, 97, 108, 32, 51, 48, 48, 32, 51, 99, 55, 99, 51, 101, 10]⟩] w (fun e1 w1 =>
  ∃ r00 : Bool, ∃ r01A : Option Addr, ∃ r01N : Nat, ∃ r01C : Nat, ∃ r02A : Option Addr, ∃ r02N : Nat, ∃ r02C : Nat, ∃ r03A : Option Addr, ∃ r03N : Nat, ∃ r03C : Nat, ∃ r04A : Option Addr, ∃ r04N : Nat, ∃ r04C : Nat, ∃ r05A : Option Addr, ∃ r05N : Nat, ∃ r05C : Nat, ∃ r1 : Int, ∃ r2 : Int, e1 = .returned (Value.tuple #[Value.agg #[Value.bool r00, Value.slice r01A r01N r01C, Value.slice r02A r02N r02C, Value.slice r03A r03N r03C, Value.slice r04A r04N r04C, Value.slice r05A r05N r05C], Value.int .i64 r1, Value.int .i64 r2]) ∧
  ∀ w2 : World, w2 = w1.alloc (.cells #[Value.bool false, Value.slice none 0 0, Value.slice none 0 0, Value.slice none 0 0, Value.slice none 0 0, Value.slice none 0 0] 29) →
  StoreP w2 (nb w1) (fun w3 =>
  ∃ g0 : Bool, ∃ g1A : Option Addr, ∃ g1N : Nat, ∃ g1C : Nat, ∃ g2A : Option Addr, ∃ g2N : Nat, ∃ g2C : Nat, ∃ g3A : Option Addr, ∃ g3N : Nat, ∃ g3C : Nat, ∃ g4A : Option Addr, ∃ g4N : Nat, ∃ g4C : Nat, ∃ g5A : Option Addr, ∃ g5N : Nat, ∃ g5C : Nat, (w3.cell? (nb w1) = some (Value.bool g0) ∧ w3.cell? ((nb w1).add 1) = some (Value.slice g1A g1N g1C) ∧ w3.cell? ((nb w1).add 2) = some (Value.slice g2A g2N g2C) ∧ w3.cell? ((nb w1).add 3) = some (Value.slice g3A g3N g3C) ∧ w3.cell? ((nb w1).add 4) = some (Value.slice g4A g4N g4C) ∧ w3.cell? ((nb w1).add 5) = some (Value.slice g5A g5N g5C) ∧ True) ∧
  Calls Tryz.prog 12 #[Value.agg #[Value.bool g0, Value.slice g1A g1N g1C, Value.slice g2A g2N g2C, Value.slice g3A g3N g3C, Value.slice g4A g4N g4C, Value.slice g5A g5N g5C]] w3 (fun e4 w4 =>
  ∃ r0 : ByteArray, ∃ r1_1 : Int, e4 = .returned (Value.tuple #[Value.string r0, Value.int .i64 r1_1]) ∧
  CondP ((r1 : Int) == 0)
    (CondP ((r2 : Int) == 0)
       (∃ lA : Option Addr, ∃ lN : Nat, ∃ lC : Nat, w4.cell? ((nb w1).add 1) = some (Value.slice lA lN lC) ∧
        CondP ((((lN : Nat) : Int) : Int) == 1)
          (∃ lA_2 : Option Addr, ∃ lN_3 : Nat, ∃ lC_4 : Nat, w4.cell? ((nb w1).add 3) = some (Value.slice lA_2 lN_3 lC_4) ∧
           NilC lA_2 (fun pa =>
           (0 : Int) ≤ 0 ∧ 0 < ((lN_3 : Nat) : Int) ∧
           ∃ g0_5 : Int, ∃ g1 : ByteArray, (w4.cell? (pa.add ((0 : Int).toNat * 2)) = some (Value.int .i64 g0_5) ∧ w4.cell? ((pa.add ((0 : Int).toNat * 2)).add 1) = some (Value.string g1) ∧ True) ∧
           CondP (((g0_5 : Int) == 300) && (((g1 : ByteArray).toList == (⟨#[60, 124, 62]⟩ : ByteArray).toList) && (true)))
             (CondP ((r1_1 : Int) == 0)
                (R (Value.bool ((((r0 : ByteArray).size : Int) : Int) == 44)) w4)
                (R (Value.bool false) w4))
             (R (Value.bool false) w4)))
          (R (Value.bool false) w4))
       (R (Value.bool false) w4))
    (R (Value.bool false) w4))) [Value.bool r00, Value.slice r01A r01N r01C, Value.slice r02A r02N r02C, Value.slice r03A r03N r03C, Value.slice r04A r04N r04C, Value.slice r05A r05N r05C] 0)
theorem vc7_eq (w : World) (R : Value → World → Prop) : vc7 w R = denFun ctx (bodyOf Tryz.f7) Tryz.f7.results.toList [] w R := by kernel_rfl
theorem vc7_calls (w : World) (R : Value → World → Prop) (h : vc7 w R) : Calls Tryz.prog 7 #[] w fun e w' => ∃ v, e = .returned v ∧ R v w' :=
  calls_of_den ctxOk (f := 7) (fn := Tryz.f7) (body := bodyOf Tryz.f7) (args := []) (by kernel_rfl) (by kernel_rfl) (by kernel_rfl) (by kernel_rfl) (Eq.mp (vc7_eq w R) h)

/-! ### ligature/spec.Parse: function 8 -/
def vc8 (text : ByteArray) (w : World) (R : Value → World → Prop) : Prop :=
  ∀ w1 : World, w1 = w.alloc (.cells #[Value.bool false, Value.slice none 0 0, Value.slice none 0 0, Value.slice none 0 0, Value.slice none 0 0, Value.slice none 0 0] 29) →
  CondP (decide ((((text : ByteArray).size : Int) : Int) > 60000))
    (StoreP w1 (nb w) (fun w2 =>
     ∃ res0 : Bool, ∃ res1A : Option Addr, ∃ res1N : Nat, ∃ res1C : Nat, ∃ res2A : Option Addr, ∃ res2N : Nat, ∃ res2C : Nat, ∃ res3A : Option Addr, ∃ res3N : Nat, ∃ res3C : Nat, ∃ res4A : Option Addr, ∃ res4N : Nat, ∃ res4C : Nat, ∃ res5A : Option Addr, ∃ res5N : Nat, ∃ res5C : Nat, (w2.cell? (nb w) = some (Value.bool res0) ∧ w2.cell? ((nb w).add 1) = some (Value.slice res1A res1N res1C) ∧ w2.cell? ((nb w).add 2) = some (Value.slice res2A res2N res2C) ∧ w2.cell? ((nb w).add 3) = some (Value.slice res3A res3N res3C) ∧ w2.cell? ((nb w).add 4) = some (Value.slice res4A res4N res4C) ∧ w2.cell? ((nb w).add 5) = some (Value.slice res5A res5N res5C) ∧ True) ∧
     R (Value.tuple #[Value.agg #[Value.bool res0, Value.slice res1A res1N res1C, Value.slice res2A res2N res2C, Value.slice res3A res3N res3C, Value.slice res4A res4N res4C, Value.slice res5A res5N res5C], Value.int .i64 0, Value.int .i64 3]) w2) [Value.bool false, Value.slice none 0 0, Value.slice none 0 0, Value.slice none 0 0, Value.slice none 0 0, Value.slice none 0 0] 0)
    (Calls Tryz.prog 17 #[Value.string text] w1 (fun e3 w3 =>
     ∃ r0A : Option Addr, ∃ r0N : Nat, ∃ r0C : Nat, ∃ r1 : Bool, e3 = .returned (Value.tuple #[Value.slice r0A r0N r0C, Value.bool r1]) ∧
     ∀ w4 : World, w4 = w3.alloc (.cells #[Value.bool false, Value.slice none 0 0, Value.slice none 0 0, Value.slice none 0 0, Value.slice none 0 0, Value.slice none 0 0, Value.int .i64 0] 51) →
     ∀ I1 : List Value → World → Prop, (∀ y23 : Int, ∀ y4 : Int, ∀ y3 : Int, ∀ w5 : World, (CondP (decide ((y23 : Int) < ((r0N : Nat) : Int)))
         (NilC r0A (fun pa =>
          (0 : Int) ≤ y23 ∧ y23 < ((r0N : Nat) : Int) ∧
          ∃ s : ByteArray, w5.cell? (pa.add ((y23 : Int).toNat * 1)) = some (Value.string s) ∧
          Calls Tryz.prog 18 #[Value.pointer (some (nb w3)), Value.int .i64 y23, Value.string s] w5 (fun e6 w6 =>
          ∃ b : Bool, e6 = .returned (Value.bool b) ∧
          CondP (!b)
            (Ar .i64 ((y23 : Int) + 1) (fun n =>
             StoreP w6 (nb w) (fun w7 =>
             ∃ res0_2 : Bool, ∃ res1A_3 : Option Addr, ∃ res1N_4 : Nat, ∃ res1C_5 : Nat, ∃ res2A_6 : Option Addr, ∃ res2N_7 : Nat, ∃ res2C_8 : Nat, ∃ res3A_9 : Option Addr, ∃ res3N_10 : Nat, ∃ res3C_11 : Nat, ∃ res4A_12 : Option Addr, ∃ res4N_13 : Nat, ∃ res4C_14 : Nat, ∃ res5A_15 : Option Addr, ∃ res5N_16 : Nat, ∃ res5C_17 : Nat, (w7.cell? (nb w) = some (Value.bool res0_2) ∧ w7.cell? ((nb w).add 1) = some (Value.slice res1A_3 res1N_4 res1C_5) ∧ w7.cell? ((nb w).add 2) = some (Value.slice res2A_6 res2N_7 res2C_8) ∧ w7.cell? ((nb w).add 3) = some (Value.slice res3A_9 res3N_10 res3C_11) ∧ w7.cell? ((nb w).add 4) = some (Value.slice res4A_12 res4N_13 res4C_14) ∧ w7.cell? ((nb w).add 5) = some (Value.slice res5A_15 res5N_16 res5C_17) ∧ True) ∧
             R (Value.tuple #[Value.agg #[Value.bool res0_2, Value.slice res1A_3 res1N_4 res1C_5, Value.slice res2A_6 res2N_7 res2C_8, Value.slice res3A_9 res3N_10 res3C_11, Value.slice res4A_12 res4N_13 res4C_14, Value.slice res5A_15 res5N_16 res5C_17], Value.int .i64 n, Value.int .i64 2]) w7) [Value.bool false, Value.slice none 0 0, Value.slice none 0 0, Value.slice none 0 0, Value.slice none 0 0, Value.slice none 0 0] 0))
            (Ar .i64 ((y23 : Int) + 1) (fun n_18 =>
             I1 [Value.int .i64 n_18, Value.int .i64 y4, Value.int .i64 y3] w6)))))
         (CondP (!r1)
            (Ar .i64 ((((r0N : Nat) : Int) : Int) + 1) (fun n_19 =>
             StoreP w5 (nb w) (fun w8 =>
             ∃ res0_20 : Bool, ∃ res1A_21 : Option Addr, ∃ res1N_22 : Nat, ∃ res1C_23 : Nat, ∃ res2A_24 : Option Addr, ∃ res2N_25 : Nat, ∃ res2C_26 : Nat, ∃ res3A_27 : Option Addr, ∃ res3N_28 : Nat, ∃ res3C_29 : Nat, ∃ res4A_30 : Option Addr, ∃ res4N_31 : Nat, ∃ res4C_32 : Nat, ∃ res5A_33 : Option Addr, ∃ res5N_34 : Nat, ∃ res5C_35 : Nat, (w8.cell? (nb w) = some (Value.bool res0_20) ∧ w8.cell? ((nb w).add 1) = some (Value.slice res1A_21 res1N_22 res1C_23) ∧ w8.cell? ((nb w).add 2) = some (Value.slice res2A_24 res2N_25 res2C_26) ∧ w8.cell? ((nb w).add 3) = some (Value.slice res3A_27 res3N_28 res3C_29) ∧ w8.cell? ((nb w).add 4) = some (Value.slice res4A_30 res4N_31 res4C_32) ∧ w8.cell? ((nb w).add 5) = some (Value.slice res5A_33 res5N_34 res5C_35) ∧ True) ∧
             R (Value.tuple #[Value.agg #[Value.bool res0_20, Value.slice res1A_21 res1N_22 res1C_23, Value.slice res2A_24 res2N_25 res2C_26, Value.slice res3A_27 res3N_28 res3C_29, Value.slice res4A_30 res4N_31 res4C_32, Value.slice res5A_33 res5N_34 res5C_35], Value.int .i64 n_19, Value.int .i64 2]) w8) [Value.bool false, Value.slice none 0 0, Value.slice none 0 0, Value.slice none 0 0, Value.slice none 0 0, Value.slice none 0 0] 0))
            (CondP ((((r0N : Nat) : Int) : Int) == 0)
               (Ar .i64 ((((r0N : Nat) : Int) : Int) + 1) (fun n_36 =>
                StoreP w5 (nb w) (fun w9 =>
                ∃ res0_37 : Bool, ∃ res1A_38 : Option Addr, ∃ res1N_39 : Nat, ∃ res1C_40 : Nat, ∃ res2A_41 : Option Addr, ∃ res2N_42 : Nat, ∃ res2C_43 : Nat, ∃ res3A_44 : Option Addr, ∃ res3N_45 : Nat, ∃ res3C_46 : Nat, ∃ res4A_47 : Option Addr, ∃ res4N_48 : Nat, ∃ res4C_49 : Nat, ∃ res5A_50 : Option Addr, ∃ res5N_51 : Nat, ∃ res5C_52 : Nat, (w9.cell? (nb w) = some (Value.bool res0_37) ∧ w9.cell? ((nb w).add 1) = some (Value.slice res1A_38 res1N_39 res1C_40) ∧ w9.cell? ((nb w).add 2) = some (Value.slice res2A_41 res2N_42 res2C_43) ∧ w9.cell? ((nb w).add 3) = some (Value.slice res3A_44 res3N_45 res3C_46) ∧ w9.cell? ((nb w).add 4) = some (Value.slice res4A_47 res4N_48 res4C_49) ∧ w9.cell? ((nb w).add 5) = some (Value.slice res5A_50 res5N_51 res5C_52) ∧ True) ∧
                R (Value.tuple #[Value.agg #[Value.bool res0_37, Value.slice res1A_38 res1N_39 res1C_40, Value.slice res2A_41 res2N_42 res2C_43, Value.slice res3A_44 res3N_45 res3C_46, Value.slice res4A_47 res4N_48 res4C_49, Value.slice res5A_50 res5N_51 res5C_52], Value.int .i64 n_36, Value.int .i64 2]) w9) [Value.bool false, Value.slice none 0 0, Value.slice none 0 0, Value.slice none 0 0, Value.slice none 0 0, Value.slice none 0 0] 0))
               (∃ g0 : Bool, ∃ g1A : Option Addr, ∃ g1N : Nat, ∃ g1C : Nat, ∃ g2A : Option Addr, ∃ g2N : Nat, ∃ g2C : Nat, ∃ g3A : Option Addr, ∃ g3N : Nat, ∃ g3C : Nat, ∃ g4A : Option Addr, ∃ g4N : Nat, ∃ g4C : Nat, ∃ g5A : Option Addr, ∃ g5N : Nat, ∃ g5C : Nat, (w5.cell? ((nb w3).add 0) = some (Value.bool g0) ∧ w5.cell? (((nb w3).add 0).add 1) = some (Value.slice g1A g1N g1C) ∧ w5.cell? (((nb w3).add 0).add 2) = some (Value.slice g2A g2N g2C) ∧ w5.cell? (((nb w3).add 0).add 3) = some (Value.slice g3A g3N g3C) ∧ w5.cell? (((nb w3).add 0).add 4) = some (Value.slice g4A g4N g4C) ∧ w5.cell? (((nb w3).add 0).add 5) = some (Value.slice g5A g5N g5C) ∧ True) ∧
                StoreP w5 (nb w) (fun w10 =>
                ∃ res0_53 : Bool, ∃ res1A_54 : Option Addr, ∃ res1N_55 : Nat, ∃ res1C_56 : Nat, ∃ res2A_57 : Option Addr, ∃ res2N_58 : Nat, ∃ res2C_59 : Nat, ∃ res3A_60 : Option Addr, ∃ res3N_61 : Nat, ∃ res3C_62 : Nat, ∃ res4A_63 : Option Addr, ∃ res4N_64 : Nat, ∃ res4C_65 : Nat, ∃ res5A_66 : Option Addr, ∃ res5N_67 : Nat, ∃ res5C_68 : Nat, (w10.cell? (nb w) = some (Value.bool res0_53) ∧ w10.cell? ((nb w).add 1) = some (Value.slice res1A_54 res1N_55 res1C_56) ∧ w10.cell? ((nb w).add 2) = some (Value.slice res2A_57 res2N_58 res2C_59) ∧ w10.cell? ((nb w).add 3) = some (Value.slice res3A_60 res3N_61 res3C_62) ∧ w10.cell? ((nb w).add 4) = some (Value.slice res4A_63 res4N_64 res4C_65) ∧ w10.cell? ((nb w).add 5) = some (Value.slice res5A_66 res5N_67 res5C_68) ∧ True) ∧
                R (Value.tuple #[Value.agg #[Value.bool res0_53, Value.slice res1A_54 res1N_55 res1C_56, Value.slice res2A_57 res2N_58 res2C_59, Value.slice res3A_60 res3N_61 res3C_62, Value.slice res4A_63 res4N_64 res4C_65, Value.slice res5A_66 res5N_67 res5C_68], Value.int .i64 0, Value.int .i64 0]) w10) [Value.bool g0, Value.slice g1A g1N g1C, Value.slice g2A g2N g2C, Value.slice g3A g3N g3C, Value.slice g4A g4N g4C, Value.slice g5A g5N g5C] 0)))) → I1 [Value.int .i64 y23, Value.int .i64 y4, Value.int .i64 y3] w5) →
     I1 [Value.int .i64 0, Value.int .i64 0, Value.int .i64 0] w4))
theorem vc8_eq (text : ByteArray) (w : World) (R : Value → World → Prop) : vc8 text w R = denFun ctx (bodyOf Tryz.f8) Tryz.f8.results.toList [Value.string text] w R := by kernel_rfl
theorem vc8_calls (text : ByteArray) (w : World) (R : Value → World → Prop) (h : vc8 text w R) : Calls Tryz.prog 8 #[Value.string text] w fun e w' => ∃ v, e = .returned v ∧ R v w' :=
  calls_of_den ctxOk (f := 8) (fn := Tryz.f8) (body := bodyOf Tryz.f8) (args := [Value.string text]) (by kernel_rfl) (by kernel_rfl) (by kernel_rfl) (by kernel_rfl) (Eq.mp (vc8_eq text w R) h)

/-! ### ligature/ligatureref06.Same: function 9 -/
def vc9 (a0 : Bool) (a1A : Option Addr) (a1N : Nat) (a1C : Nat) (a2A : Option Addr) (a2N : Nat) (a2C : Nat) (a3A : Option Addr) (a3N : Nat) (a3C : Nat) (a4A : Option Addr) (a4N : Nat) (a4C : Nat) (a5A : Option Addr) (a5N : Nat) (a5C : Nat) (b0 : Bool) (b1A : Option Addr) (b1N : Nat) (b1C : Nat) (b2A : Option Addr) (b2N : Nat) (b2C : Nat) (b3A : Option Addr) (b3N : Nat) (b3C : Nat) (b4A : Option Addr) (b4N : Nat) (b4C : Nat) (b5A : Option Addr) (b5N : Nat) (b5C : Nat) (w : World) (R : Value → World → Prop) : Prop :=
  ∀ w1 : World, w1 = w.alloc (.cells #[Value.bool a0, Value.slice a1A a1N a1C, Value.slice a2A a2N a2C, Value.slice a3A a3N a3C, Value.slice a4A a4N a4C, Value.slice a5A a5N a5C] 29) →
  ∀ w2 : World, w2 = w1.alloc (.cells #[Value.bool b0, Value.slice b1A b1N b1C, Value.slice b2A b2N b2C, Value.slice b3A b3N b3C, Value.slice b4A b4N b4C, Value.slice b5A b5N b5C] 29) →
  ∃ b : Bool, w2.cell? ((nb w).add 0) = some (Value.bool b) ∧
  ∃ b_1 : Bool, w2.cell? ((nb w1).add 0) = some (Value.bool b_1) ∧
  CondP (!(b == b_1))
    (R (Value.bool false) w2)
    (∃ lA : Option Addr, ∃ lN : Nat, ∃ lC : Nat, w2.cell? ((nb w).add 1) = some (Value.slice lA lN lC) ∧
     ∃ lA_2 : Option Addr, ∃ lN_3 : Nat, ∃ lC_4 : Nat, w2.cell? ((nb w1).add 1) = some (Value.slice lA_2 lN_3 lC_4) ∧
     CondP ((((lN : Nat) : Int) : Int) != ((lN_3 : Nat) : Int))
       (R (Value.bool false) w2)
       (∃ lA_5 : Option Addr, ∃ lN_6 : Nat, ∃ lC_7 : Nat, w2.cell? ((nb w).add 2) = some (Value.slice lA_5 lN_6 lC_7) ∧
        ∃ lA_8 : Option Addr, ∃ lN_9 : Nat, ∃ lC_10 : Nat, w2.cell? ((nb w1).add 2) = some (Value.slice lA_8 lN_9 lC_10) ∧
        Calls Tryz.prog 19 #[Value.slice lA_5 lN_6 lC_7, Value.slice lA_8 lN_9 lC_10] w2 (fun e3 w3 =>
        ∃ b_11 : Bool, e3 = .returned (Value.bool b_11) ∧
        CondP (!b_11)
          (R (Value.bool false) w3)
          (∃ lA_12 : Option Addr, ∃ lN_13 : Nat, ∃ lC_14 : Nat, w3.cell? ((nb w).add 3) = some (Value.slice lA_12 lN_13 lC_14) ∧
           ∃ lA_15 : Option Addr, ∃ lN_16 : Nat, ∃ lC_17 : Nat, w3.cell? ((nb w1).add 3) = some (Value.slice lA_15 lN_16 lC_17) ∧
           CondP ((((lN_13 : Nat) : Int) : Int) != ((lN_16 : Nat) : Int))
             (R (Value.bool false) w3)
             (∃ lA_18 : Option Addr, ∃ lN_19 : Nat, ∃ lC_20 : Nat, w3.cell? ((nb w).add 4) = some (Value.slice lA_18 lN_19 lC_20) ∧
              ∃ lA_21 : Option Addr, ∃ lN_22 : Nat, ∃ lC_23 : Nat, w3.cell? ((nb w1).add 4) = some (Value.slice lA_21 lN_22 lC_23) ∧
              CondP ((((lN_19 : Nat) : Int) : Int) != ((lN_22 : Nat) : Int))
                (R (Value.bool false) w3)
                (∃ lA_24 : Option Addr, ∃ lN_25 : Nat, ∃ lC_26 : Nat, w3.cell? ((nb w).add 5) = some (Value.slice lA_24 lN_25 lC_26) ∧
                 ∃ lA_27 : Option Addr, ∃ lN_28 : Nat, ∃ lC_29 : Nat, w3.cell? ((nb w1).add 5) = some (Value.slice lA_27 lN_28 lC_29) ∧
                 CondP ((((lN_25 : Nat) : Int) : Int) != ((lN_28 : Nat) : Int))
                   (R (Value.bool false) w3)
                   (∀ I30 : List Value → World → Prop, (∀ i : Int, ∀ y4 : Bool, ∀ w4 : World, (∃ lA_31 : Option Addr, ∃ lN_32 : Nat, ∃ lC_33 : Nat, w4.cell? ((nb w).add 1) = some (Value.slice lA_31 lN_32 lC_33) ∧
                      CondP (decide ((i : Int) < ((lN_32 : Nat) : Int)))
                        (∀ w5 : World, w5 = w4.drew →
                         ∃ lA_34 : Option Addr, ∃ lN_35 : Nat, ∃ lC_36 : Nat, w5.cell? ((nb w).add 1) = some (Value.slice lA_34 lN_35 lC_36) ∧
                         NilC lA_34 (fun pa =>
                         (0 : Int) ≤ i ∧ i < ((lN_35 : Nat) : Int) ∧
                         ∃ g0 : Int, ∃ g1 : Int, (w5.cell? (pa.add ((i : Int).toNat * 2)) = some (Value.int .i64 g0) ∧ w5.cell? ((pa.add ((i : Int).toNat * 2)).add 1) = some (Value.int .i64 g1) ∧ True) ∧
                         ∃ lA_37 : Option Addr, ∃ lN_38 : Nat, ∃ lC_39 : Nat, w5.cell? ((nb w1).add 1) = some (Value.slice lA_37 lN_38 lC_39) ∧
                         NilC lA_37 (fun pa_40 =>
                         (0 : Int) ≤ i ∧ i < ((lN_38 : Nat) : Int) ∧
                         ∃ g0_41 : Int, ∃ g1_42 : Int, (w5.cell? (pa_40.add ((i : Int).toNat * 2)) = some (Value.int .i64 g0_41) ∧ w5.cell? ((pa_40.add ((i : Int).toNat * 2)).add 1) = some (Value.int .i64 g1_42) ∧ True) ∧
                         CondP (!(((g0 : Int) == g0_41) && (((g1 : Int) == g1_42) && (true))))
                           (R (Value.bool false) w5)
                           (Ar .i64 ((i : Int) + 1) (fun n =>
                            I30 [Value.int .i64 n, Value.bool y4] w5)))))
                        (∀ I43 : List Value → World → Prop, (∀ i_44 : Int, ∀ y4_45 : Bool, ∀ w6 : World, (∃ lA_46 : Option Addr, ∃ lN_47 : Nat, ∃ lC_48 : Nat, w6.cell? ((nb w).add 3) = some (Value.slice lA_46 lN_47 lC_48) ∧
                           CondP (decide ((i_44 : Int) < ((lN_47 : Nat) : Int)))
                             (∀ w7 : World, w7 = w6.drew →
                              ∃ lA_49 : Option Addr, ∃ lN_50 : Nat, ∃ lC_51 : Nat, w7.cell? ((nb w).add 3) = some (Value.slice lA_49 lN_50 lC_51) ∧
                              NilC lA_49 (fun pa_52 =>
                              (0 : Int) ≤ i_44 ∧ i_44 < ((lN_50 : Nat) : Int) ∧
                              ∃ g0_53 : Int, ∃ g1_54 : ByteArray, (w7.cell? (pa_52.add ((i_44 : Int).toNat * 2)) = some (Value.int .i64 g0_53) ∧ w7.cell? ((pa_52.add ((i_44 : Int).toNat * 2)).add 1) = some (Value.string g1_54) ∧ True) ∧
                              ∃ lA_55 : Option Addr, ∃ lN_56 : Nat, ∃ lC_57 : Nat, w7.cell? ((nb w1).add 3) = some (Value.slice lA_55 lN_56 lC_57) ∧
                              NilC lA_55 (fun pa_58 =>
                              (0 : Int) ≤ i_44 ∧ i_44 < ((lN_56 : Nat) : Int) ∧
                              ∃ g0_59 : Int, ∃ g1_60 : ByteArray, (w7.cell? (pa_58.add ((i_44 : Int).toNat * 2)) = some (Value.int .i64 g0_59) ∧ w7.cell? ((pa_58.add ((i_44 : Int).toNat * 2)).add 1) = some (Value.string g1_60) ∧ True) ∧
                              CondP (!(((g0_53 : Int) == g0_59) && (((g1_54 : ByteArray).toList == (g1_60 : ByteArray).toList) && (true))))
                                (R (Value.bool false) w7)
                                (Ar .i64 ((i_44 : Int) + 1) (fun n_61 =>
                                 I43 [Value.int .i64 n_61, Value.bool y4_45] w7)))))
                             (∀ I62 : List Value → World → Prop, (∀ i_63 : Int, ∀ y4_64 : Bool, ∀ w8 : World, (∃ lA_65 : Option Addr, ∃ lN_66 : Nat, ∃ lC_67 : Nat, w8.cell? ((nb w).add 4) = some (Value.slice lA_65 lN_66 lC_67) ∧
                                CondP (decide ((i_63 : Int) < ((lN_66 : Nat) : Int)))
                                  (∀ w9 : World, w9 = w8.drew →
                                   ∃ lA_68 : Option Addr, ∃ lN_69 : Nat, ∃ lC_70 : Nat, w9.cell? ((nb w).add 4) = some (Value.slice lA_68 lN_69 lC_70) ∧
                                   NilC lA_68 (fun pa_71 =>
                                   (0 : Int) ≤ i_63 ∧ i_63 < ((lN_69 : Nat) : Int) ∧
                                   ∃ g0_72 : Int, ∃ g1_73 : Int, ∃ g2 : Int, (w9.cell? (pa_71.add ((i_63 : Int).toNat * 3)) = some (Value.int .i64 g0_72) ∧ w9.cell? ((pa_71.add ((i_63 : Int).toNat * 3)).add 1) = some (Value.int .i64 g1_73) ∧ w9.cell? ((pa_71.add ((i_63 : Int).toNat * 3)).add 2) = some (Value.int .i64 g2) ∧ True) ∧
                                   ∃ lA_74 : Option Addr, ∃ lN_75 : Nat, ∃ lC_76 : Nat, w9.cell? ((nb w1).add 4) = some (Value.slice lA_74 lN_75 lC_76) ∧
                                   NilC lA_74 (fun pa_77 =>
                                   (0 : Int) ≤ i_63 ∧ i_63 < ((lN_75 : Nat) : Int) ∧
                                   ∃ g0_78 : Int, ∃ g1_79 : Int, ∃ g2_80 : Int, (w9.cell? (pa_77.add ((i_63 : Int).toNat * 3)) = some (Value.int .i64 g0_78) ∧ w9.cell? ((pa_77.add ((i_63 : Int).toNat * 3)).add 1) = some (Value.int .i64 g1_79) ∧ w9.cell? ((pa_77.add ((i_63 : Int).toNat * 3)).add 2) = some (Value.int .i64 g2_80) ∧ True) ∧
                                   CondP (!(((g0_72 : Int) == g0_78) && (((g1_73 : Int) == g1_79) && (((g2 : Int) == g2_80) && (true)))))
                                     (R (Value.bool false) w9)
                                     (Ar .i64 ((i_63 : Int) + 1) (fun n_81 =>
                                      I62 [Value.int .i64 n_81, Value.bool y4_64] w9)))))
                                  (∀ I82 : List Value → World → Prop, (∀ i_83 : Int, ∀ y4_84 : Bool, ∀ w10 : World, (∃ lA_85 : Option Addr, ∃ lN_86 : Nat, ∃ lC_87 : Nat, w10.cell? ((nb w).add 5) = some (Value.slice lA_85 lN_86 lC_87) ∧
                                     CondP (decide ((i_83 : Int) < ((lN_86 : Nat) : Int)))
                                       (∀ w11 : World, w11 = w10.drew →
                                        ∃ lA_88 : Option Addr, ∃ lN_89 : Nat, ∃ lC_90 : Nat, w11.cell? ((nb w).add 5) = some (Value.slice lA_88 lN_89 lC_90) ∧
                                        NilC lA_88 (fun pa_91 =>
                                        (0 : Int) ≤ i_83 ∧ i_83 < ((lN_89 : Nat) : Int) ∧
                                        ∃ g0_92 : Int, ∃ g1_93 : Int, (w11.cell? (pa_91.add ((i_83 : Int).toNat * 2)) = some (Value.int .i64 g0_92) ∧ w11.cell? ((pa_91.add ((i_83 : Int).toNat * 2)).add 1) = some (Value.int .i64 g1_93) ∧ True) ∧
                                        ∃ lA_94 : Option Addr, ∃ lN_95 : Nat, ∃ lC_96 : Nat, w11.cell? ((nb w1).add 5) = some (Value.slice lA_94 lN_95 lC_96) ∧
                                        NilC lA_94 (fun pa_97 =>
                                        (0 : Int) ≤ i_83 ∧ i_83 < ((lN_95 : Nat) : Int) ∧
                                        ∃ g0_98 : Int, ∃ g1_99 : Int, (w11.cell? (pa_97.add ((i_83 : Int).toNat * 2)) = some (Value.int .i64 g0_98) ∧ w11.cell? ((pa_97.add ((i_83 : Int).toNat * 2)).add 1) = some (Value.int .i64 g1_99) ∧ True) ∧
                                        CondP (!(((g0_92 : Int) == g0_98) && (((g1_93 : Int) == g1_99) && (true))))
                                          (R (Value.bool false) w11)
                                          (Ar .i64 ((i_83 : Int) + 1) (fun n_100 =>
                                           I82 [Value.int .i64 n_100, Value.bool y4_84] w11)))))
                                       (R (Value.bool true) w10)) → I82 [Value.int .i64 i_83, Value.bool y4_84] w10) →
                                   I82 [Value.int .i64 0, Value.bool y4_64] w8)) → I62 [Value.int .i64 i_63, Value.bool y4_64] w8) →
                              I62 [Value.int .i64 0, Value.bool y4_45] w6)) → I43 [Value.int .i64 i_44, Value.bool y4_45] w6) →
                         I43 [Value.int .i64 0, Value.bool y4] w4)) → I30 [Value.int .i64 i, Value.bool y4] w4) →
                    I30 [Value.int .i64 0, Value.bool false] w3)))))))
theorem vc9_eq (a0 : Bool) (a1A : Option Addr) (a1N : Nat) (a1C : Nat) (a2A : Option Addr) (a2N : Nat) (a2C : Nat) (a3A : Option Addr) (a3N : Nat) (a3C : Nat) (a4A : Option Addr) (a4N : Nat) (a4C : Nat) (a5A : Option Addr) (a5N : Nat) (a5C : Nat) (b0 : Bool) (b1A : Option Addr) (b1N : Nat) (b1C : Nat) (b2A : Option Addr) (b2N : Nat) (b2C : Nat) (b3A : Option Addr) (b3N : Nat) (b3C : Nat) (b4A : Option Addr) (b4N : Nat) (b4C : Nat) (b5A : Option Addr) (b5N : Nat) (b5C : Nat) (w : World) (R : Value → World → Prop) : vc9 a0 a1A a1N a1C a2A a2N a2C a3A a3N a3C a4A a4N a4C a5A a5N a5C b0 b1A b1N b1C b2A b2N b2C b3A b3N b3C b4A b4N b4C b5A b5N b5C w R = denFun ctx (bodyOf Tryz.f9) Tryz.f9.results.toList [Value.agg #[Value.bool a0, Value.slice a1A a1N a1C, Value.slice a2A a2N a2C, Value.slice a3A a3N a3C, Value.slice a4A a4N a4C, Value.slice a5A a5N a5C], Value.agg #[Value.bool b0, Value.slice b1A b1N b1C, Value.slice b2A b2N b2C, Value.slice b3A b3N b3C, Value.slice b4A b4N b4C, Value.slice b5A b5N b5C]] w R := by kernel_rfl
theorem vc9_calls (a0 : Bool) (a1A : Option Addr) (a1N : Nat) (a1C : Nat) (a2A : Option Addr) (a2N : Nat) (a2C : Nat) (a3A : Option Addr) (a3N : Nat) (a3C : Nat) (a4A : Option Addr) (a4N : Nat) (a4C : Nat) (a5A : Option Addr) (a5N : Nat) (a5C : Nat) (b0 : Bool) (b1A : Option Addr) (b1N : Nat) (b1C : Nat) (b2A : Option Addr) (b2N : Nat) (b2C : Nat) (b3A : Option Addr) (b3N : Nat) (b3C : Nat) (b4A : Option Addr) (b4N : Nat) (b4C : Nat) (b5A : Option Addr) (b5N : Nat) (b5C : Nat) (w : World) (R : Value → World → Prop) (h : vc9 a0 a1A a1N a1C a2A a2N a2C a3A a3N a3C a4A a4N a4C a5A a5N a5C b0 b1A b1N b1C b2A b2N b2C b3A b3N b3C b4A b4N b4C b5A b5N b5C w R) : Calls Tryz.prog 9 #[Value.agg #[Value.bool a0, Value.slice a1A a1N a1C, Value.slice a2A a2N a2C, Value.slice a3A a3N a3C, Value.slice a4A a4N a4C, Value.slice a5A a5N a5C], Value.agg #[Value.bool b0, Value.slice b1A b1N b1C, Value.slice b2A b2N b2C, Value.slice b3A b3N b3C, Value.slice b4A b4N b4C, Value.slice b5A b5N b5C]] w fun e w' => ∃ v, e = .returned v ∧ R v w' :=
  calls_of_den ctxOk (f := 9) (fn := Tryz.f9) (body := bodyOf Tryz.f9) (args := [Value.agg #[Value.bool a0, Value.slice a1A a1N a1C, Value.slice a2A a2N a2C, Value.slice a3A a3N a3C, Value.slice a4A a4N a4C, Value.slice a5A a5N a5C], Value.agg #[Value.bool b0, Value.slice b1A b1N b1C, Value.slice b2A b2N b2C, Value.slice b3A b3N b3C, Value.slice b4A b4N b4C, Value.slice b5A b5N b5C]]) (by kernel_rfl) (by kernel_rfl) (by kernel_rfl) (by kernel_rfl) (Eq.mp (vc9_eq a0 a1A a1N a1C a2A a2N a2C a3A a3N a3C a4A a4N a4C a5A a5N a5C b0 b1A b1N b1C b2A b2N b2C b3A b3N b3C b4A b4N b4C b5A b5N b5C w R) h)

/-! ### ligature/ligatureref06.Parse: function 10 -/
def vc10 (t : ByteArray) (w : World) (R : Value → World → Prop) : Prop :=
  ∀ w1 : World, w1 = w.alloc (.cells #[Value.bool false, Value.slice none 0 0, Value.slice none 0 0, Value.slice none 0 0, Value.slice none 0 0, Value.slice none 0 0] 29) →
  Calls Tryz.prog 20 #[Value.string t, Value.int .u8 10] w1 (fun e2 w2 =>
  ∃ lA : Option Addr, ∃ lN : Nat, ∃ lC : Nat, e2 = .returned (Value.slice lA lN lC) ∧
  ∀ w3 : World, w3 = w2.alloc (.cells #[Value.bool false, Value.slice none 0 0, Value.slice none 0 0, Value.slice none 0 0, Value.slice none 0 0, Value.slice none 0 0] 29) →
  StoreP w3 (nb w2) (fun w4 =>
  ∀ I1 : List Value → World → Prop, (∀ i : Int, ∀ y3 : Int, ∀ w5 : World, (Ar .i64 ((i : Int) + 1) (fun n =>
    CondP (decide ((n : Int) < ((lN : Nat) : Int)))
      (NilC lA (fun pa =>
       (0 : Int) ≤ i ∧ i < ((lN : Nat) : Int) ∧
       ∃ s : ByteArray, w5.cell? (pa.add ((i : Int).toNat * 1)) = some (Value.string s) ∧
       Calls Tryz.prog 20 #[Value.string s, Value.int .u8 32] w5 (fun e6 w6 =>
       ∃ lA_2 : Option Addr, ∃ lN_3 : Nat, ∃ lC_4 : Nat, e6 = .returned (Value.slice lA_2 lN_3 lC_4) ∧
       ∃ g0 : Bool, ∃ g1A : Option Addr, ∃ g1N : Nat, ∃ g1C : Nat, ∃ g2A : Option Addr, ∃ g2N : Nat, ∃ g2C : Nat, ∃ g3A : Option Addr, ∃ g3N : Nat, ∃ g3C : Nat, ∃ g4A : Option Addr, ∃ g4N : Nat, ∃ g4C : Nat, ∃ g5A : Option Addr, ∃ g5N : Nat, ∃ g5C : Nat, (w6.cell? (nb w2) = some (Value.bool g0) ∧ w6.cell? ((nb w2).add 1) = some (Value.slice g1A g1N g1C) ∧ w6.cell? ((nb w2).add 2) = some (Value.slice g2A g2N g2C) ∧ w6.cell? ((nb w2).add 3) = some (Value.slice g3A g3N g3C) ∧ w6.cell? ((nb w2).add 4) = some (Value.slice g4A g4N g4C) ∧ w6.cell? ((nb w2).add 5) = some (Value.slice g5A g5N g5C) ∧ True) ∧
       ∀ w7 : World, w7 = w6.alloc (.cells #[Value.bool false, Value.slice none 0 0, Value.slice none 0 0, Value.slice none 0 0, Value.slice none 0 0, Value.slice none 0 0] 29) →
       StoreP w7 (nb w6) (fun w8 =>
       NilC lA_2 (fun pa_5 =>
       (0 : Int) ≤ 0 ∧ 0 < ((lN_3 : Nat) : Int) ∧
       ∃ s_6 : ByteArray, w8.cell? (pa_5.add ((0 : Int).toNat * 1)) = some (Value.string s_6) ∧
       ∀ J7 : List Value → World → Prop, (∀ w9 : World, (∃ g0_8 : Bool, ∃ g1A_9 : Option Addr, ∃ g1N_10 : Nat, ∃ g1C_11 : Nat, ∃ g2A_12 : Option Addr, ∃ g2N_13 : Nat, ∃ g2C_14 : Nat, ∃ g3A_15 : Option Addr, ∃ g3N_16 : Nat, ∃ g3C_17 : Nat, ∃ g4A_18 : Option Addr, ∃ g4N_19 : Nat, ∃ g4C_20 : Nat, ∃ g5A_21 : Option Addr, ∃ g5N_22 : Nat, ∃ g5C_23 : Nat, (w9.cell? (nb w6) = some (Value.bool g0_8) ∧ w9.cell? ((nb w6).add 1) = some (Value.slice g1A_9 g1N_10 g1C_11) ∧ w9.cell? ((nb w6).add 2) = some (Value.slice g2A_12 g2N_13 g2C_14) ∧ w9.cell? ((nb w6).add 3) = some (Value.slice g3A_15 g3N_16 g3C_17) ∧ w9.cell? ((nb w6).add 4) = some (Value.slice g4A_18 g4N_19 g4C_20) ∧ w9.cell? ((nb w6).add 5) = some (Value.slice g5A_21 g5N_22 g5C_23) ∧ True) ∧
         Calls Tryz.prog 23 #[Value.agg #[Value.bool g0_8, Value.slice g1A_9 g1N_10 g1C_11, Value.slice g2A_12 g2N_13 g2C_14, Value.slice g3A_15 g3N_16 g3C_17, Value.slice g4A_18 g4N_19 g4C_20, Value.slice g5A_21 g5N_22 g5C_23]] w9 (fun e10 w10 =>
         ∃ lA_24 : Option Addr, ∃ lN_25 : Nat, ∃ lC_26 : Nat, e10 = .returned (Value.slice lA_24 lN_25 lC_26) ∧
         ∀ w11 : World, w11 = w10.drew →
         ∃ g0_27 : Bool, ∃ g1A_28 : Option Addr, ∃ g1N_29 : Nat, ∃ g1C_30 : Nat, ∃ g2A_31 : Option Addr, ∃ g2N_32 : Nat, ∃ g2C_33 : Nat, ∃ g3A_34 : Option Addr, ∃ g3N_35 : Nat, ∃ g3C_36 : Nat, ∃ g4A_37 : Option Addr, ∃ g4N_38 : Nat, ∃ g4C_39 : Nat, ∃ g5A_40 : Option Addr, ∃ g5N_41 : Nat, ∃ g5C_42 : Nat, (w11.cell? (nb w6) = some (Value.bool g0_27) ∧ w11.cell? ((nb w6).add 1) = some (Value.slice g1A_28 g1N_29 g1C_30) ∧ w11.cell? ((nb w6).add 2) = some (Value.slice g2A_31 g2N_32 g2C_33) ∧ w11.cell? ((nb w6).add 3) = some (Value.slice g3A_34 g3N_35 g3C_36) ∧ w11.cell? ((nb w6).add 4) = some (Value.slice g4A_37 g4N_38 g4C_39) ∧ w11.cell? ((nb w6).add 5) = some (Value.slice g5A_40 g5N_41 g5C_42) ∧ True) ∧
         Calls Tryz.prog 14 #[Value.agg #[Value.bool g0_27, Value.slice g1A_28 g1N_29 g1C_30, Value.slice g2A_31 g2N_32 g2C_33, Value.slice g3A_34 g3N_35 g3C_36, Value.slice g4A_37 g4N_38 g4C_39, Value.slice g5A_40 g5N_41 g5C_42]] w11 (fun e12 w12 =>
         ∃ b : Bool, e12 = .returned (Value.bool b) ∧
         CondP (!b)
           (Ar .i64 ((i : Int) + 1) (fun n_43 =>
            StoreP w12 (nb w) (fun w13 =>
            ∃ res0 : Bool, ∃ res1A : Option Addr, ∃ res1N : Nat, ∃ res1C : Nat, ∃ res2A : Option Addr, ∃ res2N : Nat, ∃ res2C : Nat, ∃ res3A : Option Addr, ∃ res3N : Nat, ∃ res3C : Nat, ∃ res4A : Option Addr, ∃ res4N : Nat, ∃ res4C : Nat, ∃ res5A : Option Addr, ∃ res5N : Nat, ∃ res5C : Nat, (w13.cell? (nb w) = some (Value.bool res0) ∧ w13.cell? ((nb w).add 1) = some (Value.slice res1A res1N res1C) ∧ w13.cell? ((nb w).add 2) = some (Value.slice res2A res2N res2C) ∧ w13.cell? ((nb w).add 3) = some (Value.slice res3A res3N res3C) ∧ w13.cell? ((nb w).add 4) = some (Value.slice res4A res4N res4C) ∧ w13.cell? ((nb w).add 5) = some (Value.slice res5A res5N res5C) ∧ True) ∧
            R (Value.tuple #[Value.agg #[Value.bool res0, Value.slice res1A res1N res1C, Value.slice res2A res2N res2C, Value.slice res3A res3N res3C, Value.slice res4A res4N res4C, Value.slice res5A res5N res5C], Value.int .i64 n_43]) w13) [Value.bool false, Value.slice none 0 0, Value.slice none 0 0, Value.slice none 0 0, Value.slice none 0 0, Value.slice none 0 0] 0))
           (Ar .i64 ((i : Int) + 1) (fun n_44 =>
            CondP ((((lN_25 : Nat) : Int) : Int) != n_44)
              (Ar .i64 ((i : Int) + 1) (fun n_45 =>
               StoreP w12 (nb w) (fun w14 =>
               ∃ res0_46 : Bool, ∃ res1A_47 : Option Addr, ∃ res1N_48 : Nat, ∃ res1C_49 : Nat, ∃ res2A_50 : Option Addr, ∃ res2N_51 : Nat, ∃ res2C_52 : Nat, ∃ res3A_53 : Option Addr, ∃ res3N_54 : Nat, ∃ res3C_55 : Nat, ∃ res4A_56 : Option Addr, ∃ res4N_57 : Nat, ∃ res4C_58 : Nat, ∃ res5A_59 : Option Addr, ∃ res5N_60 : Nat, ∃ res5C_61 : Nat, (w14.cell? (nb w) = some (Value.bool res0_46) ∧ w14.cell? ((nb w).add 1) = some (Value.slice res1A_47 res1N_48 res1C_49) ∧ w14.cell? ((nb w).add 2) = some (Value.slice res2A_50 res2N_51 res2C_52) ∧ w14.cell? ((nb w).add 3) = some (Value.slice res3A_53 res3N_54 res3C_55) ∧ w14.cell? ((nb w).add 4) = some (Value.slice res4A_56 res4N_57 res4C_58) ∧ w14.cell? ((nb w).add 5) = some (Value.slice res5A_59 res5N_60 res5C_61) ∧ True) ∧
               R (Value.tuple #[Value.agg #[Value.bool res0_46, Value.slice res1A_47 res1N_48 res1C_49, Value.slice res2A_50 res2N_51 res2C_52, Value.slice res3A_53 res3N_54 res3C_55, Value.slice res4A_56 res4N_57 res4C_58, Value.slice res5A_59 res5N_60 res5C_61], Value.int .i64 n_45]) w14) [Value.bool false, Value.slice none 0 0, Value.slice none 0 0, Value.slice none 0 0, Value.slice none 0 0, Value.slice none 0 0] 0))
              (NilC lA_24 (fun pa_62 =>
               (0 : Int) ≤ i ∧ i < ((lN_25 : Nat) : Int) ∧
               ∃ s_63 : ByteArray, w12.cell? (pa_62.add ((i : Int).toNat * 1)) = some (Value.string s_63) ∧
               NilC lA (fun pa_64 =>
               (0 : Int) ≤ i ∧ i < ((lN : Nat) : Int) ∧
               ∃ s_65 : ByteArray, w12.cell? (pa_64.add ((i : Int).toNat * 1)) = some (Value.string s_65) ∧
               CondP (!((s_63 : ByteArray).toList == (s_65 : ByteArray).toList))
                 (Ar .i64 ((i : Int) + 1) (fun n_66 =>
                  StoreP w12 (nb w) (fun w15 =>
                  ∃ res0_67 : Bool, ∃ res1A_68 : Option Addr, ∃ res1N_69 : Nat, ∃ res1C_70 : Nat, ∃ res2A_71 : Option Addr, ∃ res2N_72 : Nat, ∃ res2C_73 : Nat, ∃ res3A_74 : Option Addr, ∃ res3N_75 : Nat, ∃ res3C_76 : Nat, ∃ res4A_77 : Option Addr, ∃ res4N_78 : Nat, ∃ res4C_79 : Nat, ∃ res5A_80 : Option Addr, ∃ res5N_81 : Nat, ∃ res5C_82 : Nat, (w15.cell? (nb w) = some (Value.bool res0_67) ∧ w15.cell? ((nb w).add 1) = some (Value.slice res1A_68 res1N_69 res1C_70) ∧ w15.cell? ((nb w).add 2) = some (Value.slice res2A_71 res2N_72 res2C_73) ∧ w15.cell? ((nb w).add 3) = some (Value.slice res3A_74 res3N_75 res3C_76) ∧ w15.cell? ((nb w).add 4) = some (Value.slice res4A_77 res4N_78 res4C_79) ∧ w15.cell? ((nb w).add 5) = some (Value.slice res5A_80 res5N_81 res5C_82) ∧ True) ∧
                  R (Value.tuple #[Value.agg #[Value.bool res0_67, Value.slice res1A_68 res1N_69 res1C_70, Value.slice res2A_71 res2N_72 res2C_73, Value.slice res3A_74 res3N_75 res3C_76, Value.slice res4A_77 res4N_78 res4C_79, Value.slice res5A_80 res5N_81 res5C_82], Value.int .i64 n_66]) w15) [Value.bool false, Value.slice none 0 0, Value.slice none 0 0, Value.slice none 0 0, Value.slice none 0 0, Value.slice none 0 0] 0))
                 (∃ g0_83 : Bool, ∃ g1A_84 : Option Addr, ∃ g1N_85 : Nat, ∃ g1C_86 : Nat, ∃ g2A_87 : Option Addr, ∃ g2N_88 : Nat, ∃ g2C_89 : Nat, ∃ g3A_90 : Option Addr, ∃ g3N_91 : Nat, ∃ g3C_92 : Nat, ∃ g4A_93 : Option Addr, ∃ g4N_94 : Nat, ∃ g4C_95 : Nat, ∃ g5A_96 : Option Addr, ∃ g5N_97 : Nat, ∃ g5C_98 : Nat, (w12.cell? (nb w6) = some (Value.bool g0_83) ∧ w12.cell? ((nb w6).add 1) = some (Value.slice g1A_84 g1N_85 g1C_86) ∧ w12.cell? ((nb w6).add 2) = some (Value.slice g2A_87 g2N_88 g2C_89) ∧ w12.cell? ((nb w6).add 3) = some (Value.slice g3A_90 g3N_91 g3C_92) ∧ w12.cell? ((nb w6).add 4) = some (Value.slice g4A_93 g4N_94 g4C_95) ∧ w12.cell? ((nb w6).add 5) = some (Value.slice g5A_96 g5N_97 g5C_98) ∧ True) ∧
                  StoreP w12 (nb w2) (fun w16 =>
                  Ar .i64 ((i : Int) + 1) (fun n_99 =>
                  I1 [Value.int .i64 n_99, Value.int .i64 y3] w16)) [Value.bool g0_83, Value.slice g1A_84 g1N_85 g1C_86, Value.slice g2A_87 g2N_88 g2C_89, Value.slice g3A_90 g3N_91 g3C_92, Value.slice g4A_93 g4N_94 g4C_95, Value.slice g5A_96 g5N_97 g5C_98] 0))))))))) → J7 [] w9) →
       CondP ((s_6 : ByteArray).toList == (⟨#[118, 111, 99, 97, 98]⟩ : ByteArray).toList)
         (NilC lA (fun pa_100 =>
          (0 : Int) ≤ i ∧ i < ((lN : Nat) : Int) ∧
          ∃ s_101 : ByteArray, w8.cell? (pa_100.add ((i : Int).toNat * 1)) = some (Value.string s_101) ∧
          (Value.bool ((s_101 : ByteArray).toList == (⟨#[118, 111, 99, 97, 98, 32, 114, 97, 110, 107, 115]⟩ : ByteArray).toList)).oneCell' = true ∧ (∃ u, w8.cell? ((nb w6).add 0) = some u) ∧ w8.frozen? ((nb w6).add 0) = false ∧
          ∀ w17 : World, w17 = (w8.setCell ((nb w6).add 0) (Value.bool ((s_101 : ByteArray).toList == (⟨#[118, 111, 99, 97, 98, 32, 114, 97, 110, 107, 115]⟩ : ByteArray).toList))) →
          J7 [] w17))
         (CondP ((s_6 : ByteArray).toList == (⟨#[109, 101, 114, 103, 101]⟩ : ByteArray).toList)
            (∀ w18 : World, w18 = w8.alloc (.cells #[] 55) →
             ∃ lA_102 : Option Addr, ∃ lN_103 : Nat, ∃ lC_104 : Nat, w18.cell? ((nb w2).add 1) = some (Value.slice lA_102 lN_103 lC_104) ∧
             ∃ lA_105 : Option Addr, ∃ lN_106 : Nat, ∃ lC_107 : Nat, ∃ w19 : World, (Builtin.append_ #[23, 23] 23 #[Value.slice (some (nb w8)) 0 0, Value.slice lA_102 lN_103 lC_104]).run Tryz.prog w18 = .ok (Value.slice lA_105 lN_106 lC_107) w19 ∧
             Calls Tryz.prog 21 #[Value.slice lA_2 lN_3 lC_4, Value.int .i64 1] w19 (fun e20 w20 =>
             ∃ n_108 : Int, e20 = .returned (Value.int .i64 n_108) ∧
             Calls Tryz.prog 21 #[Value.slice lA_2 lN_3 lC_4, Value.int .i64 2] w20 (fun e21 w21 =>
             ∃ n_109 : Int, e21 = .returned (Value.int .i64 n_109) ∧
             ∀ w22 : World, w22 = w21.alloc (.cells #[Value.int .i64 n_108, Value.int .i64 n_109] 55) →
             ∃ lA_110 : Option Addr, ∃ lN_111 : Nat, ∃ lC_112 : Nat, ∃ w23 : World, (Builtin.append_ #[23, 23] 23 #[Value.slice lA_105 lN_106 lC_107, Value.slice (some (nb w21)) 1 1]).run Tryz.prog w22 = .ok (Value.slice lA_110 lN_111 lC_112) w23 ∧
             (Value.slice lA_110 lN_111 lC_112).oneCell' = true ∧ (∃ u, w23.cell? ((nb w6).add 1) = some u) ∧ w23.frozen? ((nb w6).add 1) = false ∧
             ∀ w24 : World, w24 = (w23.setCell ((nb w6).add 1) (Value.slice lA_110 lN_111 lC_112)) →
             J7 [] w24)))
            (CondP ((s_6 : ByteArray).toList == (⟨#[116, 111, 107, 101, 110]⟩ : ByteArray).toList)
               (∀ w25 : World, w25 = w8.alloc (.cells #[] 9) →
                ∃ lA_113 : Option Addr, ∃ lN_114 : Nat, ∃ lC_115 : Nat, w25.cell? ((nb w2).add 2) = some (Value.slice lA_113 lN_114 lC_115) ∧
                ∃ lA_116 : Option Addr, ∃ lN_117 : Nat, ∃ lC_118 : Nat, ∃ w26 : World, (Builtin.append_ #[24, 24] 24 #[Value.slice (some (nb w8)) 0 0, Value.slice lA_113 lN_114 lC_115]).run Tryz.prog w25 = .ok (Value.slice lA_116 lN_117 lC_118) w26 ∧
                Calls Tryz.prog 22 #[Value.slice lA_2 lN_3 lC_4, Value.int .i64 1] w26 (fun e27 w27 =>
                ∃ s_119 : ByteArray, e27 = .returned (Value.string s_119) ∧
                ∀ w28 : World, w28 = w27.alloc (.cells #[Value.string s_119] 9) →
                ∃ lA_120 : Option Addr, ∃ lN_121 : Nat, ∃ lC_122 : Nat, ∃ w29 : World, (Builtin.append_ #[24, 24] 24 #[Value.slice lA_116 lN_117 lC_118, Value.slice (some (nb w27)) 1 1]).run Tryz.prog w28 = .ok (Value.slice lA_120 lN_121 lC_122) w29 ∧
                (Value.slice lA_120 lN_121 lC_122).oneCell' = true ∧ (∃ u, w29.cell? ((nb w6).add 2) = some u) ∧ w29.frozen? ((nb w6).add 2) = false ∧
                ∀ w30 : World, w30 = (w29.setCell ((nb w6).add 2) (Value.slice lA_120 lN_121 lC_122)) →
                J7 [] w30))
               (CondP ((s_6 : ByteArray).toList == (⟨#[115, 112, 101, 99, 105, 97, 108]⟩ : ByteArray).toList)
                  (∀ w31 : World, w31 = w8.alloc (.cells #[] 46) →
                   ∃ lA_123 : Option Addr, ∃ lN_124 : Nat, ∃ lC_125 : Nat, w31.cell? ((nb w2).add 3) = some (Value.slice lA_123 lN_124 lC_125) ∧
                   ∃ lA_126 : Option Addr, ∃ lN_127 : Nat, ∃ lC_128 : Nat, ∃ w32 : World, (Builtin.append_ #[25, 25] 25 #[Value.slice (some (nb w8)) 0 0, Value.slice lA_123 lN_124 lC_125]).run Tryz.prog w31 = .ok (Value.slice lA_126 lN_127 lC_128) w32 ∧
                   Calls Tryz.prog 21 #[Value.slice lA_2 lN_3 lC_4, Value.int .i64 1] w32 (fun e33 w33 =>
                   ∃ n_129 : Int, e33 = .returned (Value.int .i64 n_129) ∧
                   Calls Tryz.prog 22 #[Value.slice lA_2 lN_3 lC_4, Value.int .i64 2] w33 (fun e34 w34 =>
                   ∃ s_130 : ByteArray, e34 = .returned (Value.string s_130) ∧
                   ∀ w35 : World, w35 = w34.alloc (.cells #[Value.int .i64 n_129, Value.string s_130] 46) →
                   ∃ lA_131 : Option Addr, ∃ lN_132 : Nat, ∃ lC_133 : Nat, ∃ w36 : World, (Builtin.append_ #[25, 25] 25 #[Value.slice lA_126 lN_127 lC_128, Value.slice (some (nb w34)) 1 1]).run Tryz.prog w35 = .ok (Value.slice lA_131 lN_132 lC_133) w36 ∧
                   (Value.slice lA_131 lN_132 lC_133).oneCell' = true ∧ (∃ u, w36.cell? ((nb w6).add 3) = some u) ∧ w36.frozen? ((nb w6).add 3) = false ∧
                   ∀ w37 : World, w37 = (w36.setCell ((nb w6).add 3) (Value.slice lA_131 lN_132 lC_133)) →
                   J7 [] w37)))
                  (CondP ((s_6 : ByteArray).toList == (⟨#[99, 108, 97, 115, 115]⟩ : ByteArray).toList)
                     (∀ w38 : World, w38 = w8.alloc (.cells #[] 57) →
                      ∃ lA_134 : Option Addr, ∃ lN_135 : Nat, ∃ lC_136 : Nat, w38.cell? ((nb w2).add 4) = some (Value.slice lA_134 lN_135 lC_136) ∧
                      ∃ lA_137 : Option Addr, ∃ lN_138 : Nat, ∃ lC_139 : Nat, ∃ w39 : World, (Builtin.append_ #[26, 26] 26 #[Value.slice (some (nb w8)) 0 0, Value.slice lA_134 lN_135 lC_136]).run Tryz.prog w38 = .ok (Value.slice lA_137 lN_138 lC_139) w39 ∧
                      Calls Tryz.prog 21 #[Value.slice lA_2 lN_3 lC_4, Value.int .i64 1] w39 (fun e40 w40 =>
                      ∃ n_140 : Int, e40 = .returned (Value.int .i64 n_140) ∧
                      Calls Tryz.prog 21 #[Value.slice lA_2 lN_3 lC_4, Value.int .i64 2] w40 (fun e41 w41 =>
                      ∃ n_141 : Int, e41 = .returned (Value.int .i64 n_141) ∧
                      Calls Tryz.prog 21 #[Value.slice lA_2 lN_3 lC_4, Value.int .i64 3] w41 (fun e42 w42 =>
                      ∃ n_142 : Int, e42 = .returned (Value.int .i64 n_142) ∧
                      ∀ w43 : World, w43 = w42.alloc (.cells #[Value.int .i64 n_140, Value.int .i64 n_141, Value.int .i64 n_142] 57) →
                      ∃ lA_143 : Option Addr, ∃ lN_144 : Nat, ∃ lC_145 : Nat, ∃ w44 : World, (Builtin.append_ #[26, 26] 26 #[Value.slice lA_137 lN_138 lC_139, Value.slice (some (nb w42)) 1 1]).run Tryz.prog w43 = .ok (Value.slice lA_143 lN_144 lC_145) w44 ∧
                      (Value.slice lA_143 lN_144 lC_145).oneCell' = true ∧ (∃ u, w44.cell? ((nb w6).add 4) = some u) ∧ w44.frozen? ((nb w6).add 4) = false ∧
                      ∀ w45 : World, w45 = (w44.setCell ((nb w6).add 4) (Value.slice lA_143 lN_144 lC_145)) →
                      J7 [] w45))))
                     (CondP ((s_6 : ByteArray).toList == (⟨#[106, 111, 105, 110]⟩ : ByteArray).toList)
                        (∀ w46 : World, w46 = w8.alloc (.cells #[] 58) →
                         ∃ lA_146 : Option Addr, ∃ lN_147 : Nat, ∃ lC_148 : Nat, w46.cell? ((nb w2).add 5) = some (Value.slice lA_146 lN_147 lC_148) ∧
                         ∃ lA_149 : Option Addr, ∃ lN_150 : Nat, ∃ lC_151 : Nat, ∃ w47 : World, (Builtin.append_ #[27, 27] 27 #[Value.slice (some (nb w8)) 0 0, Value.slice lA_146 lN_147 lC_148]).run Tryz.prog w46 = .ok (Value.slice lA_149 lN_150 lC_151) w47 ∧
                         Calls Tryz.prog 21 #[Value.slice lA_2 lN_3 lC_4, Value.int .i64 1] w47 (fun e48 w48 =>
                         ∃ n_152 : Int, e48 = .returned (Value.int .i64 n_152) ∧
                         Calls Tryz.prog 21 #[Value.slice lA_2 lN_3 lC_4, Value.int .i64 2] w48 (fun e49 w49 =>
                         ∃ n_153 : Int, e49 = .returned (Value.int .i64 n_153) ∧
                         ∀ w50 : World, w50 = w49.alloc (.cells #[Value.int .i64 n_152, Value.int .i64 n_153] 58) →
                         ∃ lA_154 : Option Addr, ∃ lN_155 : Nat, ∃ lC_156 : Nat, ∃ w51 : World, (Builtin.append_ #[27, 27] 27 #[Value.slice lA_149 lN_150 lC_151, Value.slice (some (nb w49)) 1 1]).run Tryz.prog w50 = .ok (Value.slice lA_154 lN_155 lC_156) w51 ∧
                         (Value.slice lA_154 lN_155 lC_156).oneCell' = true ∧ (∃ u, w51.cell? ((nb w6).add 5) = some u) ∧ w51.frozen? ((nb w6).add 5) = false ∧
                         ∀ w52 : World, w52 = (w51.setCell ((nb w6).add 5) (Value.slice lA_154 lN_155 lC_156)) →
                         J7 [] w52)))
                        (J7 [] w8)))))))) [Value.bool g0, Value.slice g1A g1N g1C, Value.slice g2A g2N g2C, Value.slice g3A g3N g3C, Value.slice g4A g4N g4C, Value.slice g5A g5N g5C] 0)))
      (CondP (decide ((((lN : Nat) : Int) : Int) < 2))
         (StoreP w5 (nb w) (fun w53 =>
          ∃ res0_157 : Bool, ∃ res1A_158 : Option Addr, ∃ res1N_159 : Nat, ∃ res1C_160 : Nat, ∃ res2A_161 : Option Addr, ∃ res2N_162 : Nat, ∃ res2C_163 : Nat, ∃ res3A_164 : Option Addr, ∃ res3N_165 : Nat, ∃ res3C_166 : Nat, ∃ res4A_167 : Option Addr, ∃ res4N_168 : Nat, ∃ res4C_169 : Nat, ∃ res5A_170 : Option Addr, ∃ res5N_171 : Nat, ∃ res5C_172 : Nat, (w53.cell? (nb w) = some (Value.bool res0_157) ∧ w53.cell? ((nb w).add 1) = some (Value.slice res1A_158 res1N_159 res1C_160) ∧ w53.cell? ((nb w).add 2) = some (Value.slice res2A_161 res2N_162 res2C_163) ∧ w53.cell? ((nb w).add 3) = some (Value.slice res3A_164 res3N_165 res3C_166) ∧ w53.cell? ((nb w).add 4) = some (Value.slice res4A_167 res4N_168 res4C_169) ∧ w53.cell? ((nb w).add 5) = some (Value.slice res5A_170 res5N_171 res5C_172) ∧ True) ∧
          R (Value.tuple #[Value.agg #[Value.bool res0_157, Value.slice res1A_158 res1N_159 res1C_160, Value.slice res2A_161 res2N_162 res2C_163, Value.slice res3A_164 res3N_165 res3C_166, Value.slice res4A_167 res4N_168 res4C_169, Value.slice res5A_170 res5N_171 res5C_172], Value.int .i64 ((lN : Nat) : Int)]) w53) [Value.bool false, Value.slice none 0 0, Value.slice none 0 0, Value.slice none 0 0, Value.slice none 0 0, Value.slice none 0 0] 0)
         (Ar .i64 ((((lN : Nat) : Int) : Int) - 1) (fun n_173 =>
          NilC lA (fun pa_174 =>
          (0 : Int) ≤ n_173 ∧ n_173 < ((lN : Nat) : Int) ∧
          ∃ s_175 : ByteArray, w5.cell? (pa_174.add ((n_173 : Int).toNat * 1)) = some (Value.string s_175) ∧
          CondP (!((s_175 : ByteArray).toList == (⟨#[]⟩ : ByteArray).toList))
            (StoreP w5 (nb w) (fun w54 =>
             ∃ res0_176 : Bool, ∃ res1A_177 : Option Addr, ∃ res1N_178 : Nat, ∃ res1C_179 : Nat, ∃ res2A_180 : Option Addr, ∃ res2N_181 : Nat, ∃ res2C_182 : Nat, ∃ res3A_183 : Option Addr, ∃ res3N_184 : Nat, ∃ res3C_185 : Nat, ∃ res4A_186 : Option Addr, ∃ res4N_187 : Nat, ∃ res4C_188 : Nat, ∃ res5A_189 : Option Addr, ∃ res5N_190 : Nat, ∃ res5C_191 : Nat, (w54.cell? (nb w) = some (Value.bool res0_176) ∧ w54.cell? ((nb w).add 1) = some (Value.slice res1A_177 res1N_178 res1C_179) ∧ w54.cell? ((nb w).add 2) = some (Value.slice res2A_180 res2N_181 res2C_182) ∧ w54.cell? ((nb w).add 3) = some (Value.slice res3A_183 res3N_184 res3C_185) ∧ w54.cell? ((nb w).add 4) = some (Value.slice res4A_186 res4N_187 res4C_188) ∧ w54.cell? ((nb w).add 5) = some (Value.slice res5A_189 res5N_190 res5C_191) ∧ True) ∧
             R (Value.tuple #[Value.agg #[Value.bool res0_176, Value.slice res1A_177 res1N_178 res1C_179, Value.slice res2A_180 res2N_181 res2C_182, Value.slice res3A_183 res3N_184 res3C_185, Value.slice res4A_186 res4N_187 res4C_188, Value.slice res5A_189 res5N_190 res5C_191], Value.int .i64 ((lN : Nat) : Int)]) w54) [Value.bool false, Value.slice none 0 0, Value.slice none 0 0, Value.slice none 0 0, Value.slice none 0 0, Value.slice none 0 0] 0)
            (∃ g0_192 : Bool, ∃ g1A_193 : Option Addr, ∃ g1N_194 : Nat, ∃ g1C_195 : Nat, ∃ g2A_196 : Option Addr, ∃ g2N_197 : Nat, ∃ g2C_198 : Nat, ∃ g3A_199 : Option Addr, ∃ g3N_200 : Nat, ∃ g3C_201 : Nat, ∃ g4A_202 : Option Addr, ∃ g4N_203 : Nat, ∃ g4C_204 : Nat, ∃ g5A_205 : Option Addr, ∃ g5N_206 : Nat, ∃ g5C_207 : Nat, (w5.cell? (nb w2) = some (Value.bool g0_192) ∧ w5.cell? ((nb w2).add 1) = some (Value.slice g1A_193 g1N_194 g1C_195) ∧ w5.cell? ((nb w2).add 2) = some (Value.slice g2A_196 g2N_197 g2C_198) ∧ w5.cell? ((nb w2).add 3) = some (Value.slice g3A_199 g3N_200 g3C_201) ∧ w5.cell? ((nb w2).add 4) = some (Value.slice g4A_202 g4N_203 g4C_204) ∧ w5.cell? ((nb w2).add 5) = some (Value.slice g5A_205 g5N_206 g5C_207) ∧ True) ∧
             StoreP w5 (nb w) (fun w55 =>
             ∃ res0_208 : Bool, ∃ res1A_209 : Option Addr, ∃ res1N_210 : Nat, ∃ res1C_211 : Nat, ∃ res2A_212 : Option Addr, ∃ res2N_213 : Nat, ∃ res2C_214 : Nat, ∃ res3A_215 : Option Addr, ∃ res3N_216 : Nat, ∃ res3C_217 : Nat, ∃ res4A_218 : Option Addr, ∃ res4N_219 : Nat, ∃ res4C_220 : Nat, ∃ res5A_221 : Option Addr, ∃ res5N_222 : Nat, ∃ res5C_223 : Nat, (w55.cell? (nb w) = some (Value.bool res0_208) ∧ w55.cell? ((nb w).add 1) = some (Value.slice res1A_209 res1N_210 res1C_211) ∧ w55.cell? ((nb w).add 2) = some (Value.slice res2A_212 res2N_213 res2C_214) ∧ w55.cell? ((nb w).add 3) = some (Value.slice res3A_215 res3N_216 res3C_217) ∧ w55.cell? ((nb w).add 4) = some (Value.slice res4A_218 res4N_219 res4C_220) ∧ w55.cell? ((nb w).add 5) = some (Value.slice res5A_221 res5N_222 res5C_223) ∧ True) ∧
             R (Value.tuple #[Value.agg #[Value.bool res0_208, Value.slice res1A_209 res1N_210 res1C_211, Value.slice res2A_212 res2N_213 res2C_214, Value.slice res3A_215 res3N_216 res3C_217, Value.slice res4A_218 res4N_219 res4C_220, Value.slice res5A_221 res5N_222 res5C_223], Value.int .i64 0]) w55) [Value.bool g0_192, Value.slice g1A_193 g1N_194 g1C_195, Value.slice g2A_196 g2N_197 g2C_198, Value.slice g3A_199 g3N_200 g3C_201, Value.slice g4A_202 g4N_203 g4C_204, Value.slice g5A_205 g5N_206 g5C_207] 0))))))) → I1 [Value.int .i64 i, Value.int .i64 y3] w5) →
  I1 [Value.int .i64 0, Value.int .i64 0] w4) [Value.bool false, Value.slice none 0 0, Value.slice none 0 0, Value.slice none 0 0, Value.slice none 0 0, Value.slice none 0 0] 0)
theorem vc10_eq (t : ByteArray) (w : World) (R : Value → World → Prop) : vc10 t w R = denFun ctx (bodyOf Tryz.f10) Tryz.f10.results.toList [Value.string t] w R := by kernel_rfl
theorem vc10_calls (t : ByteArray) (w : World) (R : Value → World → Prop) (h : vc10 t w R) : Calls Tryz.prog 10 #[Value.string t] w fun e w' => ∃ v, e = .returned v ∧ R v w' :=
  calls_of_den ctxOk (f := 10) (fn := Tryz.f10) (body := bodyOf Tryz.f10) (args := [Value.string t]) (by kernel_rfl) (by kernel_rfl) (by kernel_rfl) (by kernel_rfl) (Eq.mp (vc10_eq t w R) h)

/-! ### ligature/ligatureref06.Great: function 11 -/
def vc11 (s0 : Bool) (s1A : Option Addr) (s1N : Nat) (s1C : Nat) (s2A : Option Addr) (s2N : Nat) (s2C : Nat) (s3A : Option Addr) (s3N : Nat) (s3C : Nat) (s4A : Option Addr) (s4N : Nat) (s4C : Nat) (s5A : Option Addr) (s5N : Nat) (s5C : Nat) (w : World) (R : Value → World → Prop) : Prop :=
  ∀ w1 : World, w1 = w.alloc (.cells #[Value.bool s0, Value.slice s1A s1N s1C, Value.slice s2A s2N s2C, Value.slice s3A s3N s3C, Value.slice s4A s4N s4C, Value.slice s5A s5N s5C] 29) →
  ∃ lA : Option Addr, ∃ lN : Nat, ∃ lC : Nat, w1.cell? ((nb w).add 1) = some (Value.slice lA lN lC) ∧
  CondP (decide ((((lN : Nat) : Int) : Int) > 60))
    (∃ lA_1 : Option Addr, ∃ lN_2 : Nat, ∃ lC_3 : Nat, w1.cell? ((nb w).add 1) = some (Value.slice lA_1 lN_2 lC_3) ∧
     CondP ((((lN_2 : Nat) : Int) : Int) != 745)
       (R (Value.bool true) w1)
       (∃ lA_4 : Option Addr, ∃ lN_5 : Nat, ∃ lC_6 : Nat, w1.cell? ((nb w).add 2) = some (Value.slice lA_4 lN_5 lC_6) ∧
        CondP (decide ((((lN_5 : Nat) : Int) : Int) > 60))
          (R (Value.bool true) w1)
          (∃ lA_7 : Option Addr, ∃ lN_8 : Nat, ∃ lC_9 : Nat, w1.cell? ((nb w).add 3) = some (Value.slice lA_7 lN_8 lC_9) ∧
           CondP (decide ((((lN_8 : Nat) : Int) : Int) > 40))
             (R (Value.bool true) w1)
             (∃ lA_10 : Option Addr, ∃ lN_11 : Nat, ∃ lC_12 : Nat, w1.cell? ((nb w).add 4) = some (Value.slice lA_10 lN_11 lC_12) ∧
              CondP (decide ((((lN_11 : Nat) : Int) : Int) > 70))
                (R (Value.bool true) w1)
                (∃ lA_13 : Option Addr, ∃ lN_14 : Nat, ∃ lC_15 : Nat, w1.cell? ((nb w).add 5) = some (Value.slice lA_13 lN_14 lC_15) ∧
                 CondP (decide ((((lN_14 : Nat) : Int) : Int) > 70))
                   (R (Value.bool true) w1)
                   (∀ I16 : List Value → World → Prop, (∀ i : Int, ∀ y2 : Bool, ∀ w2 : World, (∃ lA_17 : Option Addr, ∃ lN_18 : Nat, ∃ lC_19 : Nat, w2.cell? ((nb w).add 2) = some (Value.slice lA_17 lN_18 lC_19) ∧
                      CondP (decide ((i : Int) < ((lN_18 : Nat) : Int)))
                        (∃ lA_20 : Option Addr, ∃ lN_21 : Nat, ∃ lC_22 : Nat, w2.cell? ((nb w).add 2) = some (Value.slice lA_20 lN_21 lC_22) ∧
                         NilC lA_20 (fun pa =>
                         (0 : Int) ≤ i ∧ i < ((lN_21 : Nat) : Int) ∧
                         ∃ s : ByteArray, w2.cell? (pa.add ((i : Int).toNat * 1)) = some (Value.string s) ∧
                         CondP (decide ((((s : ByteArray).size : Int) : Int) > 100))
                           (R (Value.bool true) w2)
                           (Ar .i64 ((i : Int) + 1) (fun n =>
                            I16 [Value.int .i64 n, Value.bool y2] w2))))
                        (∀ I23 : List Value → World → Prop, (∀ i_24 : Int, ∀ y2_25 : Bool, ∀ w3 : World, (∃ lA_26 : Option Addr, ∃ lN_27 : Nat, ∃ lC_28 : Nat, w3.cell? ((nb w).add 3) = some (Value.slice lA_26 lN_27 lC_28) ∧
                           CondP (decide ((i_24 : Int) < ((lN_27 : Nat) : Int)))
                             (∃ lA_29 : Option Addr, ∃ lN_30 : Nat, ∃ lC_31 : Nat, w3.cell? ((nb w).add 3) = some (Value.slice lA_29 lN_30 lC_31) ∧
                              NilC lA_29 (fun pa_32 =>
                              (0 : Int) ≤ i_24 ∧ i_24 < ((lN_30 : Nat) : Int) ∧
                              ∃ s_33 : ByteArray, w3.cell? ((pa_32.add ((i_24 : Int).toNat * 2)).add 1) = some (Value.string s_33) ∧
                              CondP (decide ((((s_33 : ByteArray).size : Int) : Int) > 100))
                                (R (Value.bool true) w3)
                                (Ar .i64 ((i_24 : Int) + 1) (fun n_34 =>
                                 I23 [Value.int .i64 n_34, Value.bool y2_25] w3))))
                             (R (Value.bool false) w3)) → I23 [Value.int .i64 i_24, Value.bool y2_25] w3) →
                         I23 [Value.int .i64 0, Value.bool y2] w2)) → I16 [Value.int .i64 i, Value.bool y2] w2) →
                    I16 [Value.int .i64 0, Value.bool false] w1))))))
    (∃ lA_35 : Option Addr, ∃ lN_36 : Nat, ∃ lC_37 : Nat, w1.cell? ((nb w).add 2) = some (Value.slice lA_35 lN_36 lC_37) ∧
     CondP (decide ((((lN_36 : Nat) : Int) : Int) > 60))
       (R (Value.bool true) w1)
       (∃ lA_38 : Option Addr, ∃ lN_39 : Nat, ∃ lC_40 : Nat, w1.cell? ((nb w).add 3) = some (Value.slice lA_38 lN_39 lC_40) ∧
        CondP (decide ((((lN_39 : Nat) : Int) : Int) > 40))
          (R (Value.bool true) w1)
          (∃ lA_41 : Option Addr, ∃ lN_42 : Nat, ∃ lC_43 : Nat, w1.cell? ((nb w).add 4) = some (Value.slice lA_41 lN_42 lC_43) ∧
           CondP (decide ((((lN_42 : Nat) : Int) : Int) > 70))
             (R (Value.bool true) w1)
             (∃ lA_44 : Option Addr, ∃ lN_45 : Nat, ∃ lC_46 : Nat, w1.cell? ((nb w).add 5) = some (Value.slice lA_44 lN_45 lC_46) ∧
              CondP (decide ((((lN_45 : Nat) : Int) : Int) > 70))
                (R (Value.bool true) w1)
                (∀ I47 : List Value → World → Prop, (∀ i_48 : Int, ∀ y2_49 : Bool, ∀ w4 : World, (∃ lA_50 : Option Addr, ∃ lN_51 : Nat, ∃ lC_52 : Nat, w4.cell? ((nb w).add 2) = some (Value.slice lA_50 lN_51 lC_52) ∧
                   CondP (decide ((i_48 : Int) < ((lN_51 : Nat) : Int)))
                     (∃ lA_53 : Option Addr, ∃ lN_54 : Nat, ∃ lC_55 : Nat, w4.cell? ((nb w).add 2) = some (Value.slice lA_53 lN_54 lC_55) ∧
                      NilC lA_53 (fun pa_56 =>
                      (0 : Int) ≤ i_48 ∧ i_48 < ((lN_54 : Nat) : Int) ∧
                      ∃ s_57 : ByteArray, w4.cell? (pa_56.add ((i_48 : Int).toNat * 1)) = some (Value.string s_57) ∧
                      CondP (decide ((((s_57 : ByteArray).size : Int) : Int) > 100))
                        (R (Value.bool true) w4)
                        (Ar .i64 ((i_48 : Int) + 1) (fun n_58 =>
                         I47 [Value.int .i64 n_58, Value.bool y2_49] w4))))
                     (∀ I59 : List Value → World → Prop, (∀ i_60 : Int, ∀ y2_61 : Bool, ∀ w5 : World, (∃ lA_62 : Option Addr, ∃ lN_63 : Nat, ∃ lC_64 : Nat, w5.cell? ((nb w).add 3) = some (Value.slice lA_62 lN_63 lC_64) ∧
                        CondP (decide ((i_60 : Int) < ((lN_63 : Nat) : Int)))
                          (∃ lA_65 : Option Addr, ∃ lN_66 : Nat, ∃ lC_67 : Nat, w5.cell? ((nb w).add 3) = some (Value.slice lA_65 lN_66 lC_67) ∧
                           NilC lA_65 (fun pa_68 =>
                           (0 : Int) ≤ i_60 ∧ i_60 < ((lN_66 : Nat) : Int) ∧
                           ∃ s_69 : ByteArray, w5.cell? ((pa_68.add ((i_60 : Int).toNat * 2)).add 1) = some (Value.string s_69) ∧
                           CondP (decide ((((s_69 : ByteArray).size : Int) : Int) > 100))
                             (R (Value.bool true) w5)
                             (Ar .i64 ((i_60 : Int) + 1) (fun n_70 =>
                              I59 [Value.int .i64 n_70, Value.bool y2_61] w5))))
                          (R (Value.bool false) w5)) → I59 [Value.int .i64 i_60, Value.bool y2_61] w5) →
                      I59 [Value.int .i64 0, Value.bool y2_49] w4)) → I47 [Value.int .i64 i_48, Value.bool y2_49] w4) →
                 I47 [Value.int .i64 0, Value.bool false] w1)))))
theorem vc11_eq (s0 : Bool) (s1A : Option Addr) (s1N : Nat) (s1C : Nat) (s2A : Option Addr) (s2N : Nat) (s2C : Nat) (s3A : Option Addr) (s3N : Nat) (s3C : Nat) (s4A : Option Addr) (s4N : Nat) (s4C : Nat) (s5A : Option Addr) (s5N : Nat) (s5C : Nat) (w : World) (R : Value → World → Prop) : vc11 s0 s1A s1N s1C s2A s2N s2C s3A s3N s3C s4A s4N s4C s5A s5N s5C w R = denFun ctx (bodyOf Tryz.f11) Tryz.f11.results.toList [Value.agg #[Value.bool s0, Value.slice s1A s1N s1C, Value.slice s2A s2N s2C, Value.slice s3A s3N s3C, Value.slice s4A s4N s4C, Value.slice s5A s5N s5C]] w R := by kernel_rfl
theorem vc11_calls (s0 : Bool) (s1A : Option Addr) (s1N : Nat) (s1C : Nat) (s2A : Option Addr) (s2N : Nat) (s2C : Nat) (s3A : Option Addr) (s3N : Nat) (s3C : Nat) (s4A : Option Addr) (s4N : Nat) (s4C : Nat) (s5A : Option Addr) (s5N : Nat) (s5C : Nat) (w : World) (R : Value → World → Prop) (h : vc11 s0 s1A s1N s1C s2A s2N s2C s3A s3N s3C s4A s4N s4C s5A s5N s5C w R) : Calls Tryz.prog 11 #[Value.agg #[Value.bool s0, Value.slice s1A s1N s1C, Value.slice s2A s2N s2C, Value.slice s3A s3N s3C, Value.slice s4A s4N s4C, Value.slice s5A s5N s5C]] w fun e w' => ∃ v, e = .returned v ∧ R v w' :=
  calls_of_den ctxOk (f := 11) (fn := Tryz.f11) (body := bodyOf Tryz.f11) (args := [Value.agg #[Value.bool s0, Value.slice s1A s1N s1C, Value.slice s2A s2N s2C, Value.slice s3A s3N s3C, Value.slice s4A s4N s4C, Value.slice s5A s5N s5C]]) (by kernel_rfl) (by kernel_rfl) (by kernel_rfl) (by kernel_rfl) (Eq.mp (vc11_eq s0 s1A s1N s1C s2A s2N s2C s3A s3N s3C s4A s4N s4C s5A s5N s5C w R) h)

/-! ### ligature/spec.Print: function 12 -/
def vc12 (s0 : Bool) (s1A : Option Addr) (s1N : Nat) (s1C : Nat) (s2A : Option Addr) (s2N : Nat) (s2C : Nat) (s3A : Option Addr) (s3N : Nat) (s3C : Nat) (s4A : Option Addr) (s4N : Nat) (s4C : Nat) (s5A : Option Addr) (s5N : Nat) (s5C : Nat) (w : World) (R : Value → World → Prop) : Prop :=
  ∀ w1 : World, w1 = w.alloc (.cells #[Value.bool s0, Value.slice s1A s1N s1C, Value.slice s2A s2N s2C, Value.slice s3A s3N s3C, Value.slice s4A s4N s4C, Value.slice s5A s5N s5C] 29) →
  ∃ g0 : Bool, ∃ g1A : Option Addr, ∃ g1N : Nat, ∃ g1C : Nat, ∃ g2A : Option Addr, ∃ g2N : Nat, ∃ g2C : Nat, ∃ g3A : Option Addr, ∃ g3N : Nat, ∃ g3C : Nat, ∃ g4A : Option Addr, ∃ g4N : Nat, ∃ g4C : Nat, ∃ g5A : Option Addr, ∃ g5N : Nat, ∃ g5C : Nat, (w1.cell? (nb w) = some (Value.bool g0) ∧ w1.cell? ((nb w).add 1) = some (Value.slice g1A g1N g1C) ∧ w1.cell? ((nb w).add 2) = some (Value.slice g2A g2N g2C) ∧ w1.cell? ((nb w).add 3) = some (Value.slice g3A g3N g3C) ∧ w1.cell? ((nb w).add 4) = some (Value.slice g4A g4N g4C) ∧ w1.cell? ((nb w).add 5) = some (Value.slice g5A g5N g5C) ∧ True) ∧
  Calls Tryz.prog 13 #[Value.agg #[Value.bool g0, Value.slice g1A g1N g1C, Value.slice g2A g2N g2C, Value.slice g3A g3N g3C, Value.slice g4A g4N g4C, Value.slice g5A g5N g5C]] w1 (fun e2 w2 =>
  ∃ b : Bool, e2 = .returned (Value.bool b) ∧
  CondP (!b)
    (R (Value.tuple #[Value.string ⟨#[]⟩, Value.int .i64 1]) w2)
    (∀ w3 : World, w3 = w2.alloc (.cells #[Value.pointer none, Value.slice none 0 0] 69) →
     ∀ J1 : List Value → World → Prop, (∀ w4 : World, (∃ lA : Option Addr, ∃ lN : Nat, ∃ lC : Nat, w4.cell? ((nb w).add 1) = some (Value.slice lA lN lC) ∧
       ∀ I2 : List Value → World → Prop, (∀ y31 : Int, ∀ w5 : World, (CondP (decide ((y31 : Int) < ((lN : Nat) : Int)))
           (NilC lA (fun pa =>
            (0 : Int) ≤ y31 ∧ y31 < ((lN : Nat) : Int) ∧
            ∃ g0_3 : Int, ∃ g1 : Int, (w5.cell? (pa.add ((y31 : Int).toNat * 2)) = some (Value.int .i64 g0_3) ∧ w5.cell? ((pa.add ((y31 : Int).toNat * 2)).add 1) = some (Value.int .i64 g1) ∧ True) ∧
            ∀ w6 : World, w6 = w5.alloc (.cells #[Value.int .i64 0, Value.int .i64 0] 55) →
            StoreP w6 (nb w5) (fun w7 =>
            ∃ n : Int, w7.cell? ((nb w5).add 0) = some (Value.int .i64 n) ∧
            ∃ n_4 : Int, w7.cell? ((nb w5).add 1) = some (Value.int .i64 n_4) ∧
            ∀ w8 : World, w8 = w7.alloc (.cells #[Value.int .i64 n, Value.int .i64 n_4] 3) →
            Calls Tryz.prog 25 #[Value.slice (some (nb w7)) 2 2] w8 (fun e9 w9 =>
            ∃ s : ByteArray, e9 = .returned (Value.string s) ∧
            ∀ w10 : World, w10 = w9.alloc (.cells #[Value.string s] 9) →
            Calls Tryz.prog 24 #[Value.pointer (some (nb w2)), Value.string ⟨#[109, 101, 114, 103, 101]⟩, Value.slice (some (nb w9)) 1 1] w10 (fun e11 w11 =>
            e11 = .returned (Value.tuple #[]) ∧
            Ar .i64 ((y31 : Int) + 1) (fun n_5 =>
            I2 [Value.int .i64 n_5] w11)))) [Value.int .i64 g0_3, Value.int .i64 g1] 0))
           (∃ lA_6 : Option Addr, ∃ lN_7 : Nat, ∃ lC_8 : Nat, w5.cell? ((nb w).add 2) = some (Value.slice lA_6 lN_7 lC_8) ∧
            ∀ I9 : List Value → World → Prop, (∀ y48 : Int, ∀ w12 : World, (CondP (decide ((y48 : Int) < ((lN_7 : Nat) : Int)))
                (NilC lA_6 (fun pa_10 =>
                 (0 : Int) ≤ y48 ∧ y48 < ((lN_7 : Nat) : Int) ∧
                 ∃ s_11 : ByteArray, w12.cell? (pa_10.add ((y48 : Int).toNat * 1)) = some (Value.string s_11) ∧
                 Calls Tryz.prog 26 #[Value.string s_11] w12 (fun e13 w13 =>
                 ∃ s_12 : ByteArray, e13 = .returned (Value.string s_12) ∧
                 ∀ w14 : World, w14 = w13.alloc (.cells #[Value.string s_12] 9) →
                 Calls Tryz.prog 24 #[Value.pointer (some (nb w2)), Value.string ⟨#[116, 111, 107, 101, 110]⟩, Value.slice (some (nb w13)) 1 1] w14 (fun e15 w15 =>
                 e15 = .returned (Value.tuple #[]) ∧
                 Ar .i64 ((y48 : Int) + 1) (fun n_13 =>
                 I9 [Value.int .i64 n_13] w15)))))
                (∃ lA_14 : Option Addr, ∃ lN_15 : Nat, ∃ lC_16 : Nat, w12.cell? ((nb w).add 3) = some (Value.slice lA_14 lN_15 lC_16) ∧
                 ∀ I17 : List Value → World → Prop, (∀ y61 : Int, ∀ w16 : World, (CondP (decide ((y61 : Int) < ((lN_15 : Nat) : Int)))
                     (NilC lA_14 (fun pa_18 =>
                      (0 : Int) ≤ y61 ∧ y61 < ((lN_15 : Nat) : Int) ∧
                      ∃ g0_19 : Int, ∃ g1_20 : ByteArray, (w16.cell? (pa_18.add ((y61 : Int).toNat * 2)) = some (Value.int .i64 g0_19) ∧ w16.cell? ((pa_18.add ((y61 : Int).toNat * 2)).add 1) = some (Value.string g1_20) ∧ True) ∧
                      ∀ w17 : World, w17 = w16.alloc (.cells #[Value.int .i64 0, Value.string ⟨#[]⟩] 46) →
                      StoreP w17 (nb w16) (fun w18 =>
                      ∀ w19 : World, w19 = w18.drew →
                      ∃ n_21 : Int, w19.cell? ((nb w16).add 0) = some (Value.int .i64 n_21) ∧
                      ∃ s_22 : ByteArray, w19.cell? ((nb w16).add 1) = some (Value.string s_22) ∧
                      Calls Tryz.prog 27 #[Value.int .i64 n_21] w19 (fun e20 w20 =>
                      ∃ s_23 : ByteArray, e20 = .returned (Value.string s_23) ∧
                      (w20.cell? ((nb w16).add 1) = some (Value.string s_22) ∧ True) ∧
                      Calls Tryz.prog 26 #[Value.string s_22] w20 (fun e21 w21 =>
                      ∃ s_24 : ByteArray, e21 = .returned (Value.string s_24) ∧
                      ∀ w22 : World, w22 = w21.alloc (.cells #[Value.string s_23, Value.string s_24] 9) →
                      Calls Tryz.prog 24 #[Value.pointer (some (nb w2)), Value.string ⟨#[115, 112, 101, 99, 105, 97, 108]⟩, Value.slice (some (nb w21)) 2 2] w22 (fun e23 w23 =>
                      e23 = .returned (Value.tuple #[]) ∧
                      Ar .i64 ((y61 : Int) + 1) (fun n_25 =>
                      I17 [Value.int .i64 n_25] w23))))) [Value.int .i64 g0_19, Value.string g1_20] 0))
                     (∃ lA_26 : Option Addr, ∃ lN_27 : Nat, ∃ lC_28 : Nat, w16.cell? ((nb w).add 4) = some (Value.slice lA_26 lN_27 lC_28) ∧
                      ∀ I29 : List Value → World → Prop, (∀ y78 : Int, ∀ w24 : World, (CondP (decide ((y78 : Int) < ((lN_27 : Nat) : Int)))
                          (NilC lA_26 (fun pa_30 =>
                           (0 : Int) ≤ y78 ∧ y78 < ((lN_27 : Nat) : Int) ∧
                           ∃ g0_31 : Int, ∃ g1_32 : Int, ∃ g2 : Int, (w24.cell? (pa_30.add ((y78 : Int).toNat * 3)) = some (Value.int .i64 g0_31) ∧ w24.cell? ((pa_30.add ((y78 : Int).toNat * 3)).add 1) = some (Value.int .i64 g1_32) ∧ w24.cell? ((pa_30.add ((y78 : Int).toNat * 3)).add 2) = some (Value.int .i64 g2) ∧ True) ∧
                           ∀ w25 : World, w25 = w24.alloc (.cells #[Value.int .i64 0, Value.int .i64 0, Value.int .i64 0] 57) →
                           StoreP w25 (nb w24) (fun w26 =>
                           ∃ n_33 : Int, w26.cell? ((nb w24).add 0) = some (Value.int .i64 n_33) ∧
                           ∃ n_34 : Int, w26.cell? ((nb w24).add 1) = some (Value.int .i64 n_34) ∧
                           ∃ n_35 : Int, w26.cell? ((nb w24).add 2) = some (Value.int .i64 n_35) ∧
                           ∀ w27 : World, w27 = w26.alloc (.cells #[Value.int .i64 n_33, Value.int .i64 n_34, Value.int .i64 n_35] 3) →
                           Calls Tryz.prog 25 #[Value.slice (some (nb w26)) 3 3] w27 (fun e28 w28 =>
                           ∃ s_36 : ByteArray, e28 = .returned (Value.string s_36) ∧
                           ∀ w29 : World, w29 = w28.alloc (.cells #[Value.string s_36] 9) →
                           Calls Tryz.prog 24 #[Value.pointer (some (nb w2)), Value.string ⟨#[99, 108, 97, 115, 115]⟩, Value.slice (some (nb w28)) 1 1] w29 (fun e30 w30 =>
                           e30 = .returned (Value.tuple #[]) ∧
                           Ar .i64 ((y78 : Int) + 1) (fun n_37 =>
                           I29 [Value.int .i64 n_37] w30)))) [Value.int .i64 g0_31, Value.int .i64 g1_32, Value.int .i64 g2] 0))
                          (∃ lA_38 : Option Addr, ∃ lN_39 : Nat, ∃ lC_40 : Nat, w24.cell? ((nb w).add 5) = some (Value.slice lA_38 lN_39 lC_40) ∧
                           ∀ I41 : List Value → World → Prop, (∀ y97 : Int, ∀ w31 : World, (CondP (decide ((y97 : Int) < ((lN_39 : Nat) : Int)))
                               (NilC lA_38 (fun pa_42 =>
                                (0 : Int) ≤ y97 ∧ y97 < ((lN_39 : Nat) : Int) ∧
                                ∃ g0_43 : Int, ∃ g1_44 : Int, (w31.cell? (pa_42.add ((y97 : Int).toNat * 2)) = some (Value.int .i64 g0_43) ∧ w31.cell? ((pa_42.add ((y97 : Int).toNat * 2)).add 1) = some (Value.int .i64 g1_44) ∧ True) ∧
                                ∀ w32 : World, w32 = w31.alloc (.cells #[Value.int .i64 0, Value.int .i64 0] 58) →
                                StoreP w32 (nb w31) (fun w33 =>
                                ∃ n_45 : Int, w33.cell? ((nb w31).add 0) = some (Value.int .i64 n_45) ∧
                                ∃ n_46 : Int, w33.cell? ((nb w31).add 1) = some (Value.int .i64 n_46) ∧
                                ∀ w34 : World, w34 = w33.alloc (.cells #[Value.int .i64 n_45, Value.int .i64 n_46] 3) →
                                Calls Tryz.prog 25 #[Value.slice (some (nb w33)) 2 2] w34 (fun e35 w35 =>
                                ∃ s_47 : ByteArray, e35 = .returned (Value.string s_47) ∧
                                ∀ w36 : World, w36 = w35.alloc (.cells #[Value.string s_47] 9) →
                                Calls Tryz.prog 24 #[Value.pointer (some (nb w2)), Value.string ⟨#[106, 111, 105, 110]⟩, Value.slice (some (nb w35)) 1 1] w36 (fun e37 w37 =>
                                e37 = .returned (Value.tuple #[]) ∧
                                Ar .i64 ((y97 : Int) + 1) (fun n_48 =>
                                I41 [Value.int .i64 n_48] w37)))) [Value.int .i64 g0_43, Value.int .i64 g1_44] 0))
                               (Calls Tryz.prog 28 #[Value.pointer (some ((nb w2).add 0))] w31 (fun e38 w38 =>
                                ∃ n_49 : Int, e38 = .returned (Value.int .i64 n_49) ∧
                                CondP (decide ((n_49 : Int) > 60000))
                                  (R (Value.tuple #[Value.string ⟨#[]⟩, Value.int .i64 3]) w38)
                                  (Calls Tryz.prog 29 #[Value.pointer (some ((nb w2).add 0))] w38 (fun e39 w39 =>
                                   ∃ s_50 : ByteArray, e39 = .returned (Value.string s_50) ∧
                                   R (Value.tuple #[Value.string s_50, Value.int .i64 0]) w39))))) → I41 [Value.int .i64 y97] w31) →
                           I41 [Value.int .i64 0] w24)) → I29 [Value.int .i64 y78] w24) →
                      I29 [Value.int .i64 0] w16)) → I17 [Value.int .i64 y61] w16) →
                 I17 [Value.int .i64 0] w12)) → I9 [Value.int .i64 y48] w12) →
            I9 [Value.int .i64 0] w5)) → I2 [Value.int .i64 y31] w5) →
       I2 [Value.int .i64 0] w4) → J1 [] w4) →
     ∃ b_51 : Bool, w3.cell? ((nb w).add 0) = some (Value.bool b_51) ∧
     CondP b_51
       (∀ w40 : World, w40 = w3.alloc (.cells #[Value.string ⟨#[114, 97, 110, 107, 115]⟩] 9) →
        Calls Tryz.prog 24 #[Value.pointer (some (nb w2)), Value.string ⟨#[118, 111, 99, 97, 98]⟩, Value.slice (some (nb w3)) 1 1] w40 (fun e41 w41 =>
        e41 = .returned (Value.tuple #[]) ∧
        J1 [] w41))
       (∀ w42 : World, w42 = w3.alloc (.cells #[Value.string ⟨#[109, 101, 114, 103, 101, 115]⟩] 9) →
        Calls Tryz.prog 24 #[Value.pointer (some (nb w2)), Value.string ⟨#[118, 111, 99, 97, 98]⟩, Value.slice (some (nb w3)) 1 1] w42 (fun e43 w43 =>
        e43 = .returned (Value.tuple #[]) ∧
        J1 [] w43))))
theorem vc12_eq (s0 : Bool) (s1A : Option Addr) (s1N : Nat) (s1C : Nat) (s2A : Option Addr) (s2N : Nat) (s2C : Nat) (s3A : Option Addr) (s3N : Nat) (s3C : Nat) (s4A : Option Addr) (s4N : Nat) (s4C : Nat) (s5A : Option Addr) (s5N : Nat) (s5C : Nat) (w : World) (R : Value → World → Prop) : vc12 s0 s1A s1N s1C s2A s2N s2C s3A s3N s3C s4A s4N s4C s5A s5N s5C w R = denFun ctx (bodyOf Tryz.f12) Tryz.f12.results.toList [Value.agg #[Value.bool s0, Value.slice s1A s1N s1C, Value.slice s2A s2N s2C, Value.slice s3A s3N s3C, Value.slice s4A s4N s4C, Value.slice s5A s5N s5C]] w R := by kernel_rfl
theorem vc12_calls (s0 : Bool) (s1A : Option Addr) (s1N : Nat) (s1C : Nat) (s2A : Option Addr) (s2N : Nat) (s2C : Nat) (s3A : Option Addr) (s3N : Nat) (s3C : Nat) (s4A : Option Addr) (s4N : Nat) (s4C : Nat) (s5A : Option Addr) (s5N : Nat) (s5C : Nat) (w : World) (R : Value → World → Prop) (h : vc12 s0 s1A s1N s1C s2A s2N s2C s3A s3N s3C s4A s4N s4C s5A s5N s5C w R) : Calls Tryz.prog 12 #[Value.agg #[Value.bool s0, Value.slice s1A s1N s1C, Value.slice s2A s2N s2C, Value.slice s3A s3N s3C, Value.slice s4A s4N s4C, Value.slice s5A s5N s5C]] w fun e w' => ∃ v, e = .returned v ∧ R v w' :=
  calls_of_den ctxOk (f := 12) (fn := Tryz.f12) (body := bodyOf Tryz.f12) (args := [Value.agg #[Value.bool s0, Value.slice s1A s1N s1C, Value.slice s2A s2N s2C, Value.slice s3A s3N s3C, Value.slice s4A s4N s4C, Value.slice s5A s5N s5C]]) (by kernel_rfl) (by kernel_rfl) (by kernel_rfl) (by kernel_rfl) (Eq.mp (vc12_eq s0 s1A s1N s1C s2A s2N s2C s3A s3N s3C s4A s4N s4C s5A s5N s5C w R) h)

/-! ### ligature/spec.Right: function 13 -/
def vc13 (s0 : Bool) (s1A : Option Addr) (s1N : Nat) (s1C : Nat) (s2A : Option Addr) (s2N : Nat) (s2C : Nat) (s3A : Option Addr) (s3N : Nat) (s3C : Nat) (s4A : Option Addr) (s4N : Nat) (s4C : Nat) (s5A : Option Addr) (s5N : Nat) (s5C : Nat) (w : World) (R : Value → World → Prop) : Prop :=
  ∀ w1 : World, w1 = w.alloc (.cells #[Value.bool s0, Value.slice s1A s1N s1C, Value.slice s2A s2N s2C, Value.slice s3A s3N s3C, Value.slice s4A s4N s4C, Value.slice s5A s5N s5C] 29) →
  ∃ b : Bool, w1.cell? ((nb w).add 0) = some (Value.bool b) ∧
  CondP b
    (∃ lA : Option Addr, ∃ lN : Nat, ∃ lC : Nat, w1.cell? ((nb w).add 1) = some (Value.slice lA lN lC) ∧
     CondP (decide ((((lN : Nat) : Int) : Int) > 0))
       (R (Value.bool false) w1)
       (∃ b_1 : Bool, w1.cell? ((nb w).add 0) = some (Value.bool b_1) ∧
        CondP (!b_1)
          (∃ lA_2 : Option Addr, ∃ lN_3 : Nat, ∃ lC_4 : Nat, w1.cell? ((nb w).add 2) = some (Value.slice lA_2 lN_3 lC_4) ∧
           CondP (decide ((((lN_3 : Nat) : Int) : Int) > 0))
             (R (Value.bool false) w1)
             (∃ lA_5 : Option Addr, ∃ lN_6 : Nat, ∃ lC_7 : Nat, w1.cell? ((nb w).add 1) = some (Value.slice lA_5 lN_6 lC_7) ∧
              Calls Tryz.prog 30 #[Value.slice lA_5 lN_6 lC_7, Value.int .i64 744, Value.func (.func 31) #[] #[]] w1 (fun e2 w2 =>
              ∃ b_8 : Bool, e2 = .returned (Value.bool b_8) ∧
              CondP b_8
                (∃ lA_9 : Option Addr, ∃ lN_10 : Nat, ∃ lC_11 : Nat, w2.cell? ((nb w).add 2) = some (Value.slice lA_9 lN_10 lC_11) ∧
                 Calls Tryz.prog 32 #[Value.slice lA_9 lN_10 lC_11, Value.int .i64 744, Value.func (.func 33) #[] #[]] w2 (fun e3 w3 =>
                 ∃ b_12 : Bool, e3 = .returned (Value.bool b_12) ∧
                 CondP b_12
                   (∃ lA_13 : Option Addr, ∃ lN_14 : Nat, ∃ lC_15 : Nat, w3.cell? ((nb w).add 3) = some (Value.slice lA_13 lN_14 lC_15) ∧
                    Calls Tryz.prog 34 #[Value.slice lA_13 lN_14 lC_15, Value.int .i64 32, Value.func (.func 35) #[] #[]] w3 (fun e4 w4 =>
                    ∃ b_16 : Bool, e4 = .returned (Value.bool b_16) ∧
                    CondP b_16
                      (∃ lA_17 : Option Addr, ∃ lN_18 : Nat, ∃ lC_19 : Nat, w4.cell? ((nb w).add 4) = some (Value.slice lA_17 lN_18 lC_19) ∧
                       Calls Tryz.prog 36 #[Value.slice lA_17 lN_18 lC_19, Value.int .i64 64, Value.func (.func 37) #[] #[]] w4 (fun e5 w5 =>
                       ∃ b_20 : Bool, e5 = .returned (Value.bool b_20) ∧
                       CondP b_20
                         (∃ lA_21 : Option Addr, ∃ lN_22 : Nat, ∃ lC_23 : Nat, w5.cell? ((nb w).add 5) = some (Value.slice lA_21 lN_22 lC_23) ∧
                          Calls Tryz.prog 38 #[Value.slice lA_21 lN_22 lC_23, Value.int .i64 64, Value.func (.func 39) #[] #[]] w5 (fun e6 w6 =>
                          ∃ b_24 : Bool, e6 = .returned (Value.bool b_24) ∧
                          R (Value.bool b_24) w6))
                         (R (Value.bool false) w5)))
                      (R (Value.bool false) w4)))
                   (R (Value.bool false) w3)))
                (R (Value.bool false) w2))))
          (∃ lA_25 : Option Addr, ∃ lN_26 : Nat, ∃ lC_27 : Nat, w1.cell? ((nb w).add 1) = some (Value.slice lA_25 lN_26 lC_27) ∧
           Calls Tryz.prog 30 #[Value.slice lA_25 lN_26 lC_27, Value.int .i64 744, Value.func (.func 31) #[] #[]] w1 (fun e7 w7 =>
           ∃ b_28 : Bool, e7 = .returned (Value.bool b_28) ∧
           CondP b_28
             (∃ lA_29 : Option Addr, ∃ lN_30 : Nat, ∃ lC_31 : Nat, w7.cell? ((nb w).add 2) = some (Value.slice lA_29 lN_30 lC_31) ∧
              Calls Tryz.prog 32 #[Value.slice lA_29 lN_30 lC_31, Value.int .i64 744, Value.func (.func 33) #[] #[]] w7 (fun e8 w8 =>
              ∃ b_32 : Bool, e8 = .returned (Value.bool b_32) ∧
              CondP b_32
                (∃ lA_33 : Option Addr, ∃ lN_34 : Nat, ∃ lC_35 : Nat, w8.cell? ((nb w).add 3) = some (Value.slice lA_33 lN_34 lC_35) ∧
                 Calls Tryz.prog 34 #[Value.slice lA_33 lN_34 lC_35, Value.int .i64 32, Value.func (.func 35) #[] #[]] w8 (fun e9 w9 =>
                 ∃ b_36 : Bool, e9 = .returned (Value.bool b_36) ∧
                 CondP b_36
                   (∃ lA_37 : Option Addr, ∃ lN_38 : Nat, ∃ lC_39 : Nat, w9.cell? ((nb w).add 4) = some (Value.slice lA_37 lN_38 lC_39) ∧
                    Calls Tryz.prog 36 #[Value.slice lA_37 lN_38 lC_39, Value.int .i64 64, Value.func (.func 37) #[] #[]] w9 (fun e10 w10 =>
                    ∃ b_40 : Bool, e10 = .returned (Value.bool b_40) ∧
                    CondP b_40
                      (∃ lA_41 : Option Addr, ∃ lN_42 : Nat, ∃ lC_43 : Nat, w10.cell? ((nb w).add 5) = some (Value.slice lA_41 lN_42 lC_43) ∧
                       Calls Tryz.prog 38 #[Value.slice lA_41 lN_42 lC_43, Value.int .i64 64, Value.func (.func 39) #[] #[]] w10 (fun e11 w11 =>
                       ∃ b_44 : Bool, e11 = .returned (Value.bool b_44) ∧
                       R (Value.bool b_44) w11))
                      (R (Value.bool false) w10)))
                   (R (Value.bool false) w9)))
                (R (Value.bool false) w8)))
             (R (Value.bool false) w7)))))
    (∃ b_45 : Bool, w1.cell? ((nb w).add 0) = some (Value.bool b_45) ∧
     CondP (!b_45)
       (∃ lA_46 : Option Addr, ∃ lN_47 : Nat, ∃ lC_48 : Nat, w1.cell? ((nb w).add 2) = some (Value.slice lA_46 lN_47 lC_48) ∧
        CondP (decide ((((lN_47 : Nat) : Int) : Int) > 0))
          (R (Value.bool false) w1)
          (∃ lA_49 : Option Addr, ∃ lN_50 : Nat, ∃ lC_51 : Nat, w1.cell? ((nb w).add 1) = some (Value.slice lA_49 lN_50 lC_51) ∧
           Calls Tryz.prog 30 #[Value.slice lA_49 lN_50 lC_51, Value.int .i64 744, Value.func (.func 31) #[] #[]] w1 (fun e12 w12 =>
           ∃ b_52 : Bool, e12 = .returned (Value.bool b_52) ∧
           CondP b_52
             (∃ lA_53 : Option Addr, ∃ lN_54 : Nat, ∃ lC_55 : Nat, w12.cell? ((nb w).add 2) = some (Value.slice lA_53 lN_54 lC_55) ∧
              Calls Tryz.prog 32 #[Value.slice lA_53 lN_54 lC_55, Value.int .i64 744, Value.func (.func 33) #[] #[]] w12 (fun e13 w13 =>
              ∃ b_56 : Bool, e13 = .returned (Value.bool b_56) ∧
              CondP b_56
                (∃ lA_57 : Option Addr, ∃ lN_58 : Nat, ∃ lC_59 : Nat, w13.cell? ((nb w).add 3) = some (Value.slice lA_57 lN_58 lC_59) ∧
                 Calls Tryz.prog 34 #[Value.slice lA_57 lN_58 lC_59, Value.int .i64 32, Value.func (.func 35) #[] #[]] w13 (fun e14 w14 =>
                 ∃ b_60 : Bool, e14 = .returned (Value.bool b_60) ∧
                 CondP b_60
                   (∃ lA_61 : Option Addr, ∃ lN_62 : Nat, ∃ lC_63 : Nat, w14.cell? ((nb w).add 4) = some (Value.slice lA_61 lN_62 lC_63) ∧
                    Calls Tryz.prog 36 #[Value.slice lA_61 lN_62 lC_63, Value.int .i64 64, Value.func (.func 37) #[] #[]] w14 (fun e15 w15 =>
                    ∃ b_64 : Bool, e15 = .returned (Value.bool b_64) ∧
                    CondP b_64
                      (∃ lA_65 : Option Addr, ∃ lN_66 : Nat, ∃ lC_67 : Nat, w15.cell? ((nb w).add 5) = some (Value.slice lA_65 lN_66 lC_67) ∧
                       Calls Tryz.prog 38 #[Value.slice lA_65 lN_66 lC_67, Value.int .i64 64, Value.func (.func 39) #[] #[]] w15 (fun e16 w16 =>
                       ∃ b_68 : Bool, e16 = .returned (Value.bool b_68) ∧
                       R (Value.bool b_68) w16))
                      (R (Value.bool false) w15)))
                   (R (Value.bool false) w14)))
                (R (Value.bool false) w13)))
             (R (Value.bool false) w12))))
       (∃ lA_69 : Option Addr, ∃ lN_70 : Nat, ∃ lC_71 : Nat, w1.cell? ((nb w).add 1) = some (Value.slice lA_69 lN_70 lC_71) ∧
        Calls Tryz.prog 30 #[Value.slice lA_69 lN_70 lC_71, Value.int .i64 744, Value.func (.func 31) #[] #[]] w1 (fun e17 w17 =>
        ∃ b_72 : Bool, e17 = .returned (Value.bool b_72) ∧
        CondP b_72
          (∃ lA_73 : Option Addr, ∃ lN_74 : Nat, ∃ lC_75 : Nat, w17.cell? ((nb w).add 2) = some (Value.slice lA_73 lN_74 lC_75) ∧
           Calls Tryz.prog 32 #[Value.slice lA_73 lN_74 lC_75, Value.int .i64 744, Value.func (.func 33) #[] #[]] w17 (fun e18 w18 =>
           ∃ b_76 : Bool, e18 = .returned (Value.bool b_76) ∧
           CondP b_76
             (∃ lA_77 : Option Addr, ∃ lN_78 : Nat, ∃ lC_79 : Nat, w18.cell? ((nb w).add 3) = some (Value.slice lA_77 lN_78 lC_79) ∧
              Calls Tryz.prog 34 #[Value.slice lA_77 lN_78 lC_79, Value.int .i64 32, Value.func (.func 35) #[] #[]] w18 (fun e19 w19 =>
              ∃ b_80 : Bool, e19 = .returned (Value.bool b_80) ∧
              CondP b_80
                (∃ lA_81 : Option Addr, ∃ lN_82 : Nat, ∃ lC_83 : Nat, w19.cell? ((nb w).add 4) = some (Value.slice lA_81 lN_82 lC_83) ∧
                 Calls Tryz.prog 36 #[Value.slice lA_81 lN_82 lC_83, Value.int .i64 64, Value.func (.func 37) #[] #[]] w19 (fun e20 w20 =>
                 ∃ b_84 : Bool, e20 = .returned (Value.bool b_84) ∧
                 CondP b_84
                   (∃ lA_85 : Option Addr, ∃ lN_86 : Nat, ∃ lC_87 : Nat, w20.cell? ((nb w).add 5) = some (Value.slice lA_85 lN_86 lC_87) ∧
                    Calls Tryz.prog 38 #[Value.slice lA_85 lN_86 lC_87, Value.int .i64 64, Value.func (.func 39) #[] #[]] w20 (fun e21 w21 =>
                    ∃ b_88 : Bool, e21 = .returned (Value.bool b_88) ∧
                    R (Value.bool b_88) w21))
                   (R (Value.bool false) w20)))
                (R (Value.bool false) w19)))
             (R (Value.bool false) w18)))
          (R (Value.bool false) w17))))
theorem vc13_eq (s0 : Bool) (s1A : Option Addr) (s1N : Nat) (s1C : Nat) (s2A : Option Addr) (s2N : Nat) (s2C : Nat) (s3A : Option Addr) (s3N : Nat) (s3C : Nat) (s4A : Option Addr) (s4N : Nat) (s4C : Nat) (s5A : Option Addr) (s5N : Nat) (s5C : Nat) (w : World) (R : Value → World → Prop) : vc13 s0 s1A s1N s1C s2A s2N s2C s3A s3N s3C s4A s4N s4C s5A s5N s5C w R = denFun ctx (bodyOf Tryz.f13) Tryz.f13.results.toList [Value.agg #[Value.bool s0, Value.slice s1A s1N s1C, Value.slice s2A s2N s2C, Value.slice s3A s3N s3C, Value.slice s4A s4N s4C, Value.slice s5A s5N s5C]] w R := by kernel_rfl
theorem vc13_calls (s0 : Bool) (s1A : Option Addr) (s1N : Nat) (s1C : Nat) (s2A : Option Addr) (s2N : Nat) (s2C : Nat) (s3A : Option Addr) (s3N : Nat) (s3C : Nat) (s4A : Option Addr) (s4N : Nat) (s4C : Nat) (s5A : Option Addr) (s5N : Nat) (s5C : Nat) (w : World) (R : Value → World → Prop) (h : vc13 s0 s1A s1N s1C s2A s2N s2C s3A s3N s3C s4A s4N s4C s5A s5N s5C w R) : Calls Tryz.prog 13 #[Value.agg #[Value.bool s0, Value.slice s1A s1N s1C, Value.slice s2A s2N s2C, Value.slice s3A s3N s3C, Value.slice s4A s4N s4C, Value.slice s5A s5N s5C]] w fun e w' => ∃ v, e = .returned v ∧ R v w' :=
  calls_of_den ctxOk (f := 13) (fn := Tryz.f13) (body := bodyOf Tryz.f13) (args := [Value.agg #[Value.bool s0, Value.slice s1A s1N s1C, Value.slice s2A s2N s2C, Value.slice s3A s3N s3C, Value.slice s4A s4N s4C, Value.slice s5A s5N s5C]]) (by kernel_rfl) (by kernel_rfl) (by kernel_rfl) (by kernel_rfl) (Eq.mp (vc13_eq s0 s1A s1N s1C s2A s2N s2C s3A s3N s3C s4A s4N s4C s5A s5N s5C w R) h)

/-! ### ligature/ligatureref06.Right: function 14 -/
def vc14 (s0 : Bool) (s1A : Option Addr) (s1N : Nat) (s1C : Nat) (s2A : Option Addr) (s2N : Nat) (s2C : Nat) (s3A : Option Addr) (s3N : Nat) (s3C : Nat) (s4A : Option Addr) (s4N : Nat) (s4C : Nat) (s5A : Option Addr) (s5N : Nat) (s5C : Nat) (w : World) (R : Value → World → Prop) : Prop :=
  ∀ w1 : World, w1 = w.alloc (.cells #[Value.bool s0, Value.slice s1A s1N s1C, Value.slice s2A s2N s2C, Value.slice s3A s3N s3C, Value.slice s4A s4N s4C, Value.slice s5A s5N s5C] 29) →
  ∃ lA : Option Addr, ∃ lN : Nat, ∃ lC : Nat, w1.cell? ((nb w).add 1) = some (Value.slice lA lN lC) ∧
  CondP (decide ((((lN : Nat) : Int) : Int) > 744))
    (R (Value.bool false) w1)
    (∃ lA_1 : Option Addr, ∃ lN_2 : Nat, ∃ lC_3 : Nat, w1.cell? ((nb w).add 2) = some (Value.slice lA_1 lN_2 lC_3) ∧
     CondP (decide ((((lN_2 : Nat) : Int) : Int) > 744))
       (R (Value.bool false) w1)
       (∃ lA_4 : Option Addr, ∃ lN_5 : Nat, ∃ lC_6 : Nat, w1.cell? ((nb w).add 3) = some (Value.slice lA_4 lN_5 lC_6) ∧
        CondP (decide ((((lN_5 : Nat) : Int) : Int) > 32))
          (R (Value.bool false) w1)
          (∃ lA_7 : Option Addr, ∃ lN_8 : Nat, ∃ lC_9 : Nat, w1.cell? ((nb w).add 4) = some (Value.slice lA_7 lN_8 lC_9) ∧
           CondP (decide ((((lN_8 : Nat) : Int) : Int) > 64))
             (R (Value.bool false) w1)
             (∃ lA_10 : Option Addr, ∃ lN_11 : Nat, ∃ lC_12 : Nat, w1.cell? ((nb w).add 5) = some (Value.slice lA_10 lN_11 lC_12) ∧
              CondP (decide ((((lN_11 : Nat) : Int) : Int) > 64))
                (R (Value.bool false) w1)
                (∀ I13 : List Value → World → Prop, (∀ i : Int, ∀ y2 : Bool, ∀ w2 : World, (∃ lA_14 : Option Addr, ∃ lN_15 : Nat, ∃ lC_16 : Nat, w2.cell? ((nb w).add 1) = some (Value.slice lA_14 lN_15 lC_16) ∧
                   CondP (decide ((i : Int) < ((lN_15 : Nat) : Int)))
                     (∃ b : Bool, w2.cell? ((nb w).add 0) = some (Value.bool b) ∧
                      CondP b
                        (R (Value.bool false) w2)
                        (∃ lA_17 : Option Addr, ∃ lN_18 : Nat, ∃ lC_19 : Nat, w2.cell? ((nb w).add 1) = some (Value.slice lA_17 lN_18 lC_19) ∧
                         NilC lA_17 (fun pa =>
                         (0 : Int) ≤ i ∧ i < ((lN_18 : Nat) : Int) ∧
                         ∃ n : Int, w2.cell? ((pa.add ((i : Int).toNat * 2)).add 0) = some (Value.int .i64 n) ∧
                         Calls Tryz.prog 40 #[Value.int .i64 n, Value.int .i64 0, Value.int .i64 999] w2 (fun e3 w3 =>
                         ∃ b_20 : Bool, e3 = .returned (Value.bool b_20) ∧
                         CondP (!b_20)
                           (R (Value.bool false) w3)
                           (∃ lA_21 : Option Addr, ∃ lN_22 : Nat, ∃ lC_23 : Nat, w3.cell? ((nb w).add 1) = some (Value.slice lA_21 lN_22 lC_23) ∧
                            NilC lA_21 (fun pa_24 =>
                            (0 : Int) ≤ i ∧ i < ((lN_22 : Nat) : Int) ∧
                            ∃ n_25 : Int, w3.cell? ((pa_24.add ((i : Int).toNat * 2)).add 1) = some (Value.int .i64 n_25) ∧
                            Calls Tryz.prog 40 #[Value.int .i64 n_25, Value.int .i64 0, Value.int .i64 999] w3 (fun e4 w4 =>
                            ∃ b_26 : Bool, e4 = .returned (Value.bool b_26) ∧
                            CondP (!b_26)
                              (R (Value.bool false) w4)
                              (Ar .i64 ((i : Int) + 1) (fun n_27 =>
                               I13 [Value.int .i64 n_27, Value.bool y2] w4)))))))))
                     (∀ I28 : List Value → World → Prop, (∀ i_29 : Int, ∀ y2_30 : Bool, ∀ w5 : World, (∃ lA_31 : Option Addr, ∃ lN_32 : Nat, ∃ lC_33 : Nat, w5.cell? ((nb w).add 2) = some (Value.slice lA_31 lN_32 lC_33) ∧
                        CondP (decide ((i_29 : Int) < ((lN_32 : Nat) : Int)))
                          (∃ b_34 : Bool, w5.cell? ((nb w).add 0) = some (Value.bool b_34) ∧
                           CondP (!b_34)
                             (R (Value.bool false) w5)
                             (∃ lA_35 : Option Addr, ∃ lN_36 : Nat, ∃ lC_37 : Nat, w5.cell? ((nb w).add 2) = some (Value.slice lA_35 lN_36 lC_37) ∧
                              NilC lA_35 (fun pa_38 =>
                              (0 : Int) ≤ i_29 ∧ i_29 < ((lN_36 : Nat) : Int) ∧
                              ∃ s : ByteArray, w5.cell? (pa_38.add ((i_29 : Int).toNat * 1)) = some (Value.string s) ∧
                              Calls Tryz.prog 40 #[Value.int .i64 ((s : ByteArray).size : Int), Value.int .i64 2, Value.int .i64 64] w5 (fun e6 w6 =>
                              ∃ b_39 : Bool, e6 = .returned (Value.bool b_39) ∧
                              CondP (!b_39)
                                (R (Value.bool false) w6)
                                (Ar .i64 ((i_29 : Int) + 1) (fun n_40 =>
                                 I28 [Value.int .i64 n_40, Value.bool y2_30] w6))))))
                          (∀ I41 : List Value → World → Prop, (∀ i_42 : Int, ∀ y2_43 : Bool, ∀ w7 : World, (∃ lA_44 : Option Addr, ∃ lN_45 : Nat, ∃ lC_46 : Nat, w7.cell? ((nb w).add 3) = some (Value.slice lA_44 lN_45 lC_46) ∧
                             CondP (decide ((i_42 : Int) < ((lN_45 : Nat) : Int)))
                               (∃ lA_47 : Option Addr, ∃ lN_48 : Nat, ∃ lC_49 : Nat, w7.cell? ((nb w).add 3) = some (Value.slice lA_47 lN_48 lC_49) ∧
                                NilC lA_47 (fun pa_50 =>
                                (0 : Int) ≤ i_42 ∧ i_42 < ((lN_48 : Nat) : Int) ∧
                                ∃ n_51 : Int, w7.cell? ((pa_50.add ((i_42 : Int).toNat * 2)).add 0) = some (Value.int .i64 n_51) ∧
                                Calls Tryz.prog 40 #[Value.int .i64 n_51, Value.int .i64 0, Value.int .i64 1073741824] w7 (fun e8 w8 =>
                                ∃ b_52 : Bool, e8 = .returned (Value.bool b_52) ∧
                                CondP (!b_52)
                                  (R (Value.bool false) w8)
                                  (∃ lA_53 : Option Addr, ∃ lN_54 : Nat, ∃ lC_55 : Nat, w8.cell? ((nb w).add 3) = some (Value.slice lA_53 lN_54 lC_55) ∧
                                   NilC lA_53 (fun pa_56 =>
                                   (0 : Int) ≤ i_42 ∧ i_42 < ((lN_54 : Nat) : Int) ∧
                                   ∃ s_57 : ByteArray, w8.cell? ((pa_56.add ((i_42 : Int).toNat * 2)).add 1) = some (Value.string s_57) ∧
                                   Calls Tryz.prog 40 #[Value.int .i64 ((s_57 : ByteArray).size : Int), Value.int .i64 1, Value.int .i64 64] w8 (fun e9 w9 =>
                                   ∃ b_58 : Bool, e9 = .returned (Value.bool b_58) ∧
                                   CondP (!b_58)
                                     (R (Value.bool false) w9)
                                     (Ar .i64 ((i_42 : Int) + 1) (fun n_59 =>
                                      I41 [Value.int .i64 n_59, Value.bool y2_43] w9))))))))
                               (∀ I60 : List Value → World → Prop, (∀ i_61 : Int, ∀ y2_62 : Bool, ∀ w10 : World, (∃ lA_63 : Option Addr, ∃ lN_64 : Nat, ∃ lC_65 : Nat, w10.cell? ((nb w).add 4) = some (Value.slice lA_63 lN_64 lC_65) ∧
                                  CondP (decide ((i_61 : Int) < ((lN_64 : Nat) : Int)))
                                    (∃ lA_66 : Option Addr, ∃ lN_67 : Nat, ∃ lC_68 : Nat, w10.cell? ((nb w).add 4) = some (Value.slice lA_66 lN_67 lC_68) ∧
                                     NilC lA_66 (fun pa_69 =>
                                     (0 : Int) ≤ i_61 ∧ i_61 < ((lN_67 : Nat) : Int) ∧
                                     ∃ g0 : Int, ∃ g1 : Int, ∃ g2 : Int, (w10.cell? (pa_69.add ((i_61 : Int).toNat * 3)) = some (Value.int .i64 g0) ∧ w10.cell? ((pa_69.add ((i_61 : Int).toNat * 3)).add 1) = some (Value.int .i64 g1) ∧ w10.cell? ((pa_69.add ((i_61 : Int).toNat * 3)).add 2) = some (Value.int .i64 g2) ∧ True) ∧
                                     ∀ w11 : World, w11 = w10.alloc (.cells #[Value.int .i64 0, Value.int .i64 0, Value.int .i64 0] 57) →
                                     StoreP w11 (nb w10) (fun w12 =>
                                     ∃ n_70 : Int, w12.cell? ((nb w10).add 0) = some (Value.int .i64 n_70) ∧
                                     CondP (decide ((n_70 : Int) < 0))
                                       (R (Value.bool false) w12)
                                       (∃ n_71 : Int, w12.cell? ((nb w10).add 1) = some (Value.int .i64 n_71) ∧
                                        ∃ n_72 : Int, w12.cell? ((nb w10).add 0) = some (Value.int .i64 n_72) ∧
                                        CondP (decide ((n_71 : Int) < n_72))
                                          (R (Value.bool false) w12)
                                          (∃ n_73 : Int, w12.cell? ((nb w10).add 1) = some (Value.int .i64 n_73) ∧
                                           CondP (decide ((n_73 : Int) > 255))
                                             (R (Value.bool false) w12)
                                             (∃ n_74 : Int, w12.cell? ((nb w10).add 2) = some (Value.int .i64 n_74) ∧
                                              Calls Tryz.prog 40 #[Value.int .i64 n_74, Value.int .i64 0, Value.int .i64 15] w12 (fun e13 w13 =>
                                              ∃ b_75 : Bool, e13 = .returned (Value.bool b_75) ∧
                                              CondP (!b_75)
                                                (R (Value.bool false) w13)
                                                (Ar .i64 ((i_61 : Int) + 1) (fun n_76 =>
                                                 I60 [Value.int .i64 n_76, Value.bool y2_62] w13))))))) [Value.int .i64 g0, Value.int .i64 g1, Value.int .i64 g2] 0))
                                    (∀ I77 : List Value → World → Prop, (∀ i_78 : Int, ∀ y2_79 : Bool, ∀ w14 : World, (∃ lA_80 : Option Addr, ∃ lN_81 : Nat, ∃ lC_82 : Nat, w14.cell? ((nb w).add 5) = some (Value.slice lA_80 lN_81 lC_82) ∧
                                       CondP (decide ((i_78 : Int) < ((lN_81 : Nat) : Int)))
                                         (∃ lA_83 : Option Addr, ∃ lN_84 : Nat, ∃ lC_85 : Nat, w14.cell? ((nb w).add 5) = some (Value.slice lA_83 lN_84 lC_85) ∧
                                          NilC lA_83 (fun pa_86 =>
                                          (0 : Int) ≤ i_78 ∧ i_78 < ((lN_84 : Nat) : Int) ∧
                                          ∃ n_87 : Int, w14.cell? ((pa_86.add ((i_78 : Int).toNat * 2)).add 0) = some (Value.int .i64 n_87) ∧
                                          Calls Tryz.prog 40 #[Value.int .i64 n_87, Value.int .i64 0, Value.int .i64 15] w14 (fun e15 w15 =>
                                          ∃ b_88 : Bool, e15 = .returned (Value.bool b_88) ∧
                                          CondP (!b_88)
                                            (R (Value.bool false) w15)
                                            (∃ lA_89 : Option Addr, ∃ lN_90 : Nat, ∃ lC_91 : Nat, w15.cell? ((nb w).add 5) = some (Value.slice lA_89 lN_90 lC_91) ∧
                                             NilC lA_89 (fun pa_92 =>
                                             (0 : Int) ≤ i_78 ∧ i_78 < ((lN_90 : Nat) : Int) ∧
                                             ∃ n_93 : Int, w15.cell? ((pa_92.add ((i_78 : Int).toNat * 2)).add 1) = some (Value.int .i64 n_93) ∧
                                             Calls Tryz.prog 40 #[Value.int .i64 n_93, Value.int .i64 0, Value.int .i64 15] w15 (fun e16 w16 =>
                                             ∃ b_94 : Bool, e16 = .returned (Value.bool b_94) ∧
                                             CondP (!b_94)
                                               (R (Value.bool false) w16)
                                               (Ar .i64 ((i_78 : Int) + 1) (fun n_95 =>
                                                I77 [Value.int .i64 n_95, Value.bool y2_79] w16))))))))
                                         (R (Value.bool true) w14)) → I77 [Value.int .i64 i_78, Value.bool y2_79] w14) →
                                     I77 [Value.int .i64 0, Value.bool y2_62] w10)) → I60 [Value.int .i64 i_61, Value.bool y2_62] w10) →
                                I60 [Value.int .i64 0, Value.bool y2_43] w7)) → I41 [Value.int .i64 i_42, Value.bool y2_43] w7) →
                           I41 [Value.int .i64 0, Value.bool y2_30] w5)) → I28 [Value.int .i64 i_29, Value.bool y2_30] w5) →
                      I28 [Value.int .i64 0, Value.bool y2] w2)) → I13 [Value.int .i64 i, Value.bool y2] w2) →
                 I13 [Value.int .i64 0, Value.bool false] w1)))))
theorem vc14_eq (s0 : Bool) (s1A : Option Addr) (s1N : Nat) (s1C : Nat) (s2A : Option Addr) (s2N : Nat) (s2C : Nat) (s3A : Option Addr) (s3N : Nat) (s3C : Nat) (s4A : Option Addr) (s4N : Nat) (s4C : Nat) (s5A : Option Addr) (s5N : Nat) (s5C : Nat) (w : World) (R : Value → World → Prop) : vc14 s0 s1A s1N s1C s2A s2N s2C s3A s3N s3C s4A s4N s4C s5A s5N s5C w R = denFun ctx (bodyOf Tryz.f14) Tryz.f14.results.toList [Value.agg #[Value.bool s0, Value.slice s1A s1N s1C, Value.slice s2A s2N s2C, Value.slice s3A s3N s3C, Value.slice s4A s4N s4C, Value.slice s5A s5N s5C]] w R := by kernel_rfl
theorem vc14_calls (s0 : Bool) (s1A : Option Addr) (s1N : Nat) (s1C : Nat) (s2A : Option Addr) (s2N : Nat) (s2C : Nat) (s3A : Option Addr) (s3N : Nat) (s3C : Nat) (s4A : Option Addr) (s4N : Nat) (s4C : Nat) (s5A : Option Addr) (s5N : Nat) (s5C : Nat) (w : World) (R : Value → World → Prop) (h : vc14 s0 s1A s1N s1C s2A s2N s2C s3A s3N s3C s4A s4N s4C s5A s5N s5C w R) : Calls Tryz.prog 14 #[Value.agg #[Value.bool s0, Value.slice s1A s1N s1C, Value.slice s2A s2N s2C, Value.slice s3A s3N s3C, Value.slice s4A s4N s4C, Value.slice s5A s5N s5C]] w fun e w' => ∃ v, e = .returned v ∧ R v w' :=
  calls_of_den ctxOk (f := 14) (fn := Tryz.f14) (body := bodyOf Tryz.f14) (args := [Value.agg #[Value.bool s0, Value.slice s1A s1N s1C, Value.slice s2A s2N s2C, Value.slice s3A s3N s3C, Value.slice s4A s4N s4C, Value.slice s5A s5N s5C]]) (by kernel_rfl) (by kernel_rfl) (by kernel_rfl) (by kernel_rfl) (Eq.mp (vc14_eq s0 s1A s1N s1C s2A s2N s2C s3A s3N s3C s4A s4N s4C s5A s5N s5C w R) h)

/-! ### ligature/spec.Same: function 15 -/
def vc15 (a0 : Bool) (a1A : Option Addr) (a1N : Nat) (a1C : Nat) (a2A : Option Addr) (a2N : Nat) (a2C : Nat) (a3A : Option Addr) (a3N : Nat) (a3C : Nat) (a4A : Option Addr) (a4N : Nat) (a4C : Nat) (a5A : Option Addr) (a5N : Nat) (a5C : Nat) (b0 : Bool) (b1A : Option Addr) (b1N : Nat) (b1C : Nat) (b2A : Option Addr) (b2N : Nat) (b2C : Nat) (b3A : Option Addr) (b3N : Nat) (b3C : Nat) (b4A : Option Addr) (b4N : Nat) (b4C : Nat) (b5A : Option Addr) (b5N : Nat) (b5C : Nat) (w : World) (R : Value → World → Prop) : Prop :=
  ∀ w1 : World, w1 = w.alloc (.cells #[Value.bool a0, Value.slice a1A a1N a1C, Value.slice a2A a2N a2C, Value.slice a3A a3N a3C, Value.slice a4A a4N a4C, Value.slice a5A a5N a5C] 29) →
  ∀ w2 : World, w2 = w1.alloc (.cells #[Value.bool b0, Value.slice b1A b1N b1C, Value.slice b2A b2N b2C, Value.slice b3A b3N b3C, Value.slice b4A b4N b4C, Value.slice b5A b5N b5C] 29) →
  ∃ b : Bool, w2.cell? ((nb w).add 0) = some (Value.bool b) ∧
  ∃ b_1 : Bool, w2.cell? ((nb w1).add 0) = some (Value.bool b_1) ∧
  CondP (b == b_1)
    (∃ lA : Option Addr, ∃ lN : Nat, ∃ lC : Nat, w2.cell? ((nb w).add 1) = some (Value.slice lA lN lC) ∧
     ∃ lA_2 : Option Addr, ∃ lN_3 : Nat, ∃ lC_4 : Nat, w2.cell? ((nb w1).add 1) = some (Value.slice lA_2 lN_3 lC_4) ∧
     Calls Tryz.prog 41 #[Value.slice lA lN lC, Value.slice lA_2 lN_3 lC_4] w2 (fun e3 w3 =>
     ∃ b_5 : Bool, e3 = .returned (Value.bool b_5) ∧
     CondP b_5
       (∃ lA_6 : Option Addr, ∃ lN_7 : Nat, ∃ lC_8 : Nat, w3.cell? ((nb w).add 2) = some (Value.slice lA_6 lN_7 lC_8) ∧
        ∃ lA_9 : Option Addr, ∃ lN_10 : Nat, ∃ lC_11 : Nat, w3.cell? ((nb w1).add 2) = some (Value.slice lA_9 lN_10 lC_11) ∧
        Calls Tryz.prog 42 #[Value.slice lA_6 lN_7 lC_8, Value.slice lA_9 lN_10 lC_11] w3 (fun e4 w4 =>
        ∃ b_12 : Bool, e4 = .returned (Value.bool b_12) ∧
        CondP b_12
          (∃ lA_13 : Option Addr, ∃ lN_14 : Nat, ∃ lC_15 : Nat, w4.cell? ((nb w).add 3) = some (Value.slice lA_13 lN_14 lC_15) ∧
           ∃ lA_16 : Option Addr, ∃ lN_17 : Nat, ∃ lC_18 : Nat, w4.cell? ((nb w1).add 3) = some (Value.slice lA_16 lN_17 lC_18) ∧
           Calls Tryz.prog 43 #[Value.slice lA_13 lN_14 lC_15, Value.slice lA_16 lN_17 lC_18] w4 (fun e5 w5 =>
           ∃ b_19 : Bool, e5 = .returned (Value.bool b_19) ∧
           CondP b_19
             (∃ lA_20 : Option Addr, ∃ lN_21 : Nat, ∃ lC_22 : Nat, w5.cell? ((nb w).add 4) = some (Value.slice lA_20 lN_21 lC_22) ∧
              ∃ lA_23 : Option Addr, ∃ lN_24 : Nat, ∃ lC_25 : Nat, w5.cell? ((nb w1).add 4) = some (Value.slice lA_23 lN_24 lC_25) ∧
              Calls Tryz.prog 44 #[Value.slice lA_20 lN_21 lC_22, Value.slice lA_23 lN_24 lC_25] w5 (fun e6 w6 =>
              ∃ b_26 : Bool, e6 = .returned (Value.bool b_26) ∧
              CondP b_26
                (∃ lA_27 : Option Addr, ∃ lN_28 : Nat, ∃ lC_29 : Nat, w6.cell? ((nb w).add 5) = some (Value.slice lA_27 lN_28 lC_29) ∧
                 ∃ lA_30 : Option Addr, ∃ lN_31 : Nat, ∃ lC_32 : Nat, w6.cell? ((nb w1).add 5) = some (Value.slice lA_30 lN_31 lC_32) ∧
                 Calls Tryz.prog 45 #[Value.slice lA_27 lN_28 lC_29, Value.slice lA_30 lN_31 lC_32] w6 (fun e7 w7 =>
                 ∃ b_33 : Bool, e7 = .returned (Value.bool b_33) ∧
                 R (Value.bool b_33) w7))
                (R (Value.bool false) w6)))
             (R (Value.bool false) w5)))
          (R (Value.bool false) w4)))
       (R (Value.bool false) w3)))
    (R (Value.bool false) w2)
theorem vc15_eq (a0 : Bool) (a1A : Option Addr) (a1N : Nat) (a1C : Nat) (a2A : Option Addr) (a2N : Nat) (a2C : Nat) (a3A : Option Addr) (a3N : Nat) (a3C : Nat) (a4A : Option Addr) (a4N : Nat) (a4C : Nat) (a5A : Option Addr) (a5N : Nat) (a5C : Nat) (b0 : Bool) (b1A : Option Addr) (b1N : Nat) (b1C : Nat) (b2A : Option Addr) (b2N : Nat) (b2C : Nat) (b3A : Option Addr) (b3N : Nat) (b3C : Nat) (b4A : Option Addr) (b4N : Nat) (b4C : Nat) (b5A : Option Addr) (b5N : Nat) (b5C : Nat) (w : World) (R : Value → World → Prop) : vc15 a0 a1A a1N a1C a2A a2N a2C a3A a3N a3C a4A a4N a4C a5A a5N a5C b0 b1A b1N b1C b2A b2N b2C b3A b3N b3C b4A b4N b4C b5A b5N b5C w R = denFun ctx (bodyOf Tryz.f15) Tryz.f15.results.toList [Value.agg #[Value.bool a0, Value.slice a1A a1N a1C, Value.slice a2A a2N a2C, Value.slice a3A a3N a3C, Value.slice a4A a4N a4C, Value.slice a5A a5N a5C], Value.agg #[Value.bool b0, Value.slice b1A b1N b1C, Value.slice b2A b2N b2C, Value.slice b3A b3N b3C, Value.slice b4A b4N b4C, Value.slice b5A b5N b5C]] w R := by kernel_rfl
theorem vc15_calls (a0 : Bool) (a1A : Option Addr) (a1N : Nat) (a1C : Nat) (a2A : Option Addr) (a2N : Nat) (a2C : Nat) (a3A : Option Addr) (a3N : Nat) (a3C : Nat) (a4A : Option Addr) (a4N : Nat) (a4C : Nat) (a5A : Option Addr) (a5N : Nat) (a5C : Nat) (b0 : Bool) (b1A : Option Addr) (b1N : Nat) (b1C : Nat) (b2A : Option Addr) (b2N : Nat) (b2C : Nat) (b3A : Option Addr) (b3N : Nat) (b3C : Nat) (b4A : Option Addr) (b4N : Nat) (b4C : Nat) (b5A : Option Addr) (b5N : Nat) (b5C : Nat) (w : World) (R : Value → World → Prop) (h : vc15 a0 a1A a1N a1C a2A a2N a2C a3A a3N a3C a4A a4N a4C a5A a5N a5C b0 b1A b1N b1C b2A b2N b2C b3A b3N b3C b4A b4N b4C b5A b5N b5C w R) : Calls Tryz.prog 15 #[Value.agg #[Value.bool a0, Value.slice a1A a1N a1C, Value.slice a2A a2N a2C, Value.slice a3A a3N a3C, Value.slice a4A a4N a4C, Value.slice a5A a5N a5C], Value.agg #[Value.bool b0, Value.slice b1A b1N b1C, Value.slice b2A b2N b2C, Value.slice b3A b3N b3C, Value.slice b4A b4N b4C, Value.slice b5A b5N b5C]] w fun e w' => ∃ v, e = .returned v ∧ R v w' :=
  calls_of_den ctxOk (f := 15) (fn := Tryz.f15) (body := bodyOf Tryz.f15) (args := [Value.agg #[Value.bool a0, Value.slice a1A a1N a1C, Value.slice a2A a2N a2C, Value.slice a3A a3N a3C, Value.slice a4A a4N a4C, Value.slice a5A a5N a5C], Value.agg #[Value.bool b0, Value.slice b1A b1N b1C, Value.slice b2A b2N b2C, Value.slice b3A b3N b3C, Value.slice b4A b4N b4C, Value.slice b5A b5N b5C]]) (by kernel_rfl) (by kernel_rfl) (by kernel_rfl) (by kernel_rfl) (Eq.mp (vc15_eq a0 a1A a1N a1C a2A a2N a2C a3A a3N a3C a4A a4N a4C a5A a5N a5C b0 b1A b1N b1C b2A b2N b2C b3A b3N b3C b4A b4N b4C b5A b5N b5C w R) h)

/-! ### ligature/ligatureref06.Print: function 16 -/
def vc16 (s0 : Bool) (s1A : Option Addr) (s1N : Nat) (s1C : Nat) (s2A : Option Addr) (s2N : Nat) (s2C : Nat) (s3A : Option Addr) (s3N : Nat) (s3C : Nat) (s4A : Option Addr) (s4N : Nat) (s4C : Nat) (s5A : Option Addr) (s5N : Nat) (s5C : Nat) (w : World) (R : Value → World → Prop) : Prop :=
  ∀ w1 : World, w1 = w.alloc (.cells #[Value.bool s0, Value.slice s1A s1N s1C, Value.slice s2A s2N s2C, Value.slice s3A s3N s3C, Value.slice s4A s4N s4C, Value.slice s5A s5N s5C] 29) →
  ∃ g0 : Bool, ∃ g1A : Option Addr, ∃ g1N : Nat, ∃ g1C : Nat, ∃ g2A : Option Addr, ∃ g2N : Nat, ∃ g2C : Nat, ∃ g3A : Option Addr, ∃ g3N : Nat, ∃ g3C : Nat, ∃ g4A : Option Addr, ∃ g4N : Nat, ∃ g4C : Nat, ∃ g5A : Option Addr, ∃ g5N : Nat, ∃ g5C : Nat, (w1.cell? (nb w) = some (Value.bool g0) ∧ w1.cell? ((nb w).add 1) = some (Value.slice g1A g1N g1C) ∧ w1.cell? ((nb w).add 2) = some (Value.slice g2A g2N g2C) ∧ w1.cell? ((nb w).add 3) = some (Value.slice g3A g3N g3C) ∧ w1.cell? ((nb w).add 4) = some (Value.slice g4A g4N g4C) ∧ w1.cell? ((nb w).add 5) = some (Value.slice g5A g5N g5C) ∧ True) ∧
  Calls Tryz.prog 23 #[Value.agg #[Value.bool g0, Value.slice g1A g1N g1C, Value.slice g2A g2N g2C, Value.slice g3A g3N g3C, Value.slice g4A g4N g4C, Value.slice g5A g5N g5C]] w1 (fun e2 w2 =>
  ∃ lA : Option Addr, ∃ lN : Nat, ∃ lC : Nat, e2 = .returned (Value.slice lA lN lC) ∧
  ∀ w3 : World, w3 = w2.alloc (.cells #[] 5) →
  ∀ I1 : List Value → World → Prop, (∀ i : Int, ∀ outA : Option Addr, ∀ outN : Nat, ∀ outC : Nat, ∀ w4 : World, (CondP (decide ((i : Int) < ((lN : Nat) : Int)))
      (NilC lA (fun pa =>
       (0 : Int) ≤ i ∧ i < ((lN : Nat) : Int) ∧
       ∃ s : ByteArray, w4.cell? (pa.add ((i : Int).toNat * 1)) = some (Value.string s) ∧
       ∃ lA_2 : Option Addr, ∃ lN_3 : Nat, ∃ lC_4 : Nat, ∃ w5 : World, (Builtin.append_ #[65, 9] 65 #[Value.slice outA outN outC, Value.string s]).run Tryz.prog w4 = .ok (Value.slice lA_2 lN_3 lC_4) w5 ∧
       ∀ w6 : World, w6 = w5.alloc (.cells #[Value.int .u8 10] 5) →
       ∃ lA_5 : Option Addr, ∃ lN_6 : Nat, ∃ lC_7 : Nat, ∃ w7 : World, (Builtin.append_ #[65, 65] 65 #[Value.slice lA_2 lN_3 lC_4, Value.slice (some (nb w5)) 1 1]).run Tryz.prog w6 = .ok (Value.slice lA_5 lN_6 lC_7) w7 ∧
       Ar .i64 ((i : Int) + 1) (fun n =>
       I1 [Value.int .i64 n, Value.slice lA_5 lN_6 lC_7] w7)))
      (∃ s_8 : ByteArray, ∃ w8 : World, (convert 65 9 (Value.slice outA outN outC)).run Tryz.prog w4 = .ok (Value.string s_8) w8 ∧
       R (Value.string s_8) w8)) → I1 [Value.int .i64 i, Value.slice outA outN outC] w4) →
  I1 [Value.int .i64 0, Value.slice (some (nb w2)) 0 0] w3)
theorem vc16_eq (s0 : Bool) (s1A : Option Addr) (s1N : Nat) (s1C : Nat) (s2A : Option Addr) (s2N : Nat) (s2C : Nat) (s3A : Option Addr) (s3N : Nat) (s3C : Nat) (s4A : Option Addr) (s4N : Nat) (s4C : Nat) (s5A : Option Addr) (s5N : Nat) (s5C : Nat) (w : World) (R : Value → World → Prop) : vc16 s0 s1A s1N s1C s2A s2N s2C s3A s3N s3C s4A s4N s4C s5A s5N s5C w R = denFun ctx (bodyOf Tryz.f16) Tryz.f16.results.toList [Value.agg #[Value.bool s0, Value.slice s1A s1N s1C, Value.slice s2A s2N s2C, Value.slice s3A s3N s3C, Value.slice s4A s4N s4C, Value.slice s5A s5N s5C]] w R := by kernel_rfl
theorem vc16_calls (s0 : Bool) (s1A : Option Addr) (s1N : Nat) (s1C : Nat) (s2A : Option Addr) (s2N : Nat) (s2C : Nat) (s3A : Option Addr) (s3N : Nat) (s3C : Nat) (s4A : Option Addr) (s4N : Nat) (s4C : Nat) (s5A : Option Addr) (s5N : Nat) (s5C : Nat) (w : World) (R : Value → World → Prop) (h : vc16 s0 s1A s1N s1C s2A s2N s2C s3A s3N s3C s4A s4N s4C s5A s5N s5C w R) : Calls Tryz.prog 16 #[Value.agg #[Value.bool s0, Value.slice s1A s1N s1C, Value.slice s2A s2N s2C, Value.slice s3A s3N s3C, Value.slice s4A s4N s4C, Value.slice s5A s5N s5C]] w fun e w' => ∃ v, e = .returned v ∧ R v w' :=
  calls_of_den ctxOk (f := 16) (fn := Tryz.f16) (body := bodyOf Tryz.f16) (args := [Value.agg #[Value.bool s0, Value.slice s1A s1N s1C, Value.slice s2A s2N s2C, Value.slice s3A s3N s3C, Value.slice s4A s4N s4C, Value.slice s5A s5N s5C]]) (by kernel_rfl) (by kernel_rfl) (by kernel_rfl) (by kernel_rfl) (Eq.mp (vc16_eq s0 s1A s1N s1C s2A s2N s2C s3A s3N s3C s4A s4N s4C s5A s5N s5C w R) h)

/-! ### ligature/word.Lines: function 17 -/
def vc17 (text : ByteArray) (w : World) (R : Value → World → Prop) : Prop :=
  ∀ I1 : List Value → World → Prop, (∀ lA : Option Addr, ∀ lN : Nat, ∀ lC : Nat, ∀ y3 : Bool, ∀ y2A : Option Addr, ∀ y2N : Nat, ∀ y2C : Nat, ∀ text_2 : ByteArray, ∀ w1 : World, (Calls Tryz.prog 46 #[Value.string text_2, Value.string ⟨#[10]⟩] w1 (fun e2 w2 =>
    ∃ r0 : ByteArray, ∃ r1 : ByteArray, ∃ r2 : Bool, e2 = .returned (Value.tuple #[Value.string r0, Value.string r1, Value.bool r2]) ∧
    CondP (!r2)
      (R (Value.tuple #[Value.slice lA lN lC, Value.bool ((r0 : ByteArray).toList == (⟨#[]⟩ : ByteArray).toList)]) w2)
      (∀ w3 : World, w3 = w2.alloc (.cells #[Value.string r0] 9) →
       ∃ lA_3 : Option Addr, ∃ lN_4 : Nat, ∃ lC_5 : Nat, ∃ w4 : World, (Builtin.append_ #[24, 24] 24 #[Value.slice lA lN lC, Value.slice (some (nb w2)) 1 1]).run Tryz.prog w3 = .ok (Value.slice lA_3 lN_4 lC_5) w4 ∧
       I1 [Value.slice lA_3 lN_4 lC_5, Value.bool y3, Value.slice y2A y2N y2C, Value.string r1] w4))) → I1 [Value.slice lA lN lC, Value.bool y3, Value.slice y2A y2N y2C, Value.string text_2] w1) →
  I1 [Value.slice none 0 0, Value.bool false, Value.slice none 0 0, Value.string text] w
theorem vc17_eq (text : ByteArray) (w : World) (R : Value → World → Prop) : vc17 text w R = denFun ctx (bodyOf Tryz.f17) Tryz.f17.results.toList [Value.string text] w R := by kernel_rfl
theorem vc17_calls (text : ByteArray) (w : World) (R : Value → World → Prop) (h : vc17 text w R) : Calls Tryz.prog 17 #[Value.string text] w fun e w' => ∃ v, e = .returned v ∧ R v w' :=
  calls_of_den ctxOk (f := 17) (fn := Tryz.f17) (body := bodyOf Tryz.f17) (args := [Value.string text]) (by kernel_rfl) (by kernel_rfl) (by kernel_rfl) (by kernel_rfl) (Eq.mp (vc17_eq text w R) h)

/-! ### (*ligature/spec.reader).line: function 18 -/
def vc18 (r : Option Addr) (n : Int) (s : ByteArray) (w : World) (R : Value → World → Prop) : Prop :=
  Calls Tryz.prog 47 #[Value.string s] w (fun e1 w1 =>
  ∃ lA : Option Addr, ∃ lN : Nat, ∃ lC : Nat, e1 = .returned (Value.slice lA lN lC) ∧
  ∀ w2 : World, w2 = w1.drew →
  NilC lA (fun pa =>
  (0 : Int) ≤ 0 ∧ 0 < ((lN : Nat) : Int) ∧
  ∃ s_1 : ByteArray, w2.cell? (pa.add ((0 : Int).toNat * 1)) = some (Value.string s_1) ∧
  (0 : Int) ≤ (1 : Int) ∧ (1 : Int) ≤ ((lN : Nat) : Int) ∧ True ∧ True ∧ True ∧
  Calls Tryz.prog 48 #[Value.pointer r, Value.string s_1, Value.slice (slBase lA (1 : Int).toNat ((lC : Nat) : Int).toNat 1) (((lN : Nat) : Int).toNat - (1 : Int).toNat) (((lC : Nat) : Int).toNat - (1 : Int).toNat)] w2 (fun e3 w3 =>
  ∃ r0 : Int, ∃ r1 : Bool, e3 = .returned (Value.tuple #[Value.int .i64 r0, Value.bool r1]) ∧
  CondP (!r1)
    (R (Value.bool false) w3)
    (CondP (!(((n : Int) == 0) == ((r0 : Int) == 0)))
       (R (Value.bool false) w3)
       (NilC r (fun pa_2 =>
        ∃ n_3 : Int, w3.cell? (pa_2.add 6) = some (Value.int .i64 n_3) ∧
        CondP (decide ((r0 : Int) < n_3))
          (R (Value.bool false) w3)
          (NilC r (fun pa_4 =>
           ∃ g0 : Bool, ∃ g1A : Option Addr, ∃ g1N : Nat, ∃ g1C : Nat, ∃ g2A : Option Addr, ∃ g2N : Nat, ∃ g2C : Nat, ∃ g3A : Option Addr, ∃ g3N : Nat, ∃ g3C : Nat, ∃ g4A : Option Addr, ∃ g4N : Nat, ∃ g4C : Nat, ∃ g5A : Option Addr, ∃ g5N : Nat, ∃ g5C : Nat, (w3.cell? (pa_4.add 0) = some (Value.bool g0) ∧ w3.cell? ((pa_4.add 0).add 1) = some (Value.slice g1A g1N g1C) ∧ w3.cell? ((pa_4.add 0).add 2) = some (Value.slice g2A g2N g2C) ∧ w3.cell? ((pa_4.add 0).add 3) = some (Value.slice g3A g3N g3C) ∧ w3.cell? ((pa_4.add 0).add 4) = some (Value.slice g4A g4N g4C) ∧ w3.cell? ((pa_4.add 0).add 5) = some (Value.slice g5A g5N g5C) ∧ True) ∧
           Calls Tryz.prog 13 #[Value.agg #[Value.bool g0, Value.slice g1A g1N g1C, Value.slice g2A g2N g2C, Value.slice g3A g3N g3C, Value.slice g4A g4N g4C, Value.slice g5A g5N g5C]] w3 (fun e4 w4 =>
           ∃ b : Bool, e4 = .returned (Value.bool b) ∧
           CondP (!b)
             (R (Value.bool false) w4)
             (NilC r (fun pa_5 =>
              (Value.int .i64 r0).oneCell' = true ∧ (∃ u, w4.cell? (pa_5.add 6) = some u) ∧ w4.frozen? (pa_5.add 6) = false ∧
              ∀ w5 : World, w5 = (w4.setCell (pa_5.add 6) (Value.int .i64 r0)) →
              R (Value.bool true) w5)))))))))))
theorem vc18_eq (r : Option Addr) (n : Int) (s : ByteArray) (w : World) (R : Value → World → Prop) : vc18 r n s w R = denFun ctx (bodyOf Tryz.f18) Tryz.f18.results.toList [Value.pointer r, Value.int .i64 n, Value.string s] w R := by kernel_rfl
theorem vc18_calls (r : Option Addr) (n : Int) (s : ByteArray) (w : World) (R : Value → World → Prop) (h : vc18 r n s w R) : Calls Tryz.prog 18 #[Value.pointer r, Value.int .i64 n, Value.string s] w fun e w' => ∃ v, e = .returned v ∧ R v w' :=
  calls_of_den ctxOk (f := 18) (fn := Tryz.f18) (body := bodyOf Tryz.f18) (args := [Value.pointer r, Value.int .i64 n, Value.string s]) (by kernel_rfl) (by kernel_rfl) (by kernel_rfl) (by kernel_rfl) (Eq.mp (vc18_eq r n s w R) h)

/-! ### ligature/ligatureref02.Texts: function 19 -/
def vc19 (aA : Option Addr) (aN : Nat) (aC : Nat) (bA : Option Addr) (bN : Nat) (bC : Nat) (w : World) (R : Value → World → Prop) : Prop :=
  CondP ((((aN : Nat) : Int) : Int) != ((bN : Nat) : Int))
    (R (Value.bool false) w)
    (∀ I1 : List Value → World → Prop, (∀ i : Int, ∀ y4 : Bool, ∀ w1 : World, (CondP (decide ((i : Int) < ((aN : Nat) : Int)))
         (∀ w2 : World, w2 = w1.drew →
          NilC aA (fun pa =>
          (0 : Int) ≤ i ∧ i < ((aN : Nat) : Int) ∧
          ∃ s : ByteArray, w2.cell? (pa.add ((i : Int).toNat * 1)) = some (Value.string s) ∧
          NilC bA (fun pa_2 =>
          (0 : Int) ≤ i ∧ i < ((bN : Nat) : Int) ∧
          ∃ s_3 : ByteArray, w2.cell? (pa_2.add ((i : Int).toNat * 1)) = some (Value.string s_3) ∧
          CondP (!((s : ByteArray).toList == (s_3 : ByteArray).toList))
            (R (Value.bool false) w2)
            (Ar .i64 ((i : Int) + 1) (fun n =>
             I1 [Value.int .i64 n, Value.bool y4] w2)))))
         (R (Value.bool true) w1)) → I1 [Value.int .i64 i, Value.bool y4] w1) →
     I1 [Value.int .i64 0, Value.bool false] w)
theorem vc19_eq (aA : Option Addr) (aN : Nat) (aC : Nat) (bA : Option Addr) (bN : Nat) (bC : Nat) (w : World) (R : Value → World → Prop) : vc19 aA aN aC bA bN bC w R = denFun ctx (bodyOf Tryz.f19) Tryz.f19.results.toList [Value.slice aA aN aC, Value.slice bA bN bC] w R := by kernel_rfl
theorem vc19_calls (aA : Option Addr) (aN : Nat) (aC : Nat) (bA : Option Addr) (bN : Nat) (bC : Nat) (w : World) (R : Value → World → Prop) (h : vc19 aA aN aC bA bN bC w R) : Calls Tryz.prog 19 #[Value.slice aA aN aC, Value.slice bA bN bC] w fun e w' => ∃ v, e = .returned v ∧ R v w' :=
  calls_of_den ctxOk (f := 19) (fn := Tryz.f19) (body := bodyOf Tryz.f19) (args := [Value.slice aA aN aC, Value.slice bA bN bC]) (by kernel_rfl) (by kernel_rfl) (by kernel_rfl) (by kernel_rfl) (Eq.mp (vc19_eq aA aN aC bA bN bC w R) h)

/-! ### ligature/ligatureref02.Cut: function 20 -/
def vc20 (s : ByteArray) (at_1 : Int) (w : World) (R : Value → World → Prop) : Prop :=
  ∀ I2 : List Value → World → Prop, (∀ i : Int, ∀ from_3 : Int, ∀ lA : Option Addr, ∀ lN : Nat, ∀ lC : Nat, ∀ w1 : World, (CondP (decide ((i : Int) ≤ ((s : ByteArray).size : Int)))
      (∀ J4 : List Value → World → Prop, (∀ from_5 : Int, ∀ lA_6 : Option Addr, ∀ lN_7 : Nat, ∀ lC_8 : Nat, ∀ w2 : World, (Ar .i64 ((i : Int) + 1) (fun n =>
         I2 [Value.int .i64 n, Value.int .i64 from_5, Value.slice lA_6 lN_7 lC_8] w2)) → J4 [Value.int .i64 from_5, Value.slice lA_6 lN_7 lC_8] w2) →
       CondP ((i : Int) == ((s : ByteArray).size : Int))
         ((0 : Int) ≤ (from_3 : Int) ∧ (from_3 : Int) ≤ (i : Int) ∧ (i : Int) ≤ ((s : ByteArray).size : Int) ∧
          ∀ w3 : World, w3 = w1.alloc (.cells #[Value.string ((s : ByteArray).extract (from_3 : Int).toNat (i : Int).toNat)] 9) →
          ∃ lA_9 : Option Addr, ∃ lN_10 : Nat, ∃ lC_11 : Nat, ∃ w4 : World, (Builtin.append_ #[24, 24] 24 #[Value.slice lA lN lC, Value.slice (some (nb w1)) 1 1]).run Tryz.prog w3 = .ok (Value.slice lA_9 lN_10 lC_11) w4 ∧
          Ar .i64 ((i : Int) + 1) (fun n_12 =>
          J4 [Value.int .i64 n_12, Value.slice lA_9 lN_10 lC_11] w4))
         ((0 : Int) ≤ i ∧ i < ((s : ByteArray).size : Int) ∧
          CondP ((btAt s i : Int) == at_1)
            ((0 : Int) ≤ (from_3 : Int) ∧ (from_3 : Int) ≤ (i : Int) ∧ (i : Int) ≤ ((s : ByteArray).size : Int) ∧
             ∀ w5 : World, w5 = w1.alloc (.cells #[Value.string ((s : ByteArray).extract (from_3 : Int).toNat (i : Int).toNat)] 9) →
             ∃ lA_13 : Option Addr, ∃ lN_14 : Nat, ∃ lC_15 : Nat, ∃ w6 : World, (Builtin.append_ #[24, 24] 24 #[Value.slice lA lN lC, Value.slice (some (nb w1)) 1 1]).run Tryz.prog w5 = .ok (Value.slice lA_13 lN_14 lC_15) w6 ∧
             Ar .i64 ((i : Int) + 1) (fun n_16 =>
             J4 [Value.int .i64 n_16, Value.slice lA_13 lN_14 lC_15] w6))
            (J4 [Value.int .i64 from_3, Value.slice lA lN lC] w1)))
      (R (Value.slice lA lN lC) w1)) → I2 [Value.int .i64 i, Value.int .i64 from_3, Value.slice lA lN lC] w1) →
  I2 [Value.int .i64 0, Value.int .i64 0, Value.slice none 0 0] w
theorem vc20_eq (s : ByteArray) (at_1 : Int) (w : World) (R : Value → World → Prop) : vc20 s at_1 w R = denFun ctx (bodyOf Tryz.f20) Tryz.f20.results.toList [Value.string s, Value.int .u8 at_1] w R := by kernel_rfl
theorem vc20_calls (s : ByteArray) (at_1 : Int) (w : World) (R : Value → World → Prop) (h : vc20 s at_1 w R) : Calls Tryz.prog 20 #[Value.string s, Value.int .u8 at_1] w fun e w' => ∃ v, e = .returned v ∧ R v w' :=
  calls_of_den ctxOk (f := 20) (fn := Tryz.f20) (body := bodyOf Tryz.f20) (args := [Value.string s, Value.int .u8 at_1]) (by kernel_rfl) (by kernel_rfl) (by kernel_rfl) (by kernel_rfl) (Eq.mp (vc20_eq s at_1 w R) h)

/-! ### ligature/ligatureref06.at: function 21 -/
def vc21 (lA : Option Addr) (lN : Nat) (lC : Nat) (i : Int) (w : World) (R : Value → World → Prop) : Prop :=
  CondP (decide ((i : Int) ≥ ((lN : Nat) : Int)))
    (R (Value.int .i64 (-1)) w)
    (NilC lA (fun pa =>
     (0 : Int) ≤ i ∧ i < ((lN : Nat) : Int) ∧
     ∃ s : ByteArray, w.cell? (pa.add ((i : Int).toNat * 1)) = some (Value.string s) ∧
     Calls Tryz.prog 49 #[Value.string s, Value.int .i64 1073741824] w (fun e1 w1 =>
     ∃ r0 : Int, ∃ r1 : Bool, e1 = .returned (Value.tuple #[Value.int .i64 r0, Value.bool r1]) ∧
     CondP (!r1)
       (R (Value.int .i64 (-1)) w1)
       (R (Value.int .i64 r0) w1))))
theorem vc21_eq (lA : Option Addr) (lN : Nat) (lC : Nat) (i : Int) (w : World) (R : Value → World → Prop) : vc21 lA lN lC i w R = denFun ctx (bodyOf Tryz.f21) Tryz.f21.results.toList [Value.slice lA lN lC, Value.int .i64 i] w R := by kernel_rfl
theorem vc21_calls (lA : Option Addr) (lN : Nat) (lC : Nat) (i : Int) (w : World) (R : Value → World → Prop) (h : vc21 lA lN lC i w R) : Calls Tryz.prog 21 #[Value.slice lA lN lC, Value.int .i64 i] w fun e w' => ∃ v, e = .returned v ∧ R v w' :=
  calls_of_den ctxOk (f := 21) (fn := Tryz.f21) (body := bodyOf Tryz.f21) (args := [Value.slice lA lN lC, Value.int .i64 i]) (by kernel_rfl) (by kernel_rfl) (by kernel_rfl) (by kernel_rfl) (Eq.mp (vc21_eq lA lN lC i w R) h)

/-! ### ligature/ligatureref06.hex: function 22 -/
def vc22 (lA : Option Addr) (lN : Nat) (lC : Nat) (i : Int) (w : World) (R : Value → World → Prop) : Prop :=
  CondP (decide ((i : Int) ≥ ((lN : Nat) : Int)))
    (R (Value.string ⟨#[]⟩) w)
    (NilC lA (fun pa =>
     (0 : Int) ≤ i ∧ i < ((lN : Nat) : Int) ∧
     ∃ s : ByteArray, w.cell? (pa.add ((i : Int).toNat * 1)) = some (Value.string s) ∧
     Calls Tryz.prog 50 #[Value.string s] w (fun e1 w1 =>
     ∃ r0 : ByteArray, ∃ r1 : Bool, e1 = .returned (Value.tuple #[Value.string r0, Value.bool r1]) ∧
     CondP (!r1)
       (R (Value.string ⟨#[]⟩) w1)
       (R (Value.string r0) w1))))
theorem vc22_eq (lA : Option Addr) (lN : Nat) (lC : Nat) (i : Int) (w : World) (R : Value → World → Prop) : vc22 lA lN lC i w R = denFun ctx (bodyOf Tryz.f22) Tryz.f22.results.toList [Value.slice lA lN lC, Value.int .i64 i] w R := by kernel_rfl
theorem vc22_calls (lA : Option Addr) (lN : Nat) (lC : Nat) (i : Int) (w : World) (R : Value → World → Prop) (h : vc22 lA lN lC i w R) : Calls Tryz.prog 22 #[Value.slice lA lN lC, Value.int .i64 i] w fun e w' => ∃ v, e = .returned v ∧ R v w' :=
  calls_of_den ctxOk (f := 22) (fn := Tryz.f22) (body := bodyOf Tryz.f22) (args := [Value.slice lA lN lC, Value.int .i64 i]) (by kernel_rfl) (by kernel_rfl) (by kernel_rfl) (by kernel_rfl) (Eq.mp (vc22_eq lA lN lC i w R) h)

/-! ### ligature/ligatureref06.Lines: function 23 -/
def vc23 (s0 : Bool) (s1A : Option Addr) (s1N : Nat) (s1C : Nat) (s2A : Option Addr) (s2N : Nat) (s2C : Nat) (s3A : Option Addr) (s3N : Nat) (s3C : Nat) (s4A : Option Addr) (s4N : Nat) (s4C : Nat) (s5A : Option Addr) (s5N : Nat) (s5C : Nat) (w : World) (R : Value → World → Prop) : Prop :=
  ∀ w1 : World, w1 = w.alloc (.cells #[Value.bool s0, Value.slice s1A s1N s1C, Value.slice s2A s2N s2C, Value.slice s3A s3N s3C, Value.slice s4A s4N s4C, Value.slice s5A s5N s5C] 29) →
  ∀ w2 : World, w2 = w1.alloc (.cells #[Value.string ⟨#[118, 111, 99, 97, 98, 32, 109, 101, 114, 103, 101, 115]⟩] 9) →
  ∀ J1 : List Value → World → Prop, (∀ lA : Option Addr, ∀ lN : Nat, ∀ lC : Nat, ∀ w3 : World, (∀ I2 : List Value → World → Prop, (∀ i : Int, ∀ lA_3 : Option Addr, ∀ lN_4 : Nat, ∀ lC_5 : Nat, ∀ w4 : World, (∃ lA_6 : Option Addr, ∃ lN_7 : Nat, ∃ lC_8 : Nat, w4.cell? ((nb w).add 1) = some (Value.slice lA_6 lN_7 lC_8) ∧
      CondP (decide ((i : Int) < ((lN_7 : Nat) : Int)))
        (∀ w5 : World, w5 = w4.drew →
         ∃ lA_9 : Option Addr, ∃ lN_10 : Nat, ∃ lC_11 : Nat, w5.cell? ((nb w).add 1) = some (Value.slice lA_9 lN_10 lC_11) ∧
         NilC lA_9 (fun pa =>
         (0 : Int) ≤ i ∧ i < ((lN_10 : Nat) : Int) ∧
         ∃ n : Int, w5.cell? ((pa.add ((i : Int).toNat * 2)).add 0) = some (Value.int .i64 n) ∧
         ∃ lA_12 : Option Addr, ∃ lN_13 : Nat, ∃ lC_14 : Nat, w5.cell? ((nb w).add 1) = some (Value.slice lA_12 lN_13 lC_14) ∧
         NilC lA_12 (fun pa_15 =>
         (0 : Int) ≤ i ∧ i < ((lN_13 : Nat) : Int) ∧
         ∃ n_16 : Int, w5.cell? ((pa_15.add ((i : Int).toNat * 2)).add 1) = some (Value.int .i64 n_16) ∧
         Calls Tryz.prog 51 #[Value.int .i64 n] w5 (fun e6 w6 =>
         ∃ s : ByteArray, e6 = .returned (Value.string s) ∧
         (w6.cell? ((pa_15.add ((i : Int).toNat * 2)).add 1) = some (Value.int .i64 n_16) ∧ True) ∧
         (w6.cell? ((nb w).add 1) = some (Value.slice lA_12 lN_13 lC_14) ∧ True) ∧
         (((⟨#[109, 101, 114, 103, 101, 32]⟩ : ByteArray).size + (s : ByteArray).size : Nat) : Int) ≤ IntKind.i64.max ∧
         ((((⟨#[109, 101, 114, 103, 101, 32]⟩ : ByteArray) ++ (s : ByteArray) : ByteArray).size + (⟨#[32]⟩ : ByteArray).size : Nat) : Int) ≤ IntKind.i64.max ∧
         Calls Tryz.prog 51 #[Value.int .i64 n_16] w6 (fun e7 w7 =>
         ∃ s_17 : ByteArray, e7 = .returned (Value.string s_17) ∧
         (((((⟨#[109, 101, 114, 103, 101, 32]⟩ : ByteArray) ++ (s : ByteArray) : ByteArray) ++ (⟨#[32]⟩ : ByteArray) : ByteArray).size + (s_17 : ByteArray).size : Nat) : Int) ≤ IntKind.i64.max ∧
         ∀ w8 : World, w8 = w7.alloc (.cells #[Value.string ((((⟨#[109, 101, 114, 103, 101, 32]⟩ : ByteArray) ++ (s : ByteArray) : ByteArray) ++ (⟨#[32]⟩ : ByteArray) : ByteArray) ++ (s_17 : ByteArray))] 9) →
         ∃ lA_18 : Option Addr, ∃ lN_19 : Nat, ∃ lC_20 : Nat, ∃ w9 : World, (Builtin.append_ #[24, 24] 24 #[Value.slice lA_3 lN_4 lC_5, Value.slice (some (nb w7)) 1 1]).run Tryz.prog w8 = .ok (Value.slice lA_18 lN_19 lC_20) w9 ∧
         Ar .i64 ((i : Int) + 1) (fun n_21 =>
         I2 [Value.int .i64 n_21, Value.slice lA_18 lN_19 lC_20] w9))))))
        (∀ I22 : List Value → World → Prop, (∀ i_23 : Int, ∀ lA_24 : Option Addr, ∀ lN_25 : Nat, ∀ lC_26 : Nat, ∀ w10 : World, (∃ lA_27 : Option Addr, ∃ lN_28 : Nat, ∃ lC_29 : Nat, w10.cell? ((nb w).add 2) = some (Value.slice lA_27 lN_28 lC_29) ∧
           CondP (decide ((i_23 : Int) < ((lN_28 : Nat) : Int)))
             (∃ lA_30 : Option Addr, ∃ lN_31 : Nat, ∃ lC_32 : Nat, w10.cell? ((nb w).add 2) = some (Value.slice lA_30 lN_31 lC_32) ∧
              NilC lA_30 (fun pa_33 =>
              (0 : Int) ≤ i_23 ∧ i_23 < ((lN_31 : Nat) : Int) ∧
              ∃ s_34 : ByteArray, w10.cell? (pa_33.add ((i_23 : Int).toNat * 1)) = some (Value.string s_34) ∧
              Calls Tryz.prog 52 #[Value.string s_34] w10 (fun e11 w11 =>
              ∃ s_35 : ByteArray, e11 = .returned (Value.string s_35) ∧
              (((⟨#[116, 111, 107, 101, 110, 32]⟩ : ByteArray).size + (s_35 : ByteArray).size : Nat) : Int) ≤ IntKind.i64.max ∧
              ∀ w12 : World, w12 = w11.alloc (.cells #[Value.string ((⟨#[116, 111, 107, 101, 110, 32]⟩ : ByteArray) ++ (s_35 : ByteArray))] 9) →
              ∃ lA_36 : Option Addr, ∃ lN_37 : Nat, ∃ lC_38 : Nat, ∃ w13 : World, (Builtin.append_ #[24, 24] 24 #[Value.slice lA_24 lN_25 lC_26, Value.slice (some (nb w11)) 1 1]).run Tryz.prog w12 = .ok (Value.slice lA_36 lN_37 lC_38) w13 ∧
              Ar .i64 ((i_23 : Int) + 1) (fun n_39 =>
              I22 [Value.int .i64 n_39, Value.slice lA_36 lN_37 lC_38] w13))))
             (∀ I40 : List Value → World → Prop, (∀ i_41 : Int, ∀ lA_42 : Option Addr, ∀ lN_43 : Nat, ∀ lC_44 : Nat, ∀ w14 : World, (∃ lA_45 : Option Addr, ∃ lN_46 : Nat, ∃ lC_47 : Nat, w14.cell? ((nb w).add 3) = some (Value.slice lA_45 lN_46 lC_47) ∧
                CondP (decide ((i_41 : Int) < ((lN_46 : Nat) : Int)))
                  (∀ w15 : World, w15 = w14.drew →
                   ∃ lA_48 : Option Addr, ∃ lN_49 : Nat, ∃ lC_50 : Nat, w15.cell? ((nb w).add 3) = some (Value.slice lA_48 lN_49 lC_50) ∧
                   NilC lA_48 (fun pa_51 =>
                   (0 : Int) ≤ i_41 ∧ i_41 < ((lN_49 : Nat) : Int) ∧
                   ∃ n_52 : Int, w15.cell? ((pa_51.add ((i_41 : Int).toNat * 2)).add 0) = some (Value.int .i64 n_52) ∧
                   ∃ lA_53 : Option Addr, ∃ lN_54 : Nat, ∃ lC_55 : Nat, w15.cell? ((nb w).add 3) = some (Value.slice lA_53 lN_54 lC_55) ∧
                   NilC lA_53 (fun pa_56 =>
                   (0 : Int) ≤ i_41 ∧ i_41 < ((lN_54 : Nat) : Int) ∧
                   ∃ s_57 : ByteArray, w15.cell? ((pa_56.add ((i_41 : Int).toNat * 2)).add 1) = some (Value.string s_57) ∧
                   Calls Tryz.prog 51 #[Value.int .i64 n_52] w15 (fun e16 w16 =>
                   ∃ s_58 : ByteArray, e16 = .returned (Value.string s_58) ∧
                   (w16.cell? ((pa_56.add ((i_41 : Int).toNat * 2)).add 1) = some (Value.string s_57) ∧ True) ∧
                   (w16.cell? ((nb w).add 3) = some (Value.slice lA_53 lN_54 lC_55) ∧ True) ∧
                   (((⟨#[115, 112, 101, 99, 105, 97, 108, 32]⟩ : ByteArray).size + (s_58 : ByteArray).size : Nat) : Int) ≤ IntKind.i64.max ∧
                   ((((⟨#[115, 112, 101, 99, 105, 97, 108, 32]⟩ : ByteArray) ++ (s_58 : ByteArray) : ByteArray).size + (⟨#[32]⟩ : ByteArray).size : Nat) : Int) ≤ IntKind.i64.max ∧
                   Calls Tryz.prog 52 #[Value.string s_57] w16 (fun e17 w17 =>
                   ∃ s_59 : ByteArray, e17 = .returned (Value.string s_59) ∧
                   (((((⟨#[115, 112, 101, 99, 105, 97, 108, 32]⟩ : ByteArray) ++ (s_58 : ByteArray) : ByteArray) ++ (⟨#[32]⟩ : ByteArray) : ByteArray).size + (s_59 : ByteArray).size : Nat) : Int) ≤ IntKind.i64.max ∧
                   ∀ w18 : World, w18 = w17.alloc (.cells #[Value.string ((((⟨#[115, 112, 101, 99, 105, 97, 108, 32]⟩ : ByteArray) ++ (s_58 : ByteArray) : ByteArray) ++ (⟨#[32]⟩ : ByteArray) : ByteArray) ++ (s_59 : ByteArray))] 9) →
                   ∃ lA_60 : Option Addr, ∃ lN_61 : Nat, ∃ lC_62 : Nat, ∃ w19 : World, (Builtin.append_ #[24, 24] 24 #[Value.slice lA_42 lN_43 lC_44, Value.slice (some (nb w17)) 1 1]).run Tryz.prog w18 = .ok (Value.slice lA_60 lN_61 lC_62) w19 ∧
                   Ar .i64 ((i_41 : Int) + 1) (fun n_63 =>
                   I40 [Value.int .i64 n_63, Value.slice lA_60 lN_61 lC_62] w19))))))
                  (∀ I64 : List Value → World → Prop, (∀ i_65 : Int, ∀ lA_66 : Option Addr, ∀ lN_67 : Nat, ∀ lC_68 : Nat, ∀ w20 : World, (∃ lA_69 : Option Addr, ∃ lN_70 : Nat, ∃ lC_71 : Nat, w20.cell? ((nb w).add 4) = some (Value.slice lA_69 lN_70 lC_71) ∧
                     CondP (decide ((i_65 : Int) < ((lN_70 : Nat) : Int)))
                       (∀ w21 : World, w21 = w20.drew →
                        ∃ lA_72 : Option Addr, ∃ lN_73 : Nat, ∃ lC_74 : Nat, w21.cell? ((nb w).add 4) = some (Value.slice lA_72 lN_73 lC_74) ∧
                        NilC lA_72 (fun pa_75 =>
                        (0 : Int) ≤ i_65 ∧ i_65 < ((lN_73 : Nat) : Int) ∧
                        ∃ n_76 : Int, w21.cell? ((pa_75.add ((i_65 : Int).toNat * 3)).add 0) = some (Value.int .i64 n_76) ∧
                        ∃ lA_77 : Option Addr, ∃ lN_78 : Nat, ∃ lC_79 : Nat, w21.cell? ((nb w).add 4) = some (Value.slice lA_77 lN_78 lC_79) ∧
                        NilC lA_77 (fun pa_80 =>
                        (0 : Int) ≤ i_65 ∧ i_65 < ((lN_78 : Nat) : Int) ∧
                        ∃ n_81 : Int, w21.cell? ((pa_80.add ((i_65 : Int).toNat * 3)).add 1) = some (Value.int .i64 n_81) ∧
                        ∃ lA_82 : Option Addr, ∃ lN_83 : Nat, ∃ lC_84 : Nat, w21.cell? ((nb w).add 4) = some (Value.slice lA_82 lN_83 lC_84) ∧
                        NilC lA_82 (fun pa_85 =>
                        (0 : Int) ≤ i_65 ∧ i_65 < ((lN_83 : Nat) : Int) ∧
                        ∃ n_86 : Int, w21.cell? ((pa_85.add ((i_65 : Int).toNat * 3)).add 2) = some (Value.int .i64 n_86) ∧
                        Calls Tryz.prog 51 #[Value.int .i64 n_76] w21 (fun e22 w22 =>
                        ∃ s_87 : ByteArray, e22 = .returned (Value.string s_87) ∧
                        (w22.cell? ((pa_85.add ((i_65 : Int).toNat * 3)).add 2) = some (Value.int .i64 n_86) ∧ True) ∧
                        (w22.cell? ((nb w).add 4) = some (Value.slice lA_82 lN_83 lC_84) ∧ True) ∧
                        (w22.cell? ((pa_80.add ((i_65 : Int).toNat * 3)).add 1) = some (Value.int .i64 n_81) ∧ True) ∧
                        (w22.cell? ((nb w).add 4) = some (Value.slice lA_77 lN_78 lC_79) ∧ True) ∧
                        (((⟨#[99, 108, 97, 115, 115, 32]⟩ : ByteArray).size + (s_87 : ByteArray).size : Nat) : Int) ≤ IntKind.i64.max ∧
                        ((((⟨#[99, 108, 97, 115, 115, 32]⟩ : ByteArray) ++ (s_87 : ByteArray) : ByteArray).size + (⟨#[32]⟩ : ByteArray).size : Nat) : Int) ≤ IntKind.i64.max ∧
                        Calls Tryz.prog 51 #[Value.int .i64 n_81] w22 (fun e23 w23 =>
                        ∃ s_88 : ByteArray, e23 = .returned (Value.string s_88) ∧
                        (w23.cell? ((pa_85.add ((i_65 : Int).toNat * 3)).add 2) = some (Value.int .i64 n_86) ∧ True) ∧
                        (w23.cell? ((nb w).add 4) = some (Value.slice lA_82 lN_83 lC_84) ∧ True) ∧
                        (((((⟨#[99, 108, 97, 115, 115, 32]⟩ : ByteArray) ++ (s_87 : ByteArray) : ByteArray) ++ (⟨#[32]⟩ : ByteArray) : ByteArray).size + (s_88 : ByteArray).size : Nat) : Int) ≤ IntKind.i64.max ∧
                        ((((((⟨#[99, 108, 97, 115, 115, 32]⟩ : ByteArray) ++ (s_87 : ByteArray) : ByteArray) ++ (⟨#[32]⟩ : ByteArray) : ByteArray) ++ (s_88 : ByteArray) : ByteArray).size + (⟨#[32]⟩ : ByteArray).size : Nat) : Int) ≤ IntKind.i64.max ∧
                        Calls Tryz.prog 51 #[Value.int .i64 n_86] w23 (fun e24 w24 =>
                        ∃ s_89 : ByteArray, e24 = .returned (Value.string s_89) ∧
                        (((((((⟨#[99, 108, 97, 115, 115, 32]⟩ : ByteArray) ++ (s_87 : ByteArray) : ByteArray) ++ (⟨#[32]⟩ : ByteArray) : ByteArray) ++ (s_88 : ByteArray) : ByteArray) ++ (⟨#[32]⟩ : ByteArray) : ByteArray).size + (s_89 : ByteArray).size : Nat) : Int) ≤ IntKind.i64.max ∧
                        ∀ w25 : World, w25 = w24.alloc (.cells #[Value.string ((((((⟨#[99, 108, 97, 115, 115, 32]⟩ : ByteArray) ++ (s_87 : ByteArray) : ByteArray) ++ (⟨#[32]⟩ : ByteArray) : ByteArray) ++ (s_88 : ByteArray) : ByteArray) ++ (⟨#[32]⟩ : ByteArray) : ByteArray) ++ (s_89 : ByteArray))] 9) →
                        ∃ lA_90 : Option Addr, ∃ lN_91 : Nat, ∃ lC_92 : Nat, ∃ w26 : World, (Builtin.append_ #[24, 24] 24 #[Value.slice lA_66 lN_67 lC_68, Value.slice (some (nb w24)) 1 1]).run Tryz.prog w25 = .ok (Value.slice lA_90 lN_91 lC_92) w26 ∧
                        Ar .i64 ((i_65 : Int) + 1) (fun n_93 =>
                        I64 [Value.int .i64 n_93, Value.slice lA_90 lN_91 lC_92] w26))))))))
                       (∀ I94 : List Value → World → Prop, (∀ i_95 : Int, ∀ lA_96 : Option Addr, ∀ lN_97 : Nat, ∀ lC_98 : Nat, ∀ w27 : World, (∃ lA_99 : Option Addr, ∃ lN_100 : Nat, ∃ lC_101 : Nat, w27.cell? ((nb w).add 5) = some (Value.slice lA_99 lN_100 lC_101) ∧
                          CondP (decide ((i_95 : Int) < ((lN_100 : Nat) : Int)))
                            (∀ w28 : World, w28 = w27.drew →
                             ∃ lA_102 : Option Addr, ∃ lN_103 : Nat, ∃ lC_104 : Nat, w28.cell? ((nb w).add 5) = some (Value.slice lA_102 lN_103 lC_104) ∧
                             NilC lA_102 (fun pa_105 =>
                             (0 : Int) ≤ i_95 ∧ i_95 < ((lN_103 : Nat) : Int) ∧
                             ∃ n_106 : Int, w28.cell? ((pa_105.add ((i_95 : Int).toNat * 2)).add 0) = some (Value.int .i64 n_106) ∧
                             ∃ lA_107 : Option Addr, ∃ lN_108 : Nat, ∃ lC_109 : Nat, w28.cell? ((nb w).add 5) = some (Value.slice lA_107 lN_108 lC_109) ∧
                             NilC lA_107 (fun pa_110 =>
                             (0 : Int) ≤ i_95 ∧ i_95 < ((lN_108 : Nat) : Int) ∧
                             ∃ n_111 : Int, w28.cell? ((pa_110.add ((i_95 : Int).toNat * 2)).add 1) = some (Value.int .i64 n_111) ∧
                             Calls Tryz.prog 51 #[Value.int .i64 n_106] w28 (fun e29 w29 =>
                             ∃ s_112 : ByteArray, e29 = .returned (Value.string s_112) ∧
                             (w29.cell? ((pa_110.add ((i_95 : Int).toNat * 2)).add 1) = some (Value.int .i64 n_111) ∧ True) ∧
                             (w29.cell? ((nb w).add 5) = some (Value.slice lA_107 lN_108 lC_109) ∧ True) ∧
                             (((⟨#[106, 111, 105, 110, 32]⟩ : ByteArray).size + (s_112 : ByteArray).size : Nat) : Int) ≤ IntKind.i64.max ∧
                             ((((⟨#[106, 111, 105, 110, 32]⟩ : ByteArray) ++ (s_112 : ByteArray) : ByteArray).size + (⟨#[32]⟩ : ByteArray).size : Nat) : Int) ≤ IntKind.i64.max ∧
                             Calls Tryz.prog 51 #[Value.int .i64 n_111] w29 (fun e30 w30 =>
                             ∃ s_113 : ByteArray, e30 = .returned (Value.string s_113) ∧
                             (((((⟨#[106, 111, 105, 110, 32]⟩ : ByteArray) ++ (s_112 : ByteArray) : ByteArray) ++ (⟨#[32]⟩ : ByteArray) : ByteArray).size + (s_113 : ByteArray).size : Nat) : Int) ≤ IntKind.i64.max ∧
                             ∀ w31 : World, w31 = w30.alloc (.cells #[Value.string ((((⟨#[106, 111, 105, 110, 32]⟩ : ByteArray) ++ (s_112 : ByteArray) : ByteArray) ++ (⟨#[32]⟩ : ByteArray) : ByteArray) ++ (s_113 : ByteArray))] 9) →
                             ∃ lA_114 : Option Addr, ∃ lN_115 : Nat, ∃ lC_116 : Nat, ∃ w32 : World, (Builtin.append_ #[24, 24] 24 #[Value.slice lA_96 lN_97 lC_98, Value.slice (some (nb w30)) 1 1]).run Tryz.prog w31 = .ok (Value.slice lA_114 lN_115 lC_116) w32 ∧
                             Ar .i64 ((i_95 : Int) + 1) (fun n_117 =>
                             I94 [Value.int .i64 n_117, Value.slice lA_114 lN_115 lC_116] w32))))))
                            (R (Value.slice lA_96 lN_97 lC_98) w27)) → I94 [Value.int .i64 i_95, Value.slice lA_96 lN_97 lC_98] w27) →
                        I94 [Value.int .i64 0, Value.slice lA_66 lN_67 lC_68] w20)) → I64 [Value.int .i64 i_65, Value.slice lA_66 lN_67 lC_68] w20) →
                   I64 [Value.int .i64 0, Value.slice lA_42 lN_43 lC_44] w14)) → I40 [Value.int .i64 i_41, Value.slice lA_42 lN_43 lC_44] w14) →
              I40 [Value.int .i64 0, Value.slice lA_24 lN_25 lC_26] w10)) → I22 [Value.int .i64 i_23, Value.slice lA_24 lN_25 lC_26] w10) →
         I22 [Value.int .i64 0, Value.slice lA_3 lN_4 lC_5] w4)) → I2 [Value.int .i64 i, Value.slice lA_3 lN_4 lC_5] w4) →
    I2 [Value.int .i64 0, Value.slice lA lN lC] w3) → J1 [Value.slice lA lN lC] w3) →
  ∃ b : Bool, w2.cell? ((nb w).add 0) = some (Value.bool b) ∧
  CondP b
    (∀ w33 : World, w33 = w2.alloc (.cells #[Value.string ⟨#[118, 111, 99, 97, 98, 32, 114, 97, 110, 107, 115]⟩] 9) →
     J1 [Value.slice (some (nb w2)) 1 1] w33)
    (J1 [Value.slice (some (nb w1)) 1 1] w2)
theorem vc23_eq (s0 : Bool) (s1A : Option Addr) (s1N : Nat) (s1C : Nat) (s2A : Option Addr) (s2N : Nat) (s2C : Nat) (s3A : Option Addr) (s3N : Nat) (s3C : Nat) (s4A : Option Addr) (s4N : Nat) (s4C : Nat) (s5A : Option Addr) (s5N : Nat) (s5C : Nat) (w : World) (R : Value → World → Prop) : vc23 s0 s1A s1N s1C s2A s2N s2C s3A s3N s3C s4A s4N s4C s5A s5N s5C w R = denFun ctx (bodyOf Tryz.f23) Tryz.f23.results.toList [Value.agg #[Value.bool s0, Value.slice s1A s1N s1C, Value.slice s2A s2N s2C, Value.slice s3A s3N s3C, Value.slice s4A s4N s4C, Value.slice s5A s5N s5C]] w R := by kernel_rfl
theorem vc23_calls (s0 : Bool) (s1A : Option Addr) (s1N : Nat) (s1C : Nat) (s2A : Option Addr) (s2N : Nat) (s2C : Nat) (s3A : Option Addr) (s3N : Nat) (s3C : Nat) (s4A : Option Addr) (s4N : Nat) (s4C : Nat) (s5A : Option Addr) (s5N : Nat) (s5C : Nat) (w : World) (R : Value → World → Prop) (h : vc23 s0 s1A s1N s1C s2A s2N s2C s3A s3N s3C s4A s4N s4C s5A s5N s5C w R) : Calls Tryz.prog 23 #[Value.agg #[Value.bool s0, Value.slice s1A s1N s1C, Value.slice s2A s2N s2C, Value.slice s3A s3N s3C, Value.slice s4A s4N s4C, Value.slice s5A s5N s5C]] w fun e w' => ∃ v, e = .returned v ∧ R v w' :=
  calls_of_den ctxOk (f := 23) (fn := Tryz.f23) (body := bodyOf Tryz.f23) (args := [Value.agg #[Value.bool s0, Value.slice s1A s1N s1C, Value.slice s2A s2N s2C, Value.slice s3A s3N s3C, Value.slice s4A s4N s4C, Value.slice s5A s5N s5C]]) (by kernel_rfl) (by kernel_rfl) (by kernel_rfl) (by kernel_rfl) (Eq.mp (vc23_eq s0 s1A s1N s1C s2A s2N s2C s3A s3N s3C s4A s4N s4C s5A s5N s5C w R) h)

/-! ### (*ligature/spec.writer).line: function 24 -/
def vc24 (w_ : Option Addr) (first : ByteArray) (moreA : Option Addr) (moreN : Nat) (moreC : Nat) (w : World) (R : Value → World → Prop) : Prop :=
  ∀ w1 : World, w1 = w.drew →
  NilC w_ (fun pa =>
  Calls Tryz.prog 54 #[Value.string first, Value.slice moreA moreN moreC] w1 (fun e2 w2 =>
  ∃ s : ByteArray, e2 = .returned (Value.string s) ∧
  (((s : ByteArray).size + (⟨#[10]⟩ : ByteArray).size : Nat) : Int) ≤ IntKind.i64.max ∧
  Calls Tryz.prog 53 #[Value.pointer (some (pa.add 0)), Value.string ((s : ByteArray) ++ (⟨#[10]⟩ : ByteArray))] w2 (fun e3 w3 =>
  ∃ r0 : Int, ∃ r1 : Value, e3 = .returned (Value.tuple #[Value.int .i64 r0, r1]) ∧
  R (Value.tuple #[]) w3)))
theorem vc24_eq (w_ : Option Addr) (first : ByteArray) (moreA : Option Addr) (moreN : Nat) (moreC : Nat) (w : World) (R : Value → World → Prop) : vc24 w_ first moreA moreN moreC w R = denFun ctx (bodyOf Tryz.f24) Tryz.f24.results.toList [Value.pointer w_, Value.string first, Value.slice moreA moreN moreC] w R := by kernel_rfl
theorem vc24_calls (w_ : Option Addr) (first : ByteArray) (moreA : Option Addr) (moreN : Nat) (moreC : Nat) (w : World) (R : Value → World → Prop) (h : vc24 w_ first moreA moreN moreC w R) : Calls Tryz.prog 24 #[Value.pointer w_, Value.string first, Value.slice moreA moreN moreC] w fun e w' => ∃ v, e = .returned v ∧ R v w' :=
  calls_of_den ctxOk (f := 24) (fn := Tryz.f24) (body := bodyOf Tryz.f24) (args := [Value.pointer w_, Value.string first, Value.slice moreA moreN moreC]) (by kernel_rfl) (by kernel_rfl) (by kernel_rfl) (by kernel_rfl) (Eq.mp (vc24_eq w_ first moreA moreN moreC w R) h)

/-! ### ligature/word.Numbers: function 25 -/
def vc25 (lA : Option Addr) (lN : Nat) (lC : Nat) (w : World) (R : Value → World → Prop) : Prop :=
  CondP ((((lN : Nat) : Int) : Int) == 0)
    (R (Value.string ⟨#[45]⟩) w)
    (∀ I1 : List Value → World → Prop, (∀ y11 : Int, ∀ outA : Option Addr, ∀ outN : Nat, ∀ outC : Nat, ∀ w1 : World, (CondP (decide ((y11 : Int) < ((lN : Nat) : Int)))
         (NilC lA (fun pa =>
          (0 : Int) ≤ y11 ∧ y11 < ((lN : Nat) : Int) ∧
          ∃ n : Int, w1.cell? (pa.add ((y11 : Int).toNat * 1)) = some (Value.int .i64 n) ∧
          Calls Tryz.prog 27 #[Value.int .i64 n] w1 (fun e2 w2 =>
          ∃ s : ByteArray, e2 = .returned (Value.string s) ∧
          ∀ w3 : World, w3 = w2.alloc (.cells #[Value.string s] 9) →
          ∃ lA_2 : Option Addr, ∃ lN_3 : Nat, ∃ lC_4 : Nat, ∃ w4 : World, (Builtin.append_ #[24, 24] 24 #[Value.slice outA outN outC, Value.slice (some (nb w2)) 1 1]).run Tryz.prog w3 = .ok (Value.slice lA_2 lN_3 lC_4) w4 ∧
          Ar .i64 ((y11 : Int) + 1) (fun n_5 =>
          I1 [Value.int .i64 n_5, Value.slice lA_2 lN_3 lC_4] w4))))
         (Calls Tryz.prog 55 #[Value.slice outA outN outC, Value.string ⟨#[32]⟩] w1 (fun e5 w5 =>
          ∃ s_6 : ByteArray, e5 = .returned (Value.string s_6) ∧
          R (Value.string s_6) w5))) → I1 [Value.int .i64 y11, Value.slice outA outN outC] w1) →
     I1 [Value.int .i64 0, Value.slice none 0 0] w)
theorem vc25_eq (lA : Option Addr) (lN : Nat) (lC : Nat) (w : World) (R : Value → World → Prop) : vc25 lA lN lC w R = denFun ctx (bodyOf Tryz.f25) Tryz.f25.results.toList [Value.slice lA lN lC] w R := by kernel_rfl
theorem vc25_calls (lA : Option Addr) (lN : Nat) (lC : Nat) (w : World) (R : Value → World → Prop) (h : vc25 lA lN lC w R) : Calls Tryz.prog 25 #[Value.slice lA lN lC] w fun e w' => ∃ v, e = .returned v ∧ R v w' :=
  calls_of_den ctxOk (f := 25) (fn := Tryz.f25) (body := bodyOf Tryz.f25) (args := [Value.slice lA lN lC]) (by kernel_rfl) (by kernel_rfl) (by kernel_rfl) (by kernel_rfl) (Eq.mp (vc25_eq lA lN lC w R) h)

/-! ### ligature/word.Hex: function 26 -/
def vc26 (s : ByteArray) (w : World) (R : Value → World → Prop) : Prop :=
  CondP ((s : ByteArray).toList == (⟨#[]⟩ : ByteArray).toList)
    (R (Value.string ⟨#[45]⟩) w)
    (∀ w1 : World, w1 = w.alloc (.cells #[Value.pointer none, Value.slice none 0 0] 67) →
     ∀ I1 : List Value → World → Prop, (∀ y9 : Int, ∀ w2 : World, (CondP (decide ((y9 : Int) < ((s : ByteArray).size : Int)))
         ((0 : Int) ≤ y9 ∧ y9 < ((s : ByteArray).size : Int) ∧
          (0 : Int) ≤ 4 ∧
          (0 : Int) ≤ (Int.fdiv (btAt s y9) (2 ^ (min (4 : Int).toNat (IntKind.bits .u8)))) ∧ (Int.fdiv (btAt s y9) (2 ^ (min (4 : Int).toNat (IntKind.bits .u8)))) < ((⟨#[48, 49, 50, 51, 52, 53, 54, 55, 56, 57, 97, 98, 99, 100, 101, 102]⟩ : ByteArray).size : Int) ∧
          Calls Tryz.prog 56 #[Value.pointer (some (nb w)), Value.int .u8 (btAt ⟨#[48, 49, 50, 51, 52, 53, 54, 55, 56, 57, 97, 98, 99, 100, 101, 102]⟩ (Int.fdiv (btAt s y9) (2 ^ (min (4 : Int).toNat (IntKind.bits .u8)))))] w2 (fun e3 w3 =>
          ∃ v_ : Value, e3 = .returned (v_) ∧
          (0 : Int) ≤ y9 ∧ y9 < ((s : ByteArray).size : Int) ∧
          (0 : Int) ≤ (IntKind.wrap .u8 ((BitVec.ofInt (IntKind.bits .u8) (btAt s y9) &&& BitVec.ofInt (IntKind.bits .u8) 15).toNat : Int)) ∧ (IntKind.wrap .u8 ((BitVec.ofInt (IntKind.bits .u8) (btAt s y9) &&& BitVec.ofInt (IntKind.bits .u8) 15).toNat : Int)) < ((⟨#[48, 49, 50, 51, 52, 53, 54, 55, 56, 57, 97, 98, 99, 100, 101, 102]⟩ : ByteArray).size : Int) ∧
          Calls Tryz.prog 56 #[Value.pointer (some (nb w)), Value.int .u8 (btAt ⟨#[48, 49, 50, 51, 52, 53, 54, 55, 56, 57, 97, 98, 99, 100, 101, 102]⟩ (IntKind.wrap .u8 ((BitVec.ofInt (IntKind.bits .u8) (btAt s y9) &&& BitVec.ofInt (IntKind.bits .u8) 15).toNat : Int)))] w3 (fun e4 w4 =>
          ∃ v__2 : Value, e4 = .returned (v__2) ∧
          Ar .i64 ((y9 : Int) + 1) (fun n =>
          I1 [Value.int .i64 n] w4))))
         (Calls Tryz.prog 29 #[Value.pointer (some (nb w))] w2 (fun e5 w5 =>
          ∃ s_3 : ByteArray, e5 = .returned (Value.string s_3) ∧
          R (Value.string s_3) w5))) → I1 [Value.int .i64 y9] w2) →
     I1 [Value.int .i64 0] w1)
theorem vc26_eq (s : ByteArray) (w : World) (R : Value → World → Prop) : vc26 s w R = denFun ctx (bodyOf Tryz.f26) Tryz.f26.results.toList [Value.string s] w R := by kernel_rfl
theorem vc26_calls (s : ByteArray) (w : World) (R : Value → World → Prop) (h : vc26 s w R) : Calls Tryz.prog 26 #[Value.string s] w fun e w' => ∃ v, e = .returned v ∧ R v w' :=
  calls_of_den ctxOk (f := 26) (fn := Tryz.f26) (body := bodyOf Tryz.f26) (args := [Value.string s]) (by kernel_rfl) (by kernel_rfl) (by kernel_rfl) (by kernel_rfl) (Eq.mp (vc26_eq s w R) h)

/-! ### ligature/word.Number: function 27 -/
def vc27 (n : Int) (w : World) (R : Value → World → Prop) : Prop :=
  Calls Tryz.prog 57 #[Value.int .i64 n] w (fun e1 w1 =>
  ∃ s : ByteArray, e1 = .returned (Value.string s) ∧
  R (Value.string s) w1)
theorem vc27_eq (n : Int) (w : World) (R : Value → World → Prop) : vc27 n w R = denFun ctx (bodyOf Tryz.f27) Tryz.f27.results.toList [Value.int .i64 n] w R := by kernel_rfl
theorem vc27_calls (n : Int) (w : World) (R : Value → World → Prop) (h : vc27 n w R) : Calls Tryz.prog 27 #[Value.int .i64 n] w fun e w' => ∃ v, e = .returned v ∧ R v w' :=
  calls_of_den ctxOk (f := 27) (fn := Tryz.f27) (body := bodyOf Tryz.f27) (args := [Value.int .i64 n]) (by kernel_rfl) (by kernel_rfl) (by kernel_rfl) (by kernel_rfl) (Eq.mp (vc27_eq n w R) h)

/-! ### (*strings.Builder).Len: function 28 -/
def vc28 (b : Option Addr) (w : World) (R : Value → World → Prop) : Prop :=
  NilC b (fun pa =>
  ∃ lA : Option Addr, ∃ lN : Nat, ∃ lC : Nat, w.cell? (pa.add 1) = some (Value.slice lA lN lC) ∧
  R (Value.int .i64 ((lN : Nat) : Int)) w)
theorem vc28_eq (b : Option Addr) (w : World) (R : Value → World → Prop) : vc28 b w R = denFun ctx (bodyOf Tryz.f28) Tryz.f28.results.toList [Value.pointer b] w R := by kernel_rfl
theorem vc28_calls (b : Option Addr) (w : World) (R : Value → World → Prop) (h : vc28 b w R) : Calls Tryz.prog 28 #[Value.pointer b] w fun e w' => ∃ v, e = .returned v ∧ R v w' :=
  calls_of_den ctxOk (f := 28) (fn := Tryz.f28) (body := bodyOf Tryz.f28) (args := [Value.pointer b]) (by kernel_rfl) (by kernel_rfl) (by kernel_rfl) (by kernel_rfl) (Eq.mp (vc28_eq b w R) h)

/-! ### (*strings.Builder).String: function 29 -/
def vc29 (b : Option Addr) (w : World) (R : Value → World → Prop) : Prop :=
  ∀ w1 : World, w1 = w.drew →
  NilC b (fun pa =>
  ∃ lA : Option Addr, ∃ lN : Nat, ∃ lC : Nat, w1.cell? (pa.add 1) = some (Value.slice lA lN lC) ∧
  NilC b (fun pa_1 =>
  ∃ lA_2 : Option Addr, ∃ lN_3 : Nat, ∃ lC_4 : Nat, w1.cell? (pa_1.add 1) = some (Value.slice lA_2 lN_3 lC_4) ∧
  ∃ p : Option Addr, ∃ w2 : World, (Builtin.unsafeSliceData_ #[65] 105 #[Value.slice lA lN lC]).run Tryz.prog w1 = .ok (Value.pointer p) w2 ∧
  (w2.cell? (pa_1.add 1) = some (Value.slice lA_2 lN_3 lC_4) ∧ True) ∧
  ∃ s : ByteArray, ∃ w3 : World, (Builtin.unsafeString_ #[105, 3] 9 #[Value.pointer p, Value.int .i64 ((lN_3 : Nat) : Int)]).run Tryz.prog w2 = .ok (Value.string s) w3 ∧
  R (Value.string s) w3))
theorem vc29_eq (b : Option Addr) (w : World) (R : Value → World → Prop) : vc29 b w R = denFun ctx (bodyOf Tryz.f29) Tryz.f29.results.toList [Value.pointer b] w R := by kernel_rfl
theorem vc29_calls (b : Option Addr) (w : World) (R : Value → World → Prop) (h : vc29 b w R) : Calls Tryz.prog 29 #[Value.pointer b] w fun e w' => ∃ v, e = .returned v ∧ R v w' :=
  calls_of_den ctxOk (f := 29) (fn := Tryz.f29) (body := bodyOf Tryz.f29) (args := [Value.pointer b]) (by kernel_rfl) (by kernel_rfl) (by kernel_rfl) (by kernel_rfl) (Eq.mp (vc29_eq b w R) h)

/-! ### ligature/spec.all[ligature/api.Merge]: function 30 -/
def vc30 (lA : Option Addr) (lN : Nat) (lC : Nat) (most : Int) (may : Value) (w : World) (R : Value → World → Prop) : Prop :=
  ∀ w1 : World, w1 = w.alloc (.cells (Value.cells may) 77) →
  CondP (decide ((((lN : Nat) : Int) : Int) ≤ most))
    (Calls Tryz.prog 58 #[Value.slice lA lN lC, Value.func (.func 59) #[] #[Value.pointer (some (nb w))]] w1 (fun e2 w2 =>
     ∃ b : Bool, e2 = .returned (Value.bool b) ∧
     R (Value.bool (!b)) w2))
    (R (Value.bool false) w1)
theorem vc30_eq (lA : Option Addr) (lN : Nat) (lC : Nat) (most : Int) (may : Value) (w : World) (R : Value → World → Prop) : vc30 lA lN lC most may w R = denFun ctx (bodyOf Tryz.f30) Tryz.f30.results.toList [Value.slice lA lN lC, Value.int .i64 most, may] w R := by kernel_rfl
theorem vc30_calls (lA : Option Addr) (lN : Nat) (lC : Nat) (most : Int) (may : Value) (w : World) (R : Value → World → Prop) (h : vc30 lA lN lC most may w R) : Calls Tryz.prog 30 #[Value.slice lA lN lC, Value.int .i64 most, may] w fun e w' => ∃ v, e = .returned v ∧ R v w' :=
  calls_of_den ctxOk (f := 30) (fn := Tryz.f30) (body := bodyOf Tryz.f30) (args := [Value.slice lA lN lC, Value.int .i64 most, may]) (by kernel_rfl) (by kernel_rfl) (by kernel_rfl) (by kernel_rfl) (Eq.mp (vc30_eq lA lN lC most may w R) h)

/-! ### ligature/spec.merge: function 31 -/
def vc31 (m0 : Int) (m1 : Int) (w : World) (R : Value → World → Prop) : Prop :=
  ∀ w1 : World, w1 = w.alloc (.cells #[Value.int .i64 m0, Value.int .i64 m1] 55) →
  ∃ n : Int, w1.cell? ((nb w).add 0) = some (Value.int .i64 n) ∧
  Calls Tryz.prog 60 #[Value.int .i64 n, Value.int .i64 0, Value.int .i64 999] w1 (fun e2 w2 =>
  ∃ b : Bool, e2 = .returned (Value.bool b) ∧
  CondP b
    (∃ n_1 : Int, w2.cell? ((nb w).add 1) = some (Value.int .i64 n_1) ∧
     Calls Tryz.prog 60 #[Value.int .i64 n_1, Value.int .i64 0, Value.int .i64 999] w2 (fun e3 w3 =>
     ∃ b_2 : Bool, e3 = .returned (Value.bool b_2) ∧
     R (Value.bool b_2) w3))
    (R (Value.bool false) w2))
theorem vc31_eq (m0 : Int) (m1 : Int) (w : World) (R : Value → World → Prop) : vc31 m0 m1 w R = denFun ctx (bodyOf Tryz.f31) Tryz.f31.results.toList [Value.agg #[Value.int .i64 m0, Value.int .i64 m1]] w R := by kernel_rfl
theorem vc31_calls (m0 : Int) (m1 : Int) (w : World) (R : Value → World → Prop) (h : vc31 m0 m1 w R) : Calls Tryz.prog 31 #[Value.agg #[Value.int .i64 m0, Value.int .i64 m1]] w fun e w' => ∃ v, e = .returned v ∧ R v w' :=
  calls_of_den ctxOk (f := 31) (fn := Tryz.f31) (body := bodyOf Tryz.f31) (args := [Value.agg #[Value.int .i64 m0, Value.int .i64 m1]]) (by kernel_rfl) (by kernel_rfl) (by kernel_rfl) (by kernel_rfl) (Eq.mp (vc31_eq m0 m1 w R) h)

/-! ### ligature/spec.all[string]: function 32 -/
def vc32 (lA : Option Addr) (lN : Nat) (lC : Nat) (most : Int) (may : Value) (w : World) (R : Value → World → Prop) : Prop :=
  ∀ w1 : World, w1 = w.alloc (.cells (Value.cells may) 36) →
  CondP (decide ((((lN : Nat) : Int) : Int) ≤ most))
    (Calls Tryz.prog 61 #[Value.slice lA lN lC, Value.func (.func 62) #[] #[Value.pointer (some (nb w))]] w1 (fun e2 w2 =>
     ∃ b : Bool, e2 = .returned (Value.bool b) ∧
     R (Value.bool (!b)) w2))
    (R (Value.bool false) w1)
theorem vc32_eq (lA : Option Addr) (lN : Nat) (lC : Nat) (most : Int) (may : Value) (w : World) (R : Value → World → Prop) : vc32 lA lN lC most may w R = denFun ctx (bodyOf Tryz.f32) Tryz.f32.results.toList [Value.slice lA lN lC, Value.int .i64 most, may] w R := by kernel_rfl
theorem vc32_calls (lA : Option Addr) (lN : Nat) (lC : Nat) (most : Int) (may : Value) (w : World) (R : Value → World → Prop) (h : vc32 lA lN lC most may w R) : Calls Tryz.prog 32 #[Value.slice lA lN lC, Value.int .i64 most, may] w fun e w' => ∃ v, e = .returned v ∧ R v w' :=
  calls_of_den ctxOk (f := 32) (fn := Tryz.f32) (body := bodyOf Tryz.f32) (args := [Value.slice lA lN lC, Value.int .i64 most, may]) (by kernel_rfl) (by kernel_rfl) (by kernel_rfl) (by kernel_rfl) (Eq.mp (vc32_eq lA lN lC most may w R) h)

/-! ### ligature/spec.thing: function 33 -/
def vc33 (s : ByteArray) (w : World) (R : Value → World → Prop) : Prop :=
  Calls Tryz.prog 60 #[Value.int .i64 ((s : ByteArray).size : Int), Value.int .i64 2, Value.int .i64 64] w (fun e1 w1 =>
  ∃ b : Bool, e1 = .returned (Value.bool b) ∧
  R (Value.bool b) w1)
theorem vc33_eq (s : ByteArray) (w : World) (R : Value → World → Prop) : vc33 s w R = denFun ctx (bodyOf Tryz.f33) Tryz.f33.results.toList [Value.string s] w R := by kernel_rfl
theorem vc33_calls (s : ByteArray) (w : World) (R : Value → World → Prop) (h : vc33 s w R) : Calls Tryz.prog 33 #[Value.string s] w fun e w' => ∃ v, e = .returned v ∧ R v w' :=
  calls_of_den ctxOk (f := 33) (fn := Tryz.f33) (body := bodyOf Tryz.f33) (args := [Value.string s]) (by kernel_rfl) (by kernel_rfl) (by kernel_rfl) (by kernel_rfl) (Eq.mp (vc33_eq s w R) h)

/-! ### ligature/spec.all[ligature/api.Special]: function 34 -/
def vc34 (lA : Option Addr) (lN : Nat) (lC : Nat) (most : Int) (may : Value) (w : World) (R : Value → World → Prop) : Prop :=
  ∀ w1 : World, w1 = w.alloc (.cells (Value.cells may) 80) →
  CondP (decide ((((lN : Nat) : Int) : Int) ≤ most))
    (Calls Tryz.prog 63 #[Value.slice lA lN lC, Value.func (.func 64) #[] #[Value.pointer (some (nb w))]] w1 (fun e2 w2 =>
     ∃ b : Bool, e2 = .returned (Value.bool b) ∧
     R (Value.bool (!b)) w2))
    (R (Value.bool false) w1)
theorem vc34_eq (lA : Option Addr) (lN : Nat) (lC : Nat) (most : Int) (may : Value) (w : World) (R : Value → World → Prop) : vc34 lA lN lC most may w R = denFun ctx (bodyOf Tryz.f34) Tryz.f34.results.toList [Value.slice lA lN lC, Value.int .i64 most, may] w R := by kernel_rfl
theorem vc34_calls (lA : Option Addr) (lN : Nat) (lC : Nat) (most : Int) (may : Value) (w : World) (R : Value → World → Prop) (h : vc34 lA lN lC most may w R) : Calls Tryz.prog 34 #[Value.slice lA lN lC, Value.int .i64 most, may] w fun e w' => ∃ v, e = .returned v ∧ R v w' :=
  calls_of_den ctxOk (f := 34) (fn := Tryz.f34) (body := bodyOf Tryz.f34) (args := [Value.slice lA lN lC, Value.int .i64 most, may]) (by kernel_rfl) (by kernel_rfl) (by kernel_rfl) (by kernel_rfl) (Eq.mp (vc34_eq lA lN lC most may w R) h)

/-! ### ligature/spec.special: function 35 -/
def vc35 (s0 : Int) (s1 : ByteArray) (w : World) (R : Value → World → Prop) : Prop :=
  ∀ w1 : World, w1 = w.alloc (.cells #[Value.int .i64 s0, Value.string s1] 46) →
  ∃ n : Int, w1.cell? ((nb w).add 0) = some (Value.int .i64 n) ∧
  Calls Tryz.prog 60 #[Value.int .i64 n, Value.int .i64 0, Value.int .i64 1073741824] w1 (fun e2 w2 =>
  ∃ b : Bool, e2 = .returned (Value.bool b) ∧
  CondP b
    (∃ s : ByteArray, w2.cell? ((nb w).add 1) = some (Value.string s) ∧
     Calls Tryz.prog 60 #[Value.int .i64 ((s : ByteArray).size : Int), Value.int .i64 1, Value.int .i64 64] w2 (fun e3 w3 =>
     ∃ b_1 : Bool, e3 = .returned (Value.bool b_1) ∧
     R (Value.bool b_1) w3))
    (R (Value.bool false) w2))
theorem vc35_eq (s0 : Int) (s1 : ByteArray) (w : World) (R : Value → World → Prop) : vc35 s0 s1 w R = denFun ctx (bodyOf Tryz.f35) Tryz.f35.results.toList [Value.agg #[Value.int .i64 s0, Value.string s1]] w R := by kernel_rfl
theorem vc35_calls (s0 : Int) (s1 : ByteArray) (w : World) (R : Value → World → Prop) (h : vc35 s0 s1 w R) : Calls Tryz.prog 35 #[Value.agg #[Value.int .i64 s0, Value.string s1]] w fun e w' => ∃ v, e = .returned v ∧ R v w' :=
  calls_of_den ctxOk (f := 35) (fn := Tryz.f35) (body := bodyOf Tryz.f35) (args := [Value.agg #[Value.int .i64 s0, Value.string s1]]) (by kernel_rfl) (by kernel_rfl) (by kernel_rfl) (by kernel_rfl) (Eq.mp (vc35_eq s0 s1 w R) h)

/-! ### ligature/spec.all[ligature/api.Class]: function 36 -/
def vc36 (lA : Option Addr) (lN : Nat) (lC : Nat) (most : Int) (may : Value) (w : World) (R : Value → World → Prop) : Prop :=
  ∀ w1 : World, w1 = w.alloc (.cells (Value.cells may) 82) →
  CondP (decide ((((lN : Nat) : Int) : Int) ≤ most))
    (Calls Tryz.prog 65 #[Value.slice lA lN lC, Value.func (.func 66) #[] #[Value.pointer (some (nb w))]] w1 (fun e2 w2 =>
     ∃ b : Bool, e2 = .returned (Value.bool b) ∧
     R (Value.bool (!b)) w2))
    (R (Value.bool false) w1)
theorem vc36_eq (lA : Option Addr) (lN : Nat) (lC : Nat) (most : Int) (may : Value) (w : World) (R : Value → World → Prop) : vc36 lA lN lC most may w R = denFun ctx (bodyOf Tryz.f36) Tryz.f36.results.toList [Value.slice lA lN lC, Value.int .i64 most, may] w R := by kernel_rfl
theorem vc36_calls (lA : Option Addr) (lN : Nat) (lC : Nat) (most : Int) (may : Value) (w : World) (R : Value → World → Prop) (h : vc36 lA lN lC most may w R) : Calls Tryz.prog 36 #[Value.slice lA lN lC, Value.int .i64 most, may] w fun e w' => ∃ v, e = .returned v ∧ R v w' :=
  calls_of_den ctxOk (f := 36) (fn := Tryz.f36) (body := bodyOf Tryz.f36) (args := [Value.slice lA lN lC, Value.int .i64 most, may]) (by kernel_rfl) (by kernel_rfl) (by kernel_rfl) (by kernel_rfl) (Eq.mp (vc36_eq lA lN lC most may w R) h)

/-! ### ligature/spec.class: function 37 -/
def vc37 (c0 : Int) (c1 : Int) (c2 : Int) (w : World) (R : Value → World → Prop) : Prop :=
  ∀ w1 : World, w1 = w.alloc (.cells #[Value.int .i64 c0, Value.int .i64 c1, Value.int .i64 c2] 57) →
  ∃ n : Int, w1.cell? ((nb w).add 0) = some (Value.int .i64 n) ∧
  ∃ n_1 : Int, w1.cell? ((nb w).add 1) = some (Value.int .i64 n_1) ∧
  Calls Tryz.prog 60 #[Value.int .i64 n, Value.int .i64 0, Value.int .i64 n_1] w1 (fun e2 w2 =>
  ∃ b : Bool, e2 = .returned (Value.bool b) ∧
  CondP b
    (∃ n_2 : Int, w2.cell? ((nb w).add 1) = some (Value.int .i64 n_2) ∧
     CondP (decide ((n_2 : Int) ≤ 255))
       (∃ n_3 : Int, w2.cell? ((nb w).add 2) = some (Value.int .i64 n_3) ∧
        Calls Tryz.prog 60 #[Value.int .i64 n_3, Value.int .i64 0, Value.int .i64 15] w2 (fun e3 w3 =>
        ∃ b_4 : Bool, e3 = .returned (Value.bool b_4) ∧
        R (Value.bool b_4) w3))
       (R (Value.bool false) w2))
    (R (Value.bool false) w2))
theorem vc37_eq (c0 : Int) (c1 : Int) (c2 : Int) (w : World) (R : Value → World → Prop) : vc37 c0 c1 c2 w R = denFun ctx (bodyOf Tryz.f37) Tryz.f37.results.toList [Value.agg #[Value.int .i64 c0, Value.int .i64 c1, Value.int .i64 c2]] w R := by kernel_rfl
theorem vc37_calls (c0 : Int) (c1 : Int) (c2 : Int) (w : World) (R : Value → World → Prop) (h : vc37 c0 c1 c2 w R) : Calls Tryz.prog 37 #[Value.agg #[Value.int .i64 c0, Value.int .i64 c1, Value.int .i64 c2]] w fun e w' => ∃ v, e = .returned v ∧ R v w' :=
  calls_of_den ctxOk (f := 37) (fn := Tryz.f37) (body := bodyOf Tryz.f37) (args := [Value.agg #[Value.int .i64 c0, Value.int .i64 c1, Value.int .i64 c2]]) (by kernel_rfl) (by kernel_rfl) (by kernel_rfl) (by kernel_rfl) (Eq.mp (vc37_eq c0 c1 c2 w R) h)

/-! ### ligature/spec.all[ligature/api.Join]: function 38 -/
def vc38 (lA : Option Addr) (lN : Nat) (lC : Nat) (most : Int) (may : Value) (w : World) (R : Value → World → Prop) : Prop :=
  ∀ w1 : World, w1 = w.alloc (.cells (Value.cells may) 84) →
  CondP (decide ((((lN : Nat) : Int) : Int) ≤ most))
    (Calls Tryz.prog 67 #[Value.slice lA lN lC, Value.func (.func 68) #[] #[Value.pointer (some (nb w))]] w1 (fun e2 w2 =>
     ∃ b : Bool, e2 = .returned (Value.bool b) ∧
     R (Value.bool (!b)) w2))
    (R (Value.bool false) w1)
theorem vc38_eq (lA : Option Addr) (lN : Nat) (lC : Nat) (most : Int) (may : Value) (w : World) (R : Value → World → Prop) : vc38 lA lN lC most may w R = denFun ctx (bodyOf Tryz.f38) Tryz.f38.results.toList [Value.slice lA lN lC, Value.int .i64 most, may] w R := by kernel_rfl
theorem vc38_calls (lA : Option Addr) (lN : Nat) (lC : Nat) (most : Int) (may : Value) (w : World) (R : Value → World → Prop) (h : vc38 lA lN lC most may w R) : Calls Tryz.prog 38 #[Value.slice lA lN lC, Value.int .i64 most, may] w fun e w' => ∃ v, e = .returned v ∧ R v w' :=
  calls_of_den ctxOk (f := 38) (fn := Tryz.f38) (body := bodyOf Tryz.f38) (args := [Value.slice lA lN lC, Value.int .i64 most, may]) (by kernel_rfl) (by kernel_rfl) (by kernel_rfl) (by kernel_rfl) (Eq.mp (vc38_eq lA lN lC most may w R) h)

/-! ### ligature/spec.join: function 39 -/
def vc39 (j0 : Int) (j1 : Int) (w : World) (R : Value → World → Prop) : Prop :=
  ∀ w1 : World, w1 = w.alloc (.cells #[Value.int .i64 j0, Value.int .i64 j1] 58) →
  ∃ n : Int, w1.cell? ((nb w).add 0) = some (Value.int .i64 n) ∧
  Calls Tryz.prog 60 #[Value.int .i64 n, Value.int .i64 0, Value.int .i64 15] w1 (fun e2 w2 =>
  ∃ b : Bool, e2 = .returned (Value.bool b) ∧
  CondP b
    (∃ n_1 : Int, w2.cell? ((nb w).add 1) = some (Value.int .i64 n_1) ∧
     Calls Tryz.prog 60 #[Value.int .i64 n_1, Value.int .i64 0, Value.int .i64 15] w2 (fun e3 w3 =>
     ∃ b_2 : Bool, e3 = .returned (Value.bool b_2) ∧
     R (Value.bool b_2) w3))
    (R (Value.bool false) w2))
theorem vc39_eq (j0 : Int) (j1 : Int) (w : World) (R : Value → World → Prop) : vc39 j0 j1 w R = denFun ctx (bodyOf Tryz.f39) Tryz.f39.results.toList [Value.agg #[Value.int .i64 j0, Value.int .i64 j1]] w R := by kernel_rfl
theorem vc39_calls (j0 : Int) (j1 : Int) (w : World) (R : Value → World → Prop) (h : vc39 j0 j1 w R) : Calls Tryz.prog 39 #[Value.agg #[Value.int .i64 j0, Value.int .i64 j1]] w fun e w' => ∃ v, e = .returned v ∧ R v w' :=
  calls_of_den ctxOk (f := 39) (fn := Tryz.f39) (body := bodyOf Tryz.f39) (args := [Value.agg #[Value.int .i64 j0, Value.int .i64 j1]]) (by kernel_rfl) (by kernel_rfl) (by kernel_rfl) (by kernel_rfl) (Eq.mp (vc39_eq j0 j1 w R) h)

/-! ### ligature/ligatureref06.in: function 40 -/
def vc40 (n : Int) (lo : Int) (hi : Int) (w : World) (R : Value → World → Prop) : Prop :=
  CondP (decide ((n : Int) ≥ lo))
    (R (Value.bool (decide ((n : Int) ≤ hi))) w)
    (R (Value.bool false) w)
theorem vc40_eq (n : Int) (lo : Int) (hi : Int) (w : World) (R : Value → World → Prop) : vc40 n lo hi w R = denFun ctx (bodyOf Tryz.f40) Tryz.f40.results.toList [Value.int .i64 n, Value.int .i64 lo, Value.int .i64 hi] w R := by kernel_rfl
theorem vc40_calls (n : Int) (lo : Int) (hi : Int) (w : World) (R : Value → World → Prop) (h : vc40 n lo hi w R) : Calls Tryz.prog 40 #[Value.int .i64 n, Value.int .i64 lo, Value.int .i64 hi] w fun e w' => ∃ v, e = .returned v ∧ R v w' :=
  calls_of_den ctxOk (f := 40) (fn := Tryz.f40) (body := bodyOf Tryz.f40) (args := [Value.int .i64 n, Value.int .i64 lo, Value.int .i64 hi]) (by kernel_rfl) (by kernel_rfl) (by kernel_rfl) (by kernel_rfl) (Eq.mp (vc40_eq n lo hi w R) h)

/-! ### slices.Equal[[]ligature/api.Merge,ligature/api.Merge]: function 41 -/
def vc41 (s1A : Option Addr) (s1N : Nat) (s1C : Nat) (s2A : Option Addr) (s2N : Nat) (s2C : Nat) (w : World) (R : Value → World → Prop) : Prop :=
  CondP ((((s1N : Nat) : Int) : Int) != ((s2N : Nat) : Int))
    (R (Value.bool false) w)
    (∀ I1 : List Value → World → Prop, (∀ y13 : Int, ∀ y4 : Bool, ∀ w1 : World, (CondP (decide ((y13 : Int) < ((s1N : Nat) : Int)))
         (∀ w2 : World, w2 = w1.drew →
          NilC s1A (fun pa =>
          (0 : Int) ≤ y13 ∧ y13 < ((s1N : Nat) : Int) ∧
          ∃ g0 : Int, ∃ g1 : Int, (w2.cell? (pa.add ((y13 : Int).toNat * 2)) = some (Value.int .i64 g0) ∧ w2.cell? ((pa.add ((y13 : Int).toNat * 2)).add 1) = some (Value.int .i64 g1) ∧ True) ∧
          NilC s2A (fun pa_2 =>
          (0 : Int) ≤ y13 ∧ y13 < ((s2N : Nat) : Int) ∧
          ∃ g0_3 : Int, ∃ g1_4 : Int, (w2.cell? (pa_2.add ((y13 : Int).toNat * 2)) = some (Value.int .i64 g0_3) ∧ w2.cell? ((pa_2.add ((y13 : Int).toNat * 2)).add 1) = some (Value.int .i64 g1_4) ∧ True) ∧
          CondP (!(((g0 : Int) == g0_3) && (((g1 : Int) == g1_4) && (true))))
            (R (Value.bool false) w2)
            (Ar .i64 ((y13 : Int) + 1) (fun n =>
             I1 [Value.int .i64 n, Value.bool y4] w2)))))
         (R (Value.bool true) w1)) → I1 [Value.int .i64 y13, Value.bool y4] w1) →
     I1 [Value.int .i64 0, Value.bool false] w)
theorem vc41_eq (s1A : Option Addr) (s1N : Nat) (s1C : Nat) (s2A : Option Addr) (s2N : Nat) (s2C : Nat) (w : World) (R : Value → World → Prop) : vc41 s1A s1N s1C s2A s2N s2C w R = denFun ctx (bodyOf Tryz.f41) Tryz.f41.results.toList [Value.slice s1A s1N s1C, Value.slice s2A s2N s2C] w R := by kernel_rfl
theorem vc41_calls (s1A : Option Addr) (s1N : Nat) (s1C : Nat) (s2A : Option Addr) (s2N : Nat) (s2C : Nat) (w : World) (R : Value → World → Prop) (h : vc41 s1A s1N s1C s2A s2N s2C w R) : Calls Tryz.prog 41 #[Value.slice s1A s1N s1C, Value.slice s2A s2N s2C] w fun e w' => ∃ v, e = .returned v ∧ R v w' :=
  calls_of_den ctxOk (f := 41) (fn := Tryz.f41) (body := bodyOf Tryz.f41) (args := [Value.slice s1A s1N s1C, Value.slice s2A s2N s2C]) (by kernel_rfl) (by kernel_rfl) (by kernel_rfl) (by kernel_rfl) (Eq.mp (vc41_eq s1A s1N s1C s2A s2N s2C w R) h)

/-! ### slices.Equal[[]string,string]: function 42 -/
def vc42 (s1A : Option Addr) (s1N : Nat) (s1C : Nat) (s2A : Option Addr) (s2N : Nat) (s2C : Nat) (w : World) (R : Value → World → Prop) : Prop :=
  CondP ((((s1N : Nat) : Int) : Int) != ((s2N : Nat) : Int))
    (R (Value.bool false) w)
    (∀ I1 : List Value → World → Prop, (∀ y13 : Int, ∀ y4 : Bool, ∀ w1 : World, (CondP (decide ((y13 : Int) < ((s1N : Nat) : Int)))
         (∀ w2 : World, w2 = w1.drew →
          NilC s1A (fun pa =>
          (0 : Int) ≤ y13 ∧ y13 < ((s1N : Nat) : Int) ∧
          ∃ s : ByteArray, w2.cell? (pa.add ((y13 : Int).toNat * 1)) = some (Value.string s) ∧
          NilC s2A (fun pa_2 =>
          (0 : Int) ≤ y13 ∧ y13 < ((s2N : Nat) : Int) ∧
          ∃ s_3 : ByteArray, w2.cell? (pa_2.add ((y13 : Int).toNat * 1)) = some (Value.string s_3) ∧
          CondP (!((s : ByteArray).toList == (s_3 : ByteArray).toList))
            (R (Value.bool false) w2)
            (Ar .i64 ((y13 : Int) + 1) (fun n =>
             I1 [Value.int .i64 n, Value.bool y4] w2)))))
         (R (Value.bool true) w1)) → I1 [Value.int .i64 y13, Value.bool y4] w1) →
     I1 [Value.int .i64 0, Value.bool false] w)
theorem vc42_eq (s1A : Option Addr) (s1N : Nat) (s1C : Nat) (s2A : Option Addr) (s2N : Nat) (s2C : Nat) (w : World) (R : Value → World → Prop) : vc42 s1A s1N s1C s2A s2N s2C w R = denFun ctx (bodyOf Tryz.f42) Tryz.f42.results.toList [Value.slice s1A s1N s1C, Value.slice s2A s2N s2C] w R := by kernel_rfl
theorem vc42_calls (s1A : Option Addr) (s1N : Nat) (s1C : Nat) (s2A : Option Addr) (s2N : Nat) (s2C : Nat) (w : World) (R : Value → World → Prop) (h : vc42 s1A s1N s1C s2A s2N s2C w R) : Calls Tryz.prog 42 #[Value.slice s1A s1N s1C, Value.slice s2A s2N s2C] w fun e w' => ∃ v, e = .returned v ∧ R v w' :=
  calls_of_den ctxOk (f := 42) (fn := Tryz.f42) (body := bodyOf Tryz.f42) (args := [Value.slice s1A s1N s1C, Value.slice s2A s2N s2C]) (by kernel_rfl) (by kernel_rfl) (by kernel_rfl) (by kernel_rfl) (Eq.mp (vc42_eq s1A s1N s1C s2A s2N s2C w R) h)

/-! ### slices.Equal[[]ligature/api.Special,ligature/api.Special]: function 43 -/
def vc43 (s1A : Option Addr) (s1N : Nat) (s1C : Nat) (s2A : Option Addr) (s2N : Nat) (s2C : Nat) (w : World) (R : Value → World → Prop) : Prop :=
  CondP ((((s1N : Nat) : Int) : Int) != ((s2N : Nat) : Int))
    (R (Value.bool false) w)
    (∀ I1 : List Value → World → Prop, (∀ y13 : Int, ∀ y4 : Bool, ∀ w1 : World, (CondP (decide ((y13 : Int) < ((s1N : Nat) : Int)))
         (∀ w2 : World, w2 = w1.drew →
          NilC s1A (fun pa =>
          (0 : Int) ≤ y13 ∧ y13 < ((s1N : Nat) : Int) ∧
          ∃ g0 : Int, ∃ g1 : ByteArray, (w2.cell? (pa.add ((y13 : Int).toNat * 2)) = some (Value.int .i64 g0) ∧ w2.cell? ((pa.add ((y13 : Int).toNat * 2)).add 1) = some (Value.string g1) ∧ True) ∧
          NilC s2A (fun pa_2 =>
          (0 : Int) ≤ y13 ∧ y13 < ((s2N : Nat) : Int) ∧
          ∃ g0_3 : Int, ∃ g1_4 : ByteArray, (w2.cell? (pa_2.add ((y13 : Int).toNat * 2)) = some (Value.int .i64 g0_3) ∧ w2.cell? ((pa_2.add ((y13 : Int).toNat * 2)).add 1) = some (Value.string g1_4) ∧ True) ∧
          CondP (!(((g0 : Int) == g0_3) && (((g1 : ByteArray).toList == (g1_4 : ByteArray).toList) && (true))))
            (R (Value.bool false) w2)
            (Ar .i64 ((y13 : Int) + 1) (fun n =>
             I1 [Value.int .i64 n, Value.bool y4] w2)))))
         (R (Value.bool true) w1)) → I1 [Value.int .i64 y13, Value.bool y4] w1) →
     I1 [Value.int .i64 0, Value.bool false] w)
theorem vc43_eq (s1A : Option Addr) (s1N : Nat) (s1C : Nat) (s2A : Option Addr) (s2N : Nat) (s2C : Nat) (w : World) (R : Value → World → Prop) : vc43 s1A s1N s1C s2A s2N s2C w R = denFun ctx (bodyOf Tryz.f43) Tryz.f43.results.toList [Value.slice s1A s1N s1C, Value.slice s2A s2N s2C] w R := by kernel_rfl
theorem vc43_calls (s1A : Option Addr) (s1N : Nat) (s1C : Nat) (s2A : Option Addr) (s2N : Nat) (s2C : Nat) (w : World) (R : Value → World → Prop) (h : vc43 s1A s1N s1C s2A s2N s2C w R) : Calls Tryz.prog 43 #[Value.slice s1A s1N s1C, Value.slice s2A s2N s2C] w fun e w' => ∃ v, e = .returned v ∧ R v w' :=
  calls_of_den ctxOk (f := 43) (fn := Tryz.f43) (body := bodyOf Tryz.f43) (args := [Value.slice s1A s1N s1C, Value.slice s2A s2N s2C]) (by kernel_rfl) (by kernel_rfl) (by kernel_rfl) (by kernel_rfl) (Eq.mp (vc43_eq s1A s1N s1C s2A s2N s2C w R) h)

/-! ### slices.Equal[[]ligature/api.Class,ligature/api.Class]: function 44 -/
def vc44 (s1A : Option Addr) (s1N : Nat) (s1C : Nat) (s2A : Option Addr) (s2N : Nat) (s2C : Nat) (w : World) (R : Value → World → Prop) : Prop :=
  CondP ((((s1N : Nat) : Int) : Int) != ((s2N : Nat) : Int))
    (R (Value.bool false) w)
    (∀ I1 : List Value → World → Prop, (∀ y13 : Int, ∀ y4 : Bool, ∀ w1 : World, (CondP (decide ((y13 : Int) < ((s1N : Nat) : Int)))
         (∀ w2 : World, w2 = w1.drew →
          NilC s1A (fun pa =>
          (0 : Int) ≤ y13 ∧ y13 < ((s1N : Nat) : Int) ∧
          ∃ g0 : Int, ∃ g1 : Int, ∃ g2 : Int, (w2.cell? (pa.add ((y13 : Int).toNat * 3)) = some (Value.int .i64 g0) ∧ w2.cell? ((pa.add ((y13 : Int).toNat * 3)).add 1) = some (Value.int .i64 g1) ∧ w2.cell? ((pa.add ((y13 : Int).toNat * 3)).add 2) = some (Value.int .i64 g2) ∧ True) ∧
          NilC s2A (fun pa_2 =>
          (0 : Int) ≤ y13 ∧ y13 < ((s2N : Nat) : Int) ∧
          ∃ g0_3 : Int, ∃ g1_4 : Int, ∃ g2_5 : Int, (w2.cell? (pa_2.add ((y13 : Int).toNat * 3)) = some (Value.int .i64 g0_3) ∧ w2.cell? ((pa_2.add ((y13 : Int).toNat * 3)).add 1) = some (Value.int .i64 g1_4) ∧ w2.cell? ((pa_2.add ((y13 : Int).toNat * 3)).add 2) = some (Value.int .i64 g2_5) ∧ True) ∧
          CondP (!(((g0 : Int) == g0_3) && (((g1 : Int) == g1_4) && (((g2 : Int) == g2_5) && (true)))))
            (R (Value.bool false) w2)
            (Ar .i64 ((y13 : Int) + 1) (fun n =>
             I1 [Value.int .i64 n, Value.bool y4] w2)))))
         (R (Value.bool true) w1)) → I1 [Value.int .i64 y13, Value.bool y4] w1) →
     I1 [Value.int .i64 0, Value.bool false] w)
theorem vc44_eq (s1A : Option Addr) (s1N : Nat) (s1C : Nat) (s2A : Option Addr) (s2N : Nat) (s2C : Nat) (w : World) (R : Value → World → Prop) : vc44 s1A s1N s1C s2A s2N s2C w R = denFun ctx (bodyOf Tryz.f44) Tryz.f44.results.toList [Value.slice s1A s1N s1C, Value.slice s2A s2N s2C] w R := by kernel_rfl
theorem vc44_calls (s1A : Option Addr) (s1N : Nat) (s1C : Nat) (s2A : Option Addr) (s2N : Nat) (s2C : Nat) (w : World) (R : Value → World → Prop) (h : vc44 s1A s1N s1C s2A s2N s2C w R) : Calls Tryz.prog 44 #[Value.slice s1A s1N s1C, Value.slice s2A s2N s2C] w fun e w' => ∃ v, e = .returned v ∧ R v w' :=
  calls_of_den ctxOk (f := 44) (fn := Tryz.f44) (body := bodyOf Tryz.f44) (args := [Value.slice s1A s1N s1C, Value.slice s2A s2N s2C]) (by kernel_rfl) (by kernel_rfl) (by kernel_rfl) (by kernel_rfl) (Eq.mp (vc44_eq s1A s1N s1C s2A s2N s2C w R) h)

end Go.Proofs.YtldgehlbicoedaaGreatDoor.Eng
