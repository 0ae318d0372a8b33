/-
  The known calls, one upon the other.
-/
import Derived.Test.YtoiedaegnhifpaaDoorU13
set_option maxRecDepth 100000
set_option linter.unusedVariables false
set_option linter.unusedSimpArgs false
namespace Go.Proofs.YtoiedaegnhifpaaDoor
open Go Go.Abs Go.Shelf Go.RowKit Go.Abs.K

def o95 : CallSem := orSem (callS 95 [] F95) ov0
theorem o95_good : GoodCalls Tryd.prog o95 ∧ GoodWF o95 := or_good (walk_good mixed comp95 ov0_good (by decide) (by decide) (walk95 _)) ov0_good
def o69 : CallSem := orSem (callS 69 [] F69) o95
theorem o69_good : GoodCalls Tryd.prog o69 ∧ GoodWF o69 := or_good (walk_good mixed comp69 o95_good (by decide) (by decide) (walk69 _)) o95_good
def o70 : CallSem := orSem (callS 70 [] F70) o69
theorem o70_good : GoodCalls Tryd.prog o70 ∧ GoodWF o70 := or_good (walk_good mixed comp70 o69_good (by decide) (by decide) (walk70 (.there (by decide) .here) _)) o69_good
def o43 : CallSem := orSem (callS 43 [] F43) o70
theorem o43_good : GoodCalls Tryd.prog o43 ∧ GoodWF o43 := or_good (walk_good mixed comp43 o70_good (by decide) (by decide) (walk43 _)) o70_good
def o66 : CallSem := orSem (callS 66 [] F66) o43
theorem o66_good : GoodCalls Tryd.prog o66 ∧ GoodWF o66 := or_good (walk_good mixed comp66 o43_good (by decide) (by decide) (walk66 (.there (by decide) .here) (.there (by decide) (.there (by decide) .here)) _)) o43_good
def o40 : CallSem := orSem (callS 40 [] F40) o66
theorem o40_good : GoodCalls Tryd.prog o40 ∧ GoodWF o40 := or_good (walk_good mixed comp40 o66_good (by decide) (by decide) (walk40 (.there (by decide) (.there (by decide) .here)) (.there (by decide) (.there (by decide) (.there (by decide) .here))) _)) o66_good
def o92 : CallSem := orSem (callS 92 [] Fsuf) o40
theorem o92_good : GoodCalls Tryd.prog o92 ∧ GoodWF o92 := or_good (walk_good mixed comp92 o40_good (by decide) (by decide) (walk92 _)) o40_good
def o61 : CallSem := orSem (callS 61 [] Fsuf) o92
theorem o61_good : GoodCalls Tryd.prog o61 ∧ GoodWF o61 := or_good (walk_good mixed comp61 o92_good (by decide) (by decide) (walk61 .here _)) o92_good
def o94 : CallSem := orSem (callS 94 [] Ftrim) o61
theorem o94_good : GoodCalls Tryd.prog o94 ∧ GoodWF o94 := or_good (walk_good mixed comp94 o61_good (by decide) (by decide) (walk94 (.there (by decide) .here) _)) o61_good
def o63 : CallSem := orSem (callS 63 [] Ftrim) o94
theorem o63_good : GoodCalls Tryd.prog o63 ∧ GoodWF o63 := or_good (walk_good mixed comp63 o94_good (by decide) (by decide) (walk63 .here _)) o94_good
def o64 : CallSem := orSem (callS 64 [] F64) o63
theorem o64_good : GoodCalls Tryd.prog o64 ∧ GoodWF o64 := or_good (walk_good mixed comp64 o63_good (by decide) (by decide) (walk64 _)) o63_good
def o62 : CallSem := orSem (callS 62 gS F62) o64
theorem o62_good : GoodCalls Tryd.prog o62 ∧ GoodWF o62 := or_good (walkT_good (two_ok comp62 comp93 o64_good) rfl comp62 (by decide) (by decide) (walk62 (.there (by decide) (.there (by decide) (.there (by decide) (.there (by decide) (.there (by decide) (.there (by decide) (.there (by decide) (.there (by decide) (.there (by decide) (.there (by decide) (.there (by decide) ov0_fields))))))))))))) o64_good
def o65 : CallSem := orSem (callS 65 [] F65) o62
theorem o65_good : GoodCalls Tryd.prog o65 ∧ GoodWF o65 := or_good (walkT_good (two_ok comp65 comp51 o62_good) rfl comp65 (by decide) (by decide) (walk65 (.there (by decide) (.there (by decide) (.there (by decide) (.there (by decide) (.there (by decide) (.there (by decide) (.there (by decide) (.there (by decide) (.there (by decide) (.there (by decide) (.there (by decide) (.there (by decide) ov0_split)))))))))))) (.there (by decide) .here) _)) o62_good
def o33 : CallSem := orSem (callS 33 [] F33) o65
theorem o33_good : GoodCalls Tryd.prog o33 ∧ GoodWF o33 := or_good (walk_good mixed comp33 o65_good (by decide) (by decide) (walk33 (.there (by decide) (.there (by decide) (.there (by decide) (.there (by decide) (.there (by decide) (.there (by decide) (.there (by decide) (.there (by decide) .here)))))))) (.there (by decide) (.there (by decide) (.there (by decide) (.there (by decide) (.there (by decide) (.there (by decide) (.there (by decide) (.there (by decide) (.there (by decide) .here))))))))) _)) o65_good
def o67 : CallSem := orSem (callS 67 [] F67) o33
theorem o67_good : GoodCalls Tryd.prog o67 ∧ GoodWF o67 := or_good (walk_good mixed comp67 o33_good (by decide) (by decide) (walk67 (.there (by decide) (.there (by decide) (.there (by decide) (.there (by decide) (.there (by decide) (.there (by decide) (.there (by decide) (.there (by decide) .here)))))))) _)) o33_good
def o41 : CallSem := orSem (callS 41 gP F41) o67
theorem o41_good : GoodCalls Tryd.prog o41 ∧ GoodWF o41 := or_good (walk_good mixed comp41 o67_good (by decide) (by decide) (walk41 (.there (by decide) (.there (by decide) (.there (by decide) (.there (by decide) (.there (by decide) (.there (by decide) (.there (by decide) (.there (by decide) (.there (by decide) (.there (by decide) (.there (by decide) (.there (by decide) (.there (by decide) (.there (by decide) (.there (by decide) ov0_itoa))))))))))))))) (.there (by decide) (.there (by decide) (.there (by decide) (.there (by decide) (.there (by decide) (.there (by decide) (.there (by decide) (.there (by decide) (.there (by decide) (.there (by decide) (.there (by decide) (.there (by decide) (.there (by decide) (.there (by decide) (.there (by decide) ov0_repeat))))))))))))))) rfl)) o67_good
def o16 : CallSem := orSem (callS 16 gB F16) o41
theorem o16_good : GoodCalls Tryd.prog o16 ∧ GoodWF o16 := or_good (walk_good mixed comp16 o41_good (by decide) (by decide) (walk16 (.there (by decide) (.there (by decide) (.there (by decide) (.there (by decide) (.there (by decide) (.there (by decide) (.there (by decide) (.there (by decide) (.there (by decide) (.there (by decide) .here)))))))))) .here (.there (by decide) (.there (by decide) (.there (by decide) (.there (by decide) (.there (by decide) (.there (by decide) (.there (by decide) (.there (by decide) (.there (by decide) (.there (by decide) (.there (by decide) (.there (by decide) (.there (by decide) (.there (by decide) (.there (by decide) (.there (by decide) ov0_fields)))))))))))))))) (.there (by decide) (.there (by decide) (.there (by decide) (.there (by decide) (.there (by decide) (.there (by decide) (.there (by decide) (.there (by decide) (.there (by decide) (.there (by decide) (.there (by decide) (.there (by decide) .here)))))))))))) rfl rfl)) o41_good
def o32 : CallSem := orSem (callS 32 gS F32) o16
theorem o32_good : GoodCalls Tryd.prog o32 ∧ GoodWF o32 := or_good (walkT_good (two_ok comp32 comp51 o16_good) rfl comp32 (by decide) (by decide) (walk32 (.there (by decide) (.there (by decide) (.there (by decide) (.there (by decide) (.there (by decide) (.there (by decide) (.there (by decide) (.there (by decide) (.there (by decide) (.there (by decide) (.there (by decide) (.there (by decide) (.there (by decide) (.there (by decide) (.there (by decide) (.there (by decide) (.there (by decide) ov0_split))))))))))))))))) (.there (by decide) (.there (by decide) (.there (by decide) (.there (by decide) (.there (by decide) (.there (by decide) (.there (by decide) (.there (by decide) (.there (by decide) .here))))))))) (.there (by decide) (.there (by decide) (.there (by decide) (.there (by decide) (.there (by decide) (.there (by decide) (.there (by decide) .here))))))) (.there (by decide) (.there (by decide) (.there (by decide) (.there (by decide) (.there (by decide) .here))))) (.there (by decide) (.there (by decide) (.there (by decide) (.there (by decide) (.there (by decide) (.there (by decide) .here)))))) (.there (by decide) (.there (by decide) (.there (by decide) (.there (by decide) .here)))) rfl)) o16_good
def o34 : CallSem := orSem (callS 34 gS F34) o32
theorem o34_good : GoodCalls Tryd.prog o34 ∧ GoodWF o34 := or_good (walkT_good (two_ok comp34 comp51 o32_good) rfl comp34 (by decide) (by decide) (walk34 (.there (by decide) (.there (by decide) (.there (by decide) (.there (by decide) (.there (by decide) (.there (by decide) (.there (by decide) (.there (by decide) (.there (by decide) (.there (by decide) (.there (by decide) (.there (by decide) (.there (by decide) (.there (by decide) (.there (by decide) (.there (by decide) (.there (by decide) (.there (by decide) ov0_split)))))))))))))))))) (.there (by decide) (.there (by decide) (.there (by decide) (.there (by decide) (.there (by decide) (.there (by decide) (.there (by decide) (.there (by decide) (.there (by decide) (.there (by decide) .here)))))))))) (.there (by decide) (.there (by decide) (.there (by decide) (.there (by decide) (.there (by decide) (.there (by decide) (.there (by decide) (.there (by decide) .here)))))))) (.there (by decide) (.there (by decide) (.there (by decide) (.there (by decide) (.there (by decide) (.there (by decide) .here)))))) (.there (by decide) (.there (by decide) (.there (by decide) (.there (by decide) (.there (by decide) (.there (by decide) (.there (by decide) .here))))))) (.there (by decide) (.there (by decide) (.there (by decide) (.there (by decide) (.there (by decide) .here))))) (.there (by decide) (.there (by decide) (.there (by decide) .here))) rfl)) o32_good
def o35 : CallSem := orSem (callS 35 gS F35) o34
theorem o35_good : GoodCalls Tryd.prog o35 ∧ GoodWF o35 := or_good (walk_good mixed comp35 o34_good (by decide) (by decide) (walk35 (.there (by decide) (.there (by decide) (.there (by decide) (.there (by decide) (.there (by decide) (.there (by decide) (.there (by decide) .here))))))) (.there (by decide) (.there (by decide) (.there (by decide) (.there (by decide) (.there (by decide) (.there (by decide) (.there (by decide) (.there (by decide) .here)))))))) (.there (by decide) (.there (by decide) (.there (by decide) (.there (by decide) (.there (by decide) (.there (by decide) .here)))))) rfl)) o34_good
def o13 : CallSem := orSem (callS 13 gS F13) o35
theorem o13_good : GoodCalls Tryd.prog o13 ∧ GoodWF o13 := or_good (walk_good mixed comp13 o35_good (by decide) (by decide) (walk13 (.there (by decide) (.there (by decide) .here)) (.there (by decide) .here) .here (.there (by decide) (.there (by decide) (.there (by decide) (.there (by decide) (.there (by decide) (.there (by decide) .here)))))) rfl)) o35_good
def o31 : CallSem := orSem (callS 31 [] F31) o13
theorem o31_good : GoodCalls Tryd.prog o31 ∧ GoodWF o31 := or_good (walk_good mixed comp31 o13_good (by decide) (by decide) (walk31 _)) o13_good
def o12 : CallSem := orSem (callS 12 gB F12) o31
theorem o12_good : GoodCalls Tryd.prog o12 ∧ GoodWF o12 := or_good (walk_good mixed comp12 o31_good (by decide) (by decide) (walk12 (.there (by decide) .here) (.there (by decide) (.there (by decide) (.there (by decide) (.there (by decide) (.there (by decide) .here))))) .here rfl rfl)) o31_good

end Go.Proofs.YtoiedaegnhifpaaDoor
