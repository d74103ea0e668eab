/- The abstract machine, part 21: the program's own tables. (And what follows from it, text by text.) -/
import Derived.Test.YtmglahnoemgieaaM3
import Derived.Test.YtmglahnoemgieaaChecked
import Derived.Laws.StructEq
namespace Go.Proofs.Ytmglahnoemgieaa.Ax
open Go Go.RowKit
set_option linter.unusedSimpArgs false
set_option linter.unusedVariables false

def hbT : FuncId → List Nat
  | 4 => [39]
  | 8 => [13]
  | 10 => [9]
  | 15 => [2, 3, 7]
  | 17 => [16]
  | 24 => [12]
  | 28 => [18]
  | _ => []
def unT : FuncId → Nat → Option (List (Nat × Nat) × List Nat)
  | 3, 16 => some ([(2, 4), (3, 4)], [0, 5])
  | 4, 5 => some ([(2, 10), (8, 10), (2, 11), (8, 11)], [])
  | 4, 6 => some ([(6, 12), (6, 15), (12, 15)], [])
  | 5, 1 => some ([(1, 3)], [])
  | 7, 18 => some ([(1, 2), (1, 3), (1, 6), (2, 6), (3, 6), (4, 6), (1, 7), (2, 7), (3, 7), (4, 7), (6, 7), (1, 8), (2, 8), (3, 8), (4, 8), (6, 8)], [])
  | 7, 20 => some ([(0, 1), (1, 2)], [])
  | 10, 9 => some ([(3, 6), (4, 6)], [])
  | 18, 5 => some ([], [])
  | 20, 2 => some ([(1, 3), (1, 5), (3, 5), (1, 7), (3, 7), (5, 7), (1, 9), (3, 9), (5, 9), (7, 9), (1, 11), (3, 11), (5, 11), (7, 11), (9, 11), (11, 12)], [])
  | 21, 1 => some ([(1, 3), (1, 8), (3, 8), (1, 10), (3, 10), (8, 10)], [])
  | 22, 3 => some ([(4, 9), (4, 10)], [])
  | 24, 11 => some ([(2, 8), (4, 8), (5, 8), (6, 8)], [])
  | 34, 5 => some ([(0, 2), (0, 3)], [3])
  | 34, 7 => some ([(0, 2), (0, 3)], [3])
  | 34, 9 => some ([(0, 2), (0, 3)], [3])
  | 34, 11 => some ([(0, 2), (0, 3)], [3])
  | 40, 15 => some ([(1, 3), (1, 4)], [3])
  | 40, 17 => some ([(3, 7)], [12])
  | 60, 1 => some ([(3, 7), (3, 13), (7, 13), (8, 13)], [])
  | 63, 1 => some ([(4, 9)], [])
  | 63, 4 => some ([(3, 7), (3, 13), (7, 13)], [])
  | _, _ => none
abbrev Gf := List AV → H → Option (Out × H × Option Nat)
noncomputable def cfg (w0 : World) (t : Option Gf) : Cfg := { P := Try.prog, w0 := w0, hb := hbT, un := unT, T := fun f => if f = 15 then t else none }
section
variable {w0 : World} {t : Option Gf}
theorem cfg_P : (cfg w0 t).P = Try.prog := rfl
theorem cfg_w0 : (cfg w0 t).w0 = w0 := rfl
theorem cfg_un : (cfg w0 t).un = unT := rfl
theorem cfg_hb : (cfg w0 t).hb = hbT := rfl

theorem hb_3_3 : (hbT 3).contains 3 = false := rfl
theorem hb_3_7 : (hbT 3).contains 7 = false := rfl
theorem hb_3_8 : (hbT 3).contains 8 = false := rfl
theorem hb_3_36 : (hbT 3).contains 36 = false := rfl
theorem hb_3_43 : (hbT 3).contains 43 = false := rfl
theorem hb_4_3 : (hbT 4).contains 3 = false := rfl
theorem hb_4_5 : (hbT 4).contains 5 = false := rfl
theorem hb_4_7 : (hbT 4).contains 7 = false := rfl
theorem hb_4_8 : (hbT 4).contains 8 = false := rfl
theorem hb_4_39 : (hbT 4).contains 39 = true := rfl
theorem hb_4_66 : (hbT 4).contains 66 = false := rfl
theorem hb_4_76 : (hbT 4).contains 76 = false := rfl
theorem hb_4_14 : (hbT 4).contains 14 = false := rfl
theorem hb_4_16 : (hbT 4).contains 16 = false := rfl
theorem hb_4_18 : (hbT 4).contains 18 = false := rfl
theorem hb_4_20 : (hbT 4).contains 20 = false := rfl
theorem hb_5_3 : (hbT 5).contains 3 = false := rfl
theorem hb_5_4 : (hbT 5).contains 4 = false := rfl
theorem hb_5_9 : (hbT 5).contains 9 = false := rfl
theorem hb_5_10 : (hbT 5).contains 10 = false := rfl
theorem hb_5_13 : (hbT 5).contains 13 = false := rfl
theorem hb_5_56 : (hbT 5).contains 56 = false := rfl
theorem hb_5_57 : (hbT 5).contains 57 = false := rfl
theorem hb_5_15 : (hbT 5).contains 15 = false := rfl
theorem hb_5_17 : (hbT 5).contains 17 = false := rfl
theorem hb_5_21 : (hbT 5).contains 21 = false := rfl
theorem hb_6_2 : (hbT 6).contains 2 = false := rfl
theorem hb_6_3 : (hbT 6).contains 3 = false := rfl
theorem hb_6_5 : (hbT 6).contains 5 = false := rfl
theorem hb_6_6 : (hbT 6).contains 6 = false := rfl
theorem hb_6_7 : (hbT 6).contains 7 = false := rfl
theorem hb_6_8 : (hbT 6).contains 8 = false := rfl
theorem hb_7_1 : (hbT 7).contains 1 = false := rfl
theorem hb_7_2 : (hbT 7).contains 2 = false := rfl
theorem hb_7_3 : (hbT 7).contains 3 = false := rfl
theorem hb_7_4 : (hbT 7).contains 4 = false := rfl
theorem hb_7_5 : (hbT 7).contains 5 = false := rfl
theorem hb_7_6 : (hbT 7).contains 6 = false := rfl
theorem hb_7_7 : (hbT 7).contains 7 = false := rfl
theorem hb_7_9 : (hbT 7).contains 9 = false := rfl
theorem hb_7_10 : (hbT 7).contains 10 = false := rfl
theorem hb_7_11 : (hbT 7).contains 11 = false := rfl
theorem hb_7_13 : (hbT 7).contains 13 = false := rfl
theorem hb_7_124 : (hbT 7).contains 124 = false := rfl
theorem hb_7_130 : (hbT 7).contains 130 = false := rfl
theorem hb_7_137 : (hbT 7).contains 137 = false := rfl
theorem hb_7_142 : (hbT 7).contains 142 = false := rfl
theorem hb_8_1 : (hbT 8).contains 1 = false := rfl
theorem hb_8_13 : (hbT 8).contains 13 = true := rfl
theorem hb_8_8 : (hbT 8).contains 8 = false := rfl
theorem hb_8_86 : (hbT 8).contains 86 = false := rfl
theorem hb_9_1 : (hbT 9).contains 1 = false := rfl
theorem hb_9_17 : (hbT 9).contains 17 = false := rfl
theorem hb_10_1 : (hbT 10).contains 1 = false := rfl
theorem hb_10_9 : (hbT 10).contains 9 = true := rfl
theorem hb_10_28 : (hbT 10).contains 28 = false := rfl
theorem hb_11_1 : (hbT 11).contains 1 = false := rfl
theorem hb_12_3 : (hbT 12).contains 3 = false := rfl
theorem hb_12_7 : (hbT 12).contains 7 = false := rfl
theorem hb_13_1 : (hbT 13).contains 1 = false := rfl
theorem hb_13_5 : (hbT 13).contains 5 = false := rfl
theorem hb_14_1 : (hbT 14).contains 1 = false := rfl
theorem hb_14_11 : (hbT 14).contains 11 = false := rfl
theorem hb_15_2 : (hbT 15).contains 2 = true := rfl
theorem hb_15_3 : (hbT 15).contains 3 = true := rfl
theorem hb_15_7 : (hbT 15).contains 7 = true := rfl
theorem hb_16_2 : (hbT 16).contains 2 = false := rfl
theorem hb_16_7 : (hbT 16).contains 7 = false := rfl
theorem hb_16_8 : (hbT 16).contains 8 = false := rfl
theorem hb_16_12 : (hbT 16).contains 12 = false := rfl
theorem hb_17_2 : (hbT 17).contains 2 = false := rfl
theorem hb_17_16 : (hbT 17).contains 16 = true := rfl
theorem hb_18_2 : (hbT 18).contains 2 = false := rfl
theorem hb_18_8 : (hbT 18).contains 8 = false := rfl
theorem hb_19_2 : (hbT 19).contains 2 = false := rfl
theorem hb_19_3 : (hbT 19).contains 3 = false := rfl
theorem hb_19_6 : (hbT 19).contains 6 = false := rfl
theorem hb_19_7 : (hbT 19).contains 7 = false := rfl
theorem hb_19_9 : (hbT 19).contains 9 = false := rfl
theorem hb_19_10 : (hbT 19).contains 10 = false := rfl
theorem hb_20_1 : (hbT 20).contains 1 = false := rfl
theorem hb_20_2 : (hbT 20).contains 2 = false := rfl
theorem hb_20_3 : (hbT 20).contains 3 = false := rfl
theorem hb_21_1 : (hbT 21).contains 1 = false := rfl
theorem hb_21_2 : (hbT 21).contains 2 = false := rfl
theorem hb_22_23 : (hbT 22).contains 23 = false := rfl
theorem hb_23_5 : (hbT 23).contains 5 = false := rfl
theorem hb_24_1 : (hbT 24).contains 1 = false := rfl
theorem hb_24_12 : (hbT 24).contains 12 = true := rfl
theorem hb_24_29 : (hbT 24).contains 29 = false := rfl
theorem hb_24_38 : (hbT 24).contains 38 = false := rfl
theorem hb_24_50 : (hbT 24).contains 50 = false := rfl
theorem hb_24_58 : (hbT 24).contains 58 = false := rfl
theorem hb_24_61 : (hbT 24).contains 61 = false := rfl
theorem hb_25_3 : (hbT 25).contains 3 = false := rfl
theorem hb_25_5 : (hbT 25).contains 5 = false := rfl
theorem hb_26_29 : (hbT 26).contains 29 = false := rfl
theorem hb_26_32 : (hbT 26).contains 32 = false := rfl
theorem hb_27_1 : (hbT 27).contains 1 = false := rfl
theorem hb_28_1 : (hbT 28).contains 1 = false := rfl
theorem hb_28_18 : (hbT 28).contains 18 = true := rfl
theorem hb_28_36 : (hbT 28).contains 36 = false := rfl
theorem hb_28_47 : (hbT 28).contains 47 = false := rfl
theorem hb_28_61 : (hbT 28).contains 61 = false := rfl
theorem hb_28_69 : (hbT 28).contains 69 = false := rfl
theorem hb_28_77 : (hbT 28).contains 77 = false := rfl
theorem hb_28_80 : (hbT 28).contains 80 = false := rfl
theorem hb_30_1 : (hbT 30).contains 1 = false := rfl
theorem hb_32_3 : (hbT 32).contains 3 = false := rfl
theorem hb_33_1 : (hbT 33).contains 1 = false := rfl
theorem hb_34_1 : (hbT 34).contains 1 = false := rfl
theorem hb_35_1 : (hbT 35).contains 1 = false := rfl
theorem hb_35_4 : (hbT 35).contains 4 = false := rfl
theorem hb_36_1 : (hbT 36).contains 1 = false := rfl
theorem hb_37_1 : (hbT 37).contains 1 = false := rfl
theorem hb_39_3 : (hbT 39).contains 3 = false := rfl
theorem hb_40_2 : (hbT 40).contains 2 = false := rfl
theorem hb_40_3 : (hbT 40).contains 3 = false := rfl
theorem hb_40_50 : (hbT 40).contains 50 = false := rfl
theorem hb_42_4 : (hbT 42).contains 4 = false := rfl
theorem hb_43_4 : (hbT 43).contains 4 = false := rfl
theorem hb_43_8 : (hbT 43).contains 8 = false := rfl
theorem hb_44_10 : (hbT 44).contains 10 = false := rfl
theorem hb_44_14 : (hbT 44).contains 14 = false := rfl
theorem hb_44_18 : (hbT 44).contains 18 = false := rfl
theorem hb_44_70 : (hbT 44).contains 70 = false := rfl
theorem hb_44_76 : (hbT 44).contains 76 = false := rfl
theorem hb_46_2 : (hbT 46).contains 2 = false := rfl
theorem hb_46_3 : (hbT 46).contains 3 = false := rfl
theorem hb_50_1 : (hbT 50).contains 1 = false := rfl
theorem hb_51_2 : (hbT 51).contains 2 = false := rfl
theorem hb_52_2 : (hbT 52).contains 2 = false := rfl
theorem hb_53_2 : (hbT 53).contains 2 = false := rfl
theorem hb_54_2 : (hbT 54).contains 2 = false := rfl
theorem hb_59_3 : (hbT 59).contains 3 = false := rfl
theorem hb_60_2 : (hbT 60).contains 2 = false := rfl
theorem hb_60_3 : (hbT 60).contains 3 = false := rfl
theorem hb_61_2 : (hbT 61).contains 2 = false := rfl
theorem hb_61_3 : (hbT 61).contains 3 = false := rfl
theorem hb_61_4 : (hbT 61).contains 4 = false := rfl
theorem hb_61_29 : (hbT 61).contains 29 = false := rfl
theorem hb_68_4 : (hbT 68).contains 4 = false := rfl
theorem hb_68_10 : (hbT 68).contains 10 = false := rfl
theorem hb_72_2 : (hbT 72).contains 2 = false := rfl
theorem hb_72_3 : (hbT 72).contains 3 = false := rfl
theorem hb_73_5 : (hbT 73).contains 5 = false := rfl
theorem un_3_16 : unT 3 16 = some ([(2, 4), (3, 4)], [0, 5]) := rfl
theorem un_4_5 : unT 4 5 = some ([(2, 10), (8, 10), (2, 11), (8, 11)], []) := rfl
theorem un_4_6 : unT 4 6 = some ([(6, 12), (6, 15), (12, 15)], []) := rfl
theorem un_5_1 : unT 5 1 = some ([(1, 3)], []) := rfl
theorem un_7_18 : unT 7 18 = some ([(1, 2), (1, 3), (1, 6), (2, 6), (3, 6), (4, 6), (1, 7), (2, 7), (3, 7), (4, 7), (6, 7), (1, 8), (2, 8), (3, 8), (4, 8), (6, 8)], []) := rfl
theorem un_7_20 : unT 7 20 = some ([(0, 1), (1, 2)], []) := rfl
theorem un_10_9 : unT 10 9 = some ([(3, 6), (4, 6)], []) := rfl
theorem un_18_5 : unT 18 5 = some ([], []) := rfl
theorem un_20_2 : unT 20 2 = some ([(1, 3), (1, 5), (3, 5), (1, 7), (3, 7), (5, 7), (1, 9), (3, 9), (5, 9), (7, 9), (1, 11), (3, 11), (5, 11), (7, 11), (9, 11), (11, 12)], []) := rfl
theorem un_21_1 : unT 21 1 = some ([(1, 3), (1, 8), (3, 8), (1, 10), (3, 10), (8, 10)], []) := rfl
theorem un_22_3 : unT 22 3 = some ([(4, 9), (4, 10)], []) := rfl
theorem un_24_11 : unT 24 11 = some ([(2, 8), (4, 8), (5, 8), (6, 8)], []) := rfl
theorem un_34_5 : unT 34 5 = some ([(0, 2), (0, 3)], [3]) := rfl
theorem un_34_7 : unT 34 7 = some ([(0, 2), (0, 3)], [3]) := rfl
theorem un_34_9 : unT 34 9 = some ([(0, 2), (0, 3)], [3]) := rfl
theorem un_34_11 : unT 34 11 = some ([(0, 2), (0, 3)], [3]) := rfl
theorem un_40_15 : unT 40 15 = some ([(1, 3), (1, 4)], [3]) := rfl
theorem un_40_17 : unT 40 17 = some ([(3, 7)], [12]) := rfl
theorem un_60_1 : unT 60 1 = some ([(3, 7), (3, 13), (7, 13), (8, 13)], []) := rfl
theorem un_63_1 : unT 63 1 = some ([(4, 9)], []) := rfl
theorem un_63_4 : unT 63 4 = some ([(3, 7), (3, 13), (7, 13)], []) := rfl
theorem E3 (args : List AV) (h : H) : acallI (cfg w0 t) 3 args h = endR (cfg w0 t) Try.f3.results.toList h (acodeI (cfg w0 t) 3 (Try.f3.body.getD .skip) ⟨fl (args.length + (Try.f3.ntmps - args.length)) (ini args), [], h, none⟩) := callI_fl rfl Try.func3 rfl rfl
theorem E4 (args : List AV) (h : H) : acallI (cfg w0 t) 4 args h = endR (cfg w0 t) Try.f4.results.toList h (acodeI (cfg w0 t) 4 (Try.f4.body.getD .skip) ⟨fl (args.length + (Try.f4.ntmps - args.length)) (ini args), [], h, none⟩) := callI_fl rfl Try.func4 rfl rfl
theorem E5 (args : List AV) (h : H) : acallI (cfg w0 t) 5 args h = endR (cfg w0 t) Try.f5.results.toList h (acodeI (cfg w0 t) 5 (Try.f5.body.getD .skip) ⟨fl (args.length + (Try.f5.ntmps - args.length)) (ini args), [], h, none⟩) := callI_fl rfl Try.func5 rfl rfl
theorem E6 (args : List AV) (h : H) : acallI (cfg w0 t) 6 args h = endR (cfg w0 t) Try.f6.results.toList h (acodeI (cfg w0 t) 6 (Try.f6.body.getD .skip) ⟨fl (args.length + (Try.f6.ntmps - args.length)) (ini args), [], h, none⟩) := callI_fl rfl Try.func6 rfl rfl
theorem E7 (args : List AV) (h : H) : acallI (cfg w0 t) 7 args h = endR (cfg w0 t) Try.f7.results.toList h (acodeI (cfg w0 t) 7 (Try.f7.body.getD .skip) ⟨fl (args.length + (Try.f7.ntmps - args.length)) (ini args), [], h, none⟩) := callI_fl rfl Try.func7 rfl rfl
theorem E8 (args : List AV) (h : H) : acallI (cfg w0 t) 8 args h = endR (cfg w0 t) Try.f8.results.toList h (acodeI (cfg w0 t) 8 (Try.f8.body.getD .skip) ⟨fl (args.length + (Try.f8.ntmps - args.length)) (ini args), [], h, none⟩) := callI_fl rfl Try.func8 rfl rfl
theorem E9 (args : List AV) (h : H) : acallI (cfg w0 t) 9 args h = endR (cfg w0 t) Try.f9.results.toList h (acodeI (cfg w0 t) 9 (Try.f9.body.getD .skip) ⟨fl (args.length + (Try.f9.ntmps - args.length)) (ini args), [], h, none⟩) := callI_fl rfl Try.func9 rfl rfl
theorem E10 (args : List AV) (h : H) : acallI (cfg w0 t) 10 args h = endR (cfg w0 t) Try.f10.results.toList h (acodeI (cfg w0 t) 10 (Try.f10.body.getD .skip) ⟨fl (args.length + (Try.f10.ntmps - args.length)) (ini args), [], h, none⟩) := callI_fl rfl Try.func10 rfl rfl
theorem E11 (args : List AV) (h : H) : acallI (cfg w0 t) 11 args h = endR (cfg w0 t) Try.f11.results.toList h (acodeI (cfg w0 t) 11 (Try.f11.body.getD .skip) ⟨fl (args.length + (Try.f11.ntmps - args.length)) (ini args), [], h, none⟩) := callI_fl rfl Try.func11 rfl rfl
theorem E12 (args : List AV) (h : H) : acallI (cfg w0 t) 12 args h = endR (cfg w0 t) Try.f12.results.toList h (acodeI (cfg w0 t) 12 (Try.f12.body.getD .skip) ⟨fl (args.length + (Try.f12.ntmps - args.length)) (ini args), [], h, none⟩) := callI_fl rfl Try.func12 rfl rfl
theorem E13 (args : List AV) (h : H) : acallI (cfg w0 t) 13 args h = endR (cfg w0 t) Try.f13.results.toList h (acodeI (cfg w0 t) 13 (Try.f13.body.getD .skip) ⟨fl (args.length + (Try.f13.ntmps - args.length)) (ini args), [], h, none⟩) := callI_fl rfl Try.func13 rfl rfl
theorem E14 (args : List AV) (h : H) : acallI (cfg w0 t) 14 args h = endR (cfg w0 t) Try.f14.results.toList h (acodeI (cfg w0 t) 14 (Try.f14.body.getD .skip) ⟨fl (args.length + (Try.f14.ntmps - args.length)) (ini args), [], h, none⟩) := callI_fl rfl Try.func14 rfl rfl
theorem E16 (args : List AV) (h : H) : acallI (cfg w0 t) 16 args h = endR (cfg w0 t) Try.f16.results.toList h (acodeI (cfg w0 t) 16 (Try.f16.body.getD .skip) ⟨fl (args.length + (Try.f16.ntmps - args.length)) (ini args), [], h, none⟩) := callI_fl rfl Try.func16 rfl rfl
theorem E17 (args : List AV) (h : H) : acallI (cfg w0 t) 17 args h = endR (cfg w0 t) Try.f17.results.toList h (acodeI (cfg w0 t) 17 (Try.f17.body.getD .skip) ⟨fl (args.length + (Try.f17.ntmps - args.length)) (ini args), [], h, none⟩) := callI_fl rfl Try.func17 rfl rfl
theorem E18 (args : List AV) (h : H) : acallI (cfg w0 t) 18 args h = endR (cfg w0 t) Try.f18.results.toList h (acodeI (cfg w0 t) 18 (Try.f18.body.getD .skip) ⟨fl (args.length + (Try.f18.ntmps - args.length)) (ini args), [], h, none⟩) := callI_fl rfl Try.func18 rfl rfl
theorem E19 (args : List AV) (h : H) : acallI (cfg w0 t) 19 args h = endR (cfg w0 t) Try.f19.results.toList h (acodeI (cfg w0 t) 19 (Try.f19.body.getD .skip) ⟨fl (args.length + (Try.f19.ntmps - args.length)) (ini args), [], h, none⟩) := callI_fl rfl Try.func19 rfl rfl
theorem E20 (args : List AV) (h : H) : acallI (cfg w0 t) 20 args h = endR (cfg w0 t) Try.f20.results.toList h (acodeI (cfg w0 t) 20 (Try.f20.body.getD .skip) ⟨fl (args.length + (Try.f20.ntmps - args.length)) (ini args), [], h, none⟩) := callI_fl rfl Try.func20 rfl rfl
theorem E21 (args : List AV) (h : H) : acallI (cfg w0 t) 21 args h = endR (cfg w0 t) Try.f21.results.toList h (acodeI (cfg w0 t) 21 (Try.f21.body.getD .skip) ⟨fl (args.length + (Try.f21.ntmps - args.length)) (ini args), [], h, none⟩) := callI_fl rfl Try.func21 rfl rfl
theorem E22 (args : List AV) (h : H) : acallI (cfg w0 t) 22 args h = endR (cfg w0 t) Try.f22.results.toList h (acodeI (cfg w0 t) 22 (Try.f22.body.getD .skip) ⟨fl (args.length + (Try.f22.ntmps - args.length)) (ini args), [], h, none⟩) := callI_fl rfl Try.func22 rfl rfl
theorem E23 (args : List AV) (h : H) : acallI (cfg w0 t) 23 args h = endR (cfg w0 t) Try.f23.results.toList h (acodeI (cfg w0 t) 23 (Try.f23.body.getD .skip) ⟨fl (args.length + (Try.f23.ntmps - args.length)) (ini args), [], h, none⟩) := callI_fl rfl Try.func23 rfl rfl
theorem E24 (args : List AV) (h : H) : acallI (cfg w0 t) 24 args h = endR (cfg w0 t) Try.f24.results.toList h (acodeI (cfg w0 t) 24 (Try.f24.body.getD .skip) ⟨fl (args.length + (Try.f24.ntmps - args.length)) (ini args), [], h, none⟩) := callI_fl rfl Try.func24 rfl rfl
theorem E25 (args : List AV) (h : H) : acallI (cfg w0 t) 25 args h = endR (cfg w0 t) Try.f25.results.toList h (acodeI (cfg w0 t) 25 (Try.f25.body.getD .skip) ⟨fl (args.length + (Try.f25.ntmps - args.length)) (ini args), [], h, none⟩) := callI_fl rfl Try.func25 rfl rfl
theorem E26 (args : List AV) (h : H) : acallI (cfg w0 t) 26 args h = endR (cfg w0 t) Try.f26.results.toList h (acodeI (cfg w0 t) 26 (Try.f26.body.getD .skip) ⟨fl (args.length + (Try.f26.ntmps - args.length)) (ini args), [], h, none⟩) := callI_fl rfl Try.func26 rfl rfl
theorem E27 (args : List AV) (h : H) : acallI (cfg w0 t) 27 args h = endR (cfg w0 t) Try.f27.results.toList h (acodeI (cfg w0 t) 27 (Try.f27.body.getD .skip) ⟨fl (args.length + (Try.f27.ntmps - args.length)) (ini args), [], h, none⟩) := callI_fl rfl Try.func27 rfl rfl
theorem E28 (args : List AV) (h : H) : acallI (cfg w0 t) 28 args h = endR (cfg w0 t) Try.f28.results.toList h (acodeI (cfg w0 t) 28 (Try.f28.body.getD .skip) ⟨fl (args.length + (Try.f28.ntmps - args.length)) (ini args), [], h, none⟩) := callI_fl rfl Try.func28 rfl rfl
theorem E29 (args : List AV) (h : H) : acallI (cfg w0 t) 29 args h = endR (cfg w0 t) Try.f29.results.toList h (acodeI (cfg w0 t) 29 (Try.f29.body.getD .skip) ⟨fl (args.length + (Try.f29.ntmps - args.length)) (ini args), [], h, none⟩) := callI_fl rfl Try.func29 rfl rfl
theorem E30 (args : List AV) (h : H) : acallI (cfg w0 t) 30 args h = endR (cfg w0 t) Try.f30.results.toList h (acodeI (cfg w0 t) 30 (Try.f30.body.getD .skip) ⟨fl (args.length + (Try.f30.ntmps - args.length)) (ini args), [], h, none⟩) := callI_fl rfl Try.func30 rfl rfl
theorem E31 (args : List AV) (h : H) : acallI (cfg w0 t) 31 args h = endR (cfg w0 t) Try.f31.results.toList h (acodeI (cfg w0 t) 31 (Try.f31.body.getD .skip) ⟨fl (args.length + (Try.f31.ntmps - args.length)) (ini args), [], h, none⟩) := callI_fl rfl Try.func31 rfl rfl
theorem E32 (args : List AV) (h : H) : acallI (cfg w0 t) 32 args h = endR (cfg w0 t) Try.f32.results.toList h (acodeI (cfg w0 t) 32 (Try.f32.body.getD .skip) ⟨fl (args.length + (Try.f32.ntmps - args.length)) (ini args), [], h, none⟩) := callI_fl rfl Try.func32 rfl rfl
theorem E33 (args : List AV) (h : H) : acallI (cfg w0 t) 33 args h = endR (cfg w0 t) Try.f33.results.toList h (acodeI (cfg w0 t) 33 (Try.f33.body.getD .skip) ⟨fl (args.length + (Try.f33.ntmps - args.length)) (ini args), [], h, none⟩) := callI_fl rfl Try.func33 rfl rfl
theorem E34 (args : List AV) (h : H) : acallI (cfg w0 t) 34 args h = endR (cfg w0 t) Try.f34.results.toList h (acodeI (cfg w0 t) 34 (Try.f34.body.getD .skip) ⟨fl (args.length + (Try.f34.ntmps - args.length)) (ini args), [], h, none⟩) := callI_fl rfl Try.func34 rfl rfl
theorem E35 (args : List AV) (h : H) : acallI (cfg w0 t) 35 args h = endR (cfg w0 t) Try.f35.results.toList h (acodeI (cfg w0 t) 35 (Try.f35.body.getD .skip) ⟨fl (args.length + (Try.f35.ntmps - args.length)) (ini args), [], h, none⟩) := callI_fl rfl Try.func35 rfl rfl
theorem E36 (args : List AV) (h : H) : acallI (cfg w0 t) 36 args h = endR (cfg w0 t) Try.f36.results.toList h (acodeI (cfg w0 t) 36 (Try.f36.body.getD .skip) ⟨fl (args.length + (Try.f36.ntmps - args.length)) (ini args), [], h, none⟩) := callI_fl rfl Try.func36 rfl rfl
theorem E37 (args : List AV) (h : H) : acallI (cfg w0 t) 37 args h = endR (cfg w0 t) Try.f37.results.toList h (acodeI (cfg w0 t) 37 (Try.f37.body.getD .skip) ⟨fl (args.length + (Try.f37.ntmps - args.length)) (ini args), [], h, none⟩) := callI_fl rfl Try.func37 rfl rfl
theorem E38 (args : List AV) (h : H) : acallI (cfg w0 t) 38 args h = endR (cfg w0 t) Try.f38.results.toList h (acodeI (cfg w0 t) 38 (Try.f38.body.getD .skip) ⟨fl (args.length + (Try.f38.ntmps - args.length)) (ini args), [], h, none⟩) := callI_fl rfl Try.func38 rfl rfl
theorem E39 (args : List AV) (h : H) : acallI (cfg w0 t) 39 args h = endR (cfg w0 t) Try.f39.results.toList h (acodeI (cfg w0 t) 39 (Try.f39.body.getD .skip) ⟨fl (args.length + (Try.f39.ntmps - args.length)) (ini args), [], h, none⟩) := callI_fl rfl Try.func39 rfl rfl
theorem E40 (args : List AV) (h : H) : acallI (cfg w0 t) 40 args h = endR (cfg w0 t) Try.f40.results.toList h (acodeI (cfg w0 t) 40 (Try.f40.body.getD .skip) ⟨fl (args.length + (Try.f40.ntmps - args.length)) (ini args), [], h, none⟩) := callI_fl rfl Try.func40 rfl rfl
theorem E41 (args : List AV) (h : H) : acallI (cfg w0 t) 41 args h = endR (cfg w0 t) Try.f41.results.toList h (acodeI (cfg w0 t) 41 (Try.f41.body.getD .skip) ⟨fl (args.length + (Try.f41.ntmps - args.length)) (ini args), [], h, none⟩) := callI_fl rfl Try.func41 rfl rfl
theorem E42 (args : List AV) (h : H) : acallI (cfg w0 t) 42 args h = endR (cfg w0 t) Try.f42.results.toList h (acodeI (cfg w0 t) 42 (Try.f42.body.getD .skip) ⟨fl (args.length + (Try.f42.ntmps - args.length)) (ini args), [], h, none⟩) := callI_fl rfl Try.func42 rfl rfl
theorem E43 (args : List AV) (h : H) : acallI (cfg w0 t) 43 args h = endR (cfg w0 t) Try.f43.results.toList h (acodeI (cfg w0 t) 43 (Try.f43.body.getD .skip) ⟨fl (args.length + (Try.f43.ntmps - args.length)) (ini args), [], h, none⟩) := callI_fl rfl Try.func43 rfl rfl
theorem E44 (args : List AV) (h : H) : acallI (cfg w0 t) 44 args h = endR (cfg w0 t) Try.f44.results.toList h (acodeI (cfg w0 t) 44 (Try.f44.body.getD .skip) ⟨fl (args.length + (Try.f44.ntmps - args.length)) (ini args), [], h, none⟩) := callI_fl rfl Try.func44 rfl rfl
theorem E45 (args : List AV) (h : H) : acallI (cfg w0 t) 45 args h = endR (cfg w0 t) Try.f45.results.toList h (acodeI (cfg w0 t) 45 (Try.f45.body.getD .skip) ⟨fl (args.length + (Try.f45.ntmps - args.length)) (ini args), [], h, none⟩) := callI_fl rfl Try.func45 rfl rfl
theorem E46 (args : List AV) (h : H) : acallI (cfg w0 t) 46 args h = endR (cfg w0 t) Try.f46.results.toList h (acodeI (cfg w0 t) 46 (Try.f46.body.getD .skip) ⟨fl (args.length + (Try.f46.ntmps - args.length)) (ini args), [], h, none⟩) := callI_fl rfl Try.func46 rfl rfl
theorem E47 (args : List AV) (h : H) : acallI (cfg w0 t) 47 args h = endR (cfg w0 t) Try.f47.results.toList h (acodeI (cfg w0 t) 47 (Try.f47.body.getD .skip) ⟨fl (args.length + (Try.f47.ntmps - args.length)) (ini args), [], h, none⟩) := callI_fl rfl Try.func47 rfl rfl
theorem E48 (args : List AV) (h : H) : acallI (cfg w0 t) 48 args h = endR (cfg w0 t) Try.f48.results.toList h (acodeI (cfg w0 t) 48 (Try.f48.body.getD .skip) ⟨fl (args.length + (Try.f48.ntmps - args.length)) (ini args), [], h, none⟩) := callI_fl rfl Try.func48 rfl rfl
theorem E49 (args : List AV) (h : H) : acallI (cfg w0 t) 49 args h = endR (cfg w0 t) Try.f49.results.toList h (acodeI (cfg w0 t) 49 (Try.f49.body.getD .skip) ⟨fl (args.length + (Try.f49.ntmps - args.length)) (ini args), [], h, none⟩) := callI_fl rfl Try.func49 rfl rfl
theorem E50 (args : List AV) (h : H) : acallI (cfg w0 t) 50 args h = endR (cfg w0 t) Try.f50.results.toList h (acodeI (cfg w0 t) 50 (Try.f50.body.getD .skip) ⟨fl (args.length + (Try.f50.ntmps - args.length)) (ini args), [], h, none⟩) := callI_fl rfl Try.func50 rfl rfl
theorem E51 (args : List AV) (h : H) : acallI (cfg w0 t) 51 args h = endR (cfg w0 t) Try.f51.results.toList h (acodeI (cfg w0 t) 51 (Try.f51.body.getD .skip) ⟨fl (args.length + (Try.f51.ntmps - args.length)) (ini args), [], h, none⟩) := callI_fl rfl Try.func51 rfl rfl
theorem E52 (args : List AV) (h : H) : acallI (cfg w0 t) 52 args h = endR (cfg w0 t) Try.f52.results.toList h (acodeI (cfg w0 t) 52 (Try.f52.body.getD .skip) ⟨fl (args.length + (Try.f52.ntmps - args.length)) (ini args), [], h, none⟩) := callI_fl rfl Try.func52 rfl rfl
theorem E53 (args : List AV) (h : H) : acallI (cfg w0 t) 53 args h = endR (cfg w0 t) Try.f53.results.toList h (acodeI (cfg w0 t) 53 (Try.f53.body.getD .skip) ⟨fl (args.length + (Try.f53.ntmps - args.length)) (ini args), [], h, none⟩) := callI_fl rfl Try.func53 rfl rfl
theorem E54 (args : List AV) (h : H) : acallI (cfg w0 t) 54 args h = endR (cfg w0 t) Try.f54.results.toList h (acodeI (cfg w0 t) 54 (Try.f54.body.getD .skip) ⟨fl (args.length + (Try.f54.ntmps - args.length)) (ini args), [], h, none⟩) := callI_fl rfl Try.func54 rfl rfl
theorem E55 (args : List AV) (h : H) : acallI (cfg w0 t) 55 args h = endR (cfg w0 t) Try.f55.results.toList h (acodeI (cfg w0 t) 55 (Try.f55.body.getD .skip) ⟨fl (args.length + (Try.f55.ntmps - args.length)) (ini args), [], h, none⟩) := callI_fl rfl Try.func55 rfl rfl
theorem E56 (args : List AV) (h : H) : acallI (cfg w0 t) 56 args h = endR (cfg w0 t) Try.f56.results.toList h (acodeI (cfg w0 t) 56 (Try.f56.body.getD .skip) ⟨fl (args.length + (Try.f56.ntmps - args.length)) (ini args), [], h, none⟩) := callI_fl rfl Try.func56 rfl rfl
theorem E57 (args : List AV) (h : H) : acallI (cfg w0 t) 57 args h = endR (cfg w0 t) Try.f57.results.toList h (acodeI (cfg w0 t) 57 (Try.f57.body.getD .skip) ⟨fl (args.length + (Try.f57.ntmps - args.length)) (ini args), [], h, none⟩) := callI_fl rfl Try.func57 rfl rfl
theorem E58 (args : List AV) (h : H) : acallI (cfg w0 t) 58 args h = endR (cfg w0 t) Try.f58.results.toList h (acodeI (cfg w0 t) 58 (Try.f58.body.getD .skip) ⟨fl (args.length + (Try.f58.ntmps - args.length)) (ini args), [], h, none⟩) := callI_fl rfl Try.func58 rfl rfl
theorem E59 (args : List AV) (h : H) : acallI (cfg w0 t) 59 args h = endR (cfg w0 t) Try.f59.results.toList h (acodeI (cfg w0 t) 59 (Try.f59.body.getD .skip) ⟨fl (args.length + (Try.f59.ntmps - args.length)) (ini args), [], h, none⟩) := callI_fl rfl Try.func59 rfl rfl
theorem E60 (args : List AV) (h : H) : acallI (cfg w0 t) 60 args h = endR (cfg w0 t) Try.f60.results.toList h (acodeI (cfg w0 t) 60 (Try.f60.body.getD .skip) ⟨fl (args.length + (Try.f60.ntmps - args.length)) (ini args), [], h, none⟩) := callI_fl rfl Try.func60 rfl rfl
theorem E61 (args : List AV) (h : H) : acallI (cfg w0 t) 61 args h = endR (cfg w0 t) Try.f61.results.toList h (acodeI (cfg w0 t) 61 (Try.f61.body.getD .skip) ⟨fl (args.length + (Try.f61.ntmps - args.length)) (ini args), [], h, none⟩) := callI_fl rfl Try.func61 rfl rfl
theorem E62 (args : List AV) (h : H) : acallI (cfg w0 t) 62 args h = endR (cfg w0 t) Try.f62.results.toList h (acodeI (cfg w0 t) 62 (Try.f62.body.getD .skip) ⟨fl (args.length + (Try.f62.ntmps - args.length)) (ini args), [], h, none⟩) := callI_fl rfl Try.func62 rfl rfl
theorem E63 (args : List AV) (h : H) : acallI (cfg w0 t) 63 args h = endR (cfg w0 t) Try.f63.results.toList h (acodeI (cfg w0 t) 63 (Try.f63.body.getD .skip) ⟨fl (args.length + (Try.f63.ntmps - args.length)) (ini args), [], h, none⟩) := callI_fl rfl Try.func63 rfl rfl
theorem E64 (args : List AV) (h : H) : acallI (cfg w0 t) 64 args h = endR (cfg w0 t) Try.f64.results.toList h (acodeI (cfg w0 t) 64 (Try.f64.body.getD .skip) ⟨fl (args.length + (Try.f64.ntmps - args.length)) (ini args), [], h, none⟩) := callI_fl rfl Try.func64 rfl rfl
theorem E65 (args : List AV) (h : H) : acallI (cfg w0 t) 65 args h = endR (cfg w0 t) Try.f65.results.toList h (acodeI (cfg w0 t) 65 (Try.f65.body.getD .skip) ⟨fl (args.length + (Try.f65.ntmps - args.length)) (ini args), [], h, none⟩) := callI_fl rfl Try.func65 rfl rfl
theorem E66 (args : List AV) (h : H) : acallI (cfg w0 t) 66 args h = endR (cfg w0 t) Try.f66.results.toList h (acodeI (cfg w0 t) 66 (Try.f66.body.getD .skip) ⟨fl (args.length + (Try.f66.ntmps - args.length)) (ini args), [], h, none⟩) := callI_fl rfl Try.func66 rfl rfl
theorem E67 (args : List AV) (h : H) : acallI (cfg w0 t) 67 args h = endR (cfg w0 t) Try.f67.results.toList h (acodeI (cfg w0 t) 67 (Try.f67.body.getD .skip) ⟨fl (args.length + (Try.f67.ntmps - args.length)) (ini args), [], h, none⟩) := callI_fl rfl Try.func67 rfl rfl
theorem E68 (args : List AV) (h : H) : acallI (cfg w0 t) 68 args h = endR (cfg w0 t) Try.f68.results.toList h (acodeI (cfg w0 t) 68 (Try.f68.body.getD .skip) ⟨fl (args.length + (Try.f68.ntmps - args.length)) (ini args), [], h, none⟩) := callI_fl rfl Try.func68 rfl rfl
theorem E69 (args : List AV) (h : H) : acallI (cfg w0 t) 69 args h = endR (cfg w0 t) Try.f69.results.toList h (acodeI (cfg w0 t) 69 (Try.f69.body.getD .skip) ⟨fl (args.length + (Try.f69.ntmps - args.length)) (ini args), [], h, none⟩) := callI_fl rfl Try.func69 rfl rfl
theorem E70 (args : List AV) (h : H) : acallI (cfg w0 t) 70 args h = endR (cfg w0 t) Try.f70.results.toList h (acodeI (cfg w0 t) 70 (Try.f70.body.getD .skip) ⟨fl (args.length + (Try.f70.ntmps - args.length)) (ini args), [], h, none⟩) := callI_fl rfl Try.func70 rfl rfl
theorem E71 (args : List AV) (h : H) : acallI (cfg w0 t) 71 args h = endR (cfg w0 t) Try.f71.results.toList h (acodeI (cfg w0 t) 71 (Try.f71.body.getD .skip) ⟨fl (args.length + (Try.f71.ntmps - args.length)) (ini args), [], h, none⟩) := callI_fl rfl Try.func71 rfl rfl
theorem E72 (args : List AV) (h : H) : acallI (cfg w0 t) 72 args h = endR (cfg w0 t) Try.f72.results.toList h (acodeI (cfg w0 t) 72 (Try.f72.body.getD .skip) ⟨fl (args.length + (Try.f72.ntmps - args.length)) (ini args), [], h, none⟩) := callI_fl rfl Try.func72 rfl rfl
theorem E73 (args : List AV) (h : H) : acallI (cfg w0 t) 73 args h = endR (cfg w0 t) Try.f73.results.toList h (acodeI (cfg w0 t) 73 (Try.f73.body.getD .skip) ⟨fl (args.length + (Try.f73.ntmps - args.length)) (ini args), [], h, none⟩) := callI_fl rfl Try.func73 rfl rfl
theorem E74 (args : List AV) (h : H) : acallI (cfg w0 t) 74 args h = endR (cfg w0 t) Try.f74.results.toList h (acodeI (cfg w0 t) 74 (Try.f74.body.getD .skip) ⟨fl (args.length + (Try.f74.ntmps - args.length)) (ini args), [], h, none⟩) := callI_fl rfl Try.func74 rfl rfl
end
theorem sizeT_0 : sizeT Try.prog 0 = some 1 := by kernel_rfl
theorem shapeT_0 : shapeT Try.prog 0 = some (1, false) := by kernel_rfl
theorem sizeT_1 : sizeT Try.prog 1 = some 1 := by kernel_rfl
theorem shapeT_1 : shapeT Try.prog 1 = some (1, false) := by kernel_rfl
theorem sizeT_2 : sizeT Try.prog 2 = some 1 := by kernel_rfl
theorem shapeT_2 : shapeT Try.prog 2 = some (1, false) := by kernel_rfl
theorem zeroT_2 : zeroT Try.prog 2 = some (.int .i64 0) := by kernel_rfl
theorem sizeT_3 : sizeT Try.prog 3 = some 1 := by kernel_rfl
theorem shapeT_3 : shapeT Try.prog 3 = some (1, false) := by kernel_rfl
theorem zeroT_3 : zeroT Try.prog 3 = some (.int .i64 0) := by kernel_rfl
theorem sizeT_4 : sizeT Try.prog 4 = some 1 := by kernel_rfl
theorem shapeT_4 : shapeT Try.prog 4 = some (1, false) := by kernel_rfl
theorem zeroT_4 : zeroT Try.prog 4 = some (.bool false) := by kernel_rfl
theorem sizeT_5 : sizeT Try.prog 5 = some 1 := by kernel_rfl
theorem shapeT_5 : shapeT Try.prog 5 = some (1, false) := by kernel_rfl
theorem zeroT_5 : zeroT Try.prog 5 = some (.int .u8 0) := by kernel_rfl
theorem sizeT_6 : sizeT Try.prog 6 = some 1 := by kernel_rfl
theorem shapeT_6 : shapeT Try.prog 6 = some (1, false) := by kernel_rfl
theorem zeroT_6 : zeroT Try.prog 6 = some (.int .u8 0) := by kernel_rfl
theorem sizeT_7 : sizeT Try.prog 7 = some 4 := by kernel_rfl
theorem shapeT_7 : shapeT Try.prog 7 = some (4, true) := by kernel_rfl
theorem fieldOff_7_0 : fieldOff Try.prog 7 0 = some 0 := by kernel_rfl
theorem fieldOff_7_1 : fieldOff Try.prog 7 1 = some 1 := by kernel_rfl
theorem fieldOff_7_2 : fieldOff Try.prog 7 2 = some 2 := by kernel_rfl
theorem fieldOff_7_3 : fieldOff Try.prog 7 3 = some 3 := by kernel_rfl
theorem placesOf_7 : placesOf Try.prog 7 = some [(0, 1), (1, 1), (2, 1), (3, 1)] := by kernel_rfl
theorem zeroT_7 : zeroT Try.prog 7 = some (.agg #[(.int .i64 0), (.int .i64 0), (.bool false), (.int .u8 0)]) := by kernel_rfl
theorem sizeT_8 : sizeT Try.prog 8 = some 4 := by kernel_rfl
theorem shapeT_8 : shapeT Try.prog 8 = some (4, true) := by kernel_rfl
theorem fieldOff_8_0 : fieldOff Try.prog 8 0 = some 0 := by kernel_rfl
theorem fieldOff_8_1 : fieldOff Try.prog 8 1 = some 1 := by kernel_rfl
theorem fieldOff_8_2 : fieldOff Try.prog 8 2 = some 2 := by kernel_rfl
theorem fieldOff_8_3 : fieldOff Try.prog 8 3 = some 3 := by kernel_rfl
theorem placesOf_8 : placesOf Try.prog 8 = some [(0, 1), (1, 1), (2, 1), (3, 1)] := by kernel_rfl
theorem zeroT_8 : zeroT Try.prog 8 = some (.agg #[(.int .i64 0), (.int .i64 0), (.bool false), (.int .u8 0)]) := by kernel_rfl
theorem sizeT_9 : sizeT Try.prog 9 = some 1 := by kernel_rfl
theorem shapeT_9 : shapeT Try.prog 9 = some (1, false) := by kernel_rfl
theorem zeroT_9 : zeroT Try.prog 9 = some (.string ByteArray.empty) := by kernel_rfl
theorem sizeT_10 : sizeT Try.prog 10 = some 1 := by kernel_rfl
theorem shapeT_10 : shapeT Try.prog 10 = some (1, false) := by kernel_rfl
theorem zeroT_10 : zeroT Try.prog 10 = some (.string ByteArray.empty) := by kernel_rfl
theorem sizeT_11 : sizeT Try.prog 11 = some 1 := by kernel_rfl
theorem shapeT_11 : shapeT Try.prog 11 = some (1, false) := by kernel_rfl
theorem zeroT_11 : zeroT Try.prog 11 = some (.string ByteArray.empty) := by kernel_rfl
theorem sizeT_12 : sizeT Try.prog 12 = some 1 := by kernel_rfl
theorem shapeT_12 : shapeT Try.prog 12 = some (1, false) := by kernel_rfl
theorem zeroT_12 : zeroT Try.prog 12 = some (.int .u64 0) := by kernel_rfl
theorem sizeT_13 : sizeT Try.prog 13 = some 2 := by kernel_rfl
theorem shapeT_13 : shapeT Try.prog 13 = some (2, true) := by kernel_rfl
theorem fieldOff_13_0 : fieldOff Try.prog 13 0 = some 0 := by kernel_rfl
theorem fieldOff_13_1 : fieldOff Try.prog 13 1 = some 1 := by kernel_rfl
theorem placesOf_13 : placesOf Try.prog 13 = some [(0, 1), (1, 1)] := by kernel_rfl
theorem zeroT_13 : zeroT Try.prog 13 = some (.agg #[(.string ByteArray.empty), (.int .u64 0)]) := by kernel_rfl
theorem sizeT_14 : sizeT Try.prog 14 = some 2 := by kernel_rfl
theorem shapeT_14 : shapeT Try.prog 14 = some (2, true) := by kernel_rfl
theorem fieldOff_14_0 : fieldOff Try.prog 14 0 = some 0 := by kernel_rfl
theorem fieldOff_14_1 : fieldOff Try.prog 14 1 = some 1 := by kernel_rfl
theorem placesOf_14 : placesOf Try.prog 14 = some [(0, 1), (1, 1)] := by kernel_rfl
theorem zeroT_14 : zeroT Try.prog 14 = some (.agg #[(.string ByteArray.empty), (.int .u64 0)]) := by kernel_rfl
theorem sizeT_15 : sizeT Try.prog 15 = some 1 := by kernel_rfl
theorem shapeT_15 : shapeT Try.prog 15 = some (1, false) := by kernel_rfl
theorem zeroT_15 : zeroT Try.prog 15 = some (.pointer none) := by kernel_rfl
theorem sizeT_16 : sizeT Try.prog 16 = some 1 := by kernel_rfl
theorem shapeT_16 : shapeT Try.prog 16 = some (1, false) := by kernel_rfl
theorem zeroT_16 : zeroT Try.prog 16 = some (.pointer none) := by kernel_rfl
theorem sizeT_17 : sizeT Try.prog 17 = some 1 := by kernel_rfl
theorem shapeT_17 : shapeT Try.prog 17 = some (1, false) := by kernel_rfl
theorem zeroT_17 : zeroT Try.prog 17 = some (.pointer none) := by kernel_rfl
theorem sizeT_18 : sizeT Try.prog 18 = some 1 := by kernel_rfl
theorem shapeT_18 : shapeT Try.prog 18 = some (1, true) := by kernel_rfl
theorem fieldOff_18_0 : fieldOff Try.prog 18 0 = some 0 := by kernel_rfl
theorem placesOf_18 : placesOf Try.prog 18 = some [(0, 1)] := by kernel_rfl
theorem zeroT_18 : zeroT Try.prog 18 = some (.agg #[(.pointer none)]) := by kernel_rfl
theorem sizeT_19 : sizeT Try.prog 19 = some 1 := by kernel_rfl
theorem shapeT_19 : shapeT Try.prog 19 = some (1, true) := by kernel_rfl
theorem fieldOff_19_0 : fieldOff Try.prog 19 0 = some 0 := by kernel_rfl
theorem placesOf_19 : placesOf Try.prog 19 = some [(0, 1)] := by kernel_rfl
theorem zeroT_19 : zeroT Try.prog 19 = some (.agg #[(.pointer none)]) := by kernel_rfl
theorem sizeT_20 : sizeT Try.prog 20 = some 1 := by kernel_rfl
theorem shapeT_20 : shapeT Try.prog 20 = some (1, false) := by kernel_rfl
theorem zeroT_20 : zeroT Try.prog 20 = some .nilIface := by kernel_rfl
theorem sizeT_21 : sizeT Try.prog 21 = some 1 := by kernel_rfl
theorem shapeT_21 : shapeT Try.prog 21 = some (1, false) := by kernel_rfl
theorem zeroT_21 : zeroT Try.prog 21 = some (.int .i32 0) := by kernel_rfl
theorem sizeT_22 : sizeT Try.prog 22 = some 4 := by kernel_rfl
theorem shapeT_22 : shapeT Try.prog 22 = some (4, true) := by kernel_rfl
theorem fieldOff_22_0 : fieldOff Try.prog 22 0 = some 0 := by kernel_rfl
theorem fieldOff_22_1 : fieldOff Try.prog 22 1 = some 1 := by kernel_rfl
theorem fieldOff_22_2 : fieldOff Try.prog 22 2 = some 2 := by kernel_rfl
theorem fieldOff_22_3 : fieldOff Try.prog 22 3 = some 3 := by kernel_rfl
theorem placesOf_22 : placesOf Try.prog 22 = some [(0, 1), (1, 1), (2, 1), (3, 1)] := by kernel_rfl
theorem zeroT_22 : zeroT Try.prog 22 = some (.agg #[(.string ByteArray.empty), (.string ByteArray.empty), (.int .i64 0), (.int .i64 0)]) := by kernel_rfl
theorem sizeT_23 : sizeT Try.prog 23 = some 4 := by kernel_rfl
theorem shapeT_23 : shapeT Try.prog 23 = some (4, true) := by kernel_rfl
theorem fieldOff_23_0 : fieldOff Try.prog 23 0 = some 0 := by kernel_rfl
theorem fieldOff_23_1 : fieldOff Try.prog 23 1 = some 1 := by kernel_rfl
theorem fieldOff_23_2 : fieldOff Try.prog 23 2 = some 2 := by kernel_rfl
theorem fieldOff_23_3 : fieldOff Try.prog 23 3 = some 3 := by kernel_rfl
theorem placesOf_23 : placesOf Try.prog 23 = some [(0, 1), (1, 1), (2, 1), (3, 1)] := by kernel_rfl
theorem zeroT_23 : zeroT Try.prog 23 = some (.agg #[(.string ByteArray.empty), (.string ByteArray.empty), (.int .i64 0), (.int .i64 0)]) := by kernel_rfl
theorem sizeT_24 : sizeT Try.prog 24 = some 5 := by kernel_rfl
theorem shapeT_24 : shapeT Try.prog 24 = some (5, true) := by kernel_rfl
theorem fieldOff_24_0 : fieldOff Try.prog 24 0 = some 0 := by kernel_rfl
theorem fieldOff_24_1 : fieldOff Try.prog 24 1 = some 1 := by kernel_rfl
theorem fieldOff_24_2 : fieldOff Try.prog 24 2 = some 2 := by kernel_rfl
theorem fieldOff_24_3 : fieldOff Try.prog 24 3 = some 3 := by kernel_rfl
theorem fieldOff_24_4 : fieldOff Try.prog 24 4 = some 4 := by kernel_rfl
theorem placesOf_24 : placesOf Try.prog 24 = some [(0, 1), (1, 1), (2, 1), (3, 1), (4, 1)] := by kernel_rfl
theorem zeroT_24 : zeroT Try.prog 24 = some (.agg #[(.int .i64 0), (.int .i64 0), (.string ByteArray.empty), (.bool false), (.int .i64 0)]) := by kernel_rfl
theorem sizeT_25 : sizeT Try.prog 25 = some 5 := by kernel_rfl
theorem shapeT_25 : shapeT Try.prog 25 = some (5, true) := by kernel_rfl
theorem fieldOff_25_0 : fieldOff Try.prog 25 0 = some 0 := by kernel_rfl
theorem fieldOff_25_1 : fieldOff Try.prog 25 1 = some 1 := by kernel_rfl
theorem fieldOff_25_2 : fieldOff Try.prog 25 2 = some 2 := by kernel_rfl
theorem fieldOff_25_3 : fieldOff Try.prog 25 3 = some 3 := by kernel_rfl
theorem fieldOff_25_4 : fieldOff Try.prog 25 4 = some 4 := by kernel_rfl
theorem placesOf_25 : placesOf Try.prog 25 = some [(0, 1), (1, 1), (2, 1), (3, 1), (4, 1)] := by kernel_rfl
theorem zeroT_25 : zeroT Try.prog 25 = some (.agg #[(.int .i64 0), (.int .i64 0), (.string ByteArray.empty), (.bool false), (.int .i64 0)]) := by kernel_rfl
theorem sizeT_26 : sizeT Try.prog 26 = some 1 := by kernel_rfl
theorem shapeT_26 : shapeT Try.prog 26 = some (1, false) := by kernel_rfl
theorem elemSize_26 : elemSize Try.prog 26 = some (82, 5) := by kernel_rfl
theorem zeroT_26 : zeroT Try.prog 26 = some (.slice none 0 0) := by kernel_rfl
theorem sizeT_27 : sizeT Try.prog 27 = some 13 := by kernel_rfl
theorem shapeT_27 : shapeT Try.prog 27 = some (13, true) := by kernel_rfl
theorem fieldOff_27_0 : fieldOff Try.prog 27 0 = some 0 := by kernel_rfl
theorem fieldOff_27_1 : fieldOff Try.prog 27 1 = some 1 := by kernel_rfl
theorem fieldOff_27_2 : fieldOff Try.prog 27 2 = some 2 := by kernel_rfl
theorem fieldOff_27_3 : fieldOff Try.prog 27 3 = some 3 := by kernel_rfl
theorem fieldOff_27_4 : fieldOff Try.prog 27 4 = some 7 := by kernel_rfl
theorem fieldOff_27_5 : fieldOff Try.prog 27 5 = some 12 := by kernel_rfl
theorem placesOf_27 : placesOf Try.prog 27 = some [(0, 1), (1, 1), (2, 1), (3, 4), (7, 5), (12, 1)] := by kernel_rfl
theorem zeroT_27 : zeroT Try.prog 27 = some (.agg #[(.int .i64 0), (.int .i64 0), (.int .i64 0), (.string ByteArray.empty), (.string ByteArray.empty), (.int .i64 0), (.int .i64 0), (.int .i64 0), (.int .i64 0), (.string ByteArray.empty), (.bool false), (.int .i64 0), (.slice none 0 0)]) := by kernel_rfl
theorem sizeT_28 : sizeT Try.prog 28 = some 13 := by kernel_rfl
theorem shapeT_28 : shapeT Try.prog 28 = some (13, true) := by kernel_rfl
theorem fieldOff_28_0 : fieldOff Try.prog 28 0 = some 0 := by kernel_rfl
theorem fieldOff_28_1 : fieldOff Try.prog 28 1 = some 1 := by kernel_rfl
theorem fieldOff_28_2 : fieldOff Try.prog 28 2 = some 2 := by kernel_rfl
theorem fieldOff_28_3 : fieldOff Try.prog 28 3 = some 3 := by kernel_rfl
theorem fieldOff_28_4 : fieldOff Try.prog 28 4 = some 7 := by kernel_rfl
theorem fieldOff_28_5 : fieldOff Try.prog 28 5 = some 12 := by kernel_rfl
theorem placesOf_28 : placesOf Try.prog 28 = some [(0, 1), (1, 1), (2, 1), (3, 4), (7, 5), (12, 1)] := by kernel_rfl
theorem zeroT_28 : zeroT Try.prog 28 = some (.agg #[(.int .i64 0), (.int .i64 0), (.int .i64 0), (.string ByteArray.empty), (.string ByteArray.empty), (.int .i64 0), (.int .i64 0), (.int .i64 0), (.int .i64 0), (.string ByteArray.empty), (.bool false), (.int .i64 0), (.slice none 0 0)]) := by kernel_rfl
theorem sizeT_29 : sizeT Try.prog 29 = some 1 := by kernel_rfl
theorem shapeT_29 : shapeT Try.prog 29 = some (1, false) := by kernel_rfl
theorem zeroT_29 : zeroT Try.prog 29 = some (.int .i64 0) := by kernel_rfl
theorem sizeT_30 : sizeT Try.prog 30 = some 2 := by kernel_rfl
theorem shapeT_30 : shapeT Try.prog 30 = some (2, true) := by kernel_rfl
theorem fieldOff_30_0 : fieldOff Try.prog 30 0 = some 0 := by kernel_rfl
theorem fieldOff_30_1 : fieldOff Try.prog 30 1 = some 1 := by kernel_rfl
theorem placesOf_30 : placesOf Try.prog 30 = some [(0, 1), (1, 1)] := by kernel_rfl
theorem zeroT_30 : zeroT Try.prog 30 = some (.agg #[(.int .i64 0), (.int .i64 0)]) := by kernel_rfl
theorem sizeT_31 : sizeT Try.prog 31 = some 2 := by kernel_rfl
theorem shapeT_31 : shapeT Try.prog 31 = some (2, true) := by kernel_rfl
theorem fieldOff_31_0 : fieldOff Try.prog 31 0 = some 0 := by kernel_rfl
theorem fieldOff_31_1 : fieldOff Try.prog 31 1 = some 1 := by kernel_rfl
theorem placesOf_31 : placesOf Try.prog 31 = some [(0, 1), (1, 1)] := by kernel_rfl
theorem zeroT_31 : zeroT Try.prog 31 = some (.agg #[(.int .i64 0), (.int .i64 0)]) := by kernel_rfl
theorem sizeT_32 : sizeT Try.prog 32 = some 1 := by kernel_rfl
theorem shapeT_32 : shapeT Try.prog 32 = some (1, false) := by kernel_rfl
theorem zeroT_32 : zeroT Try.prog 32 = some (.int .i64 0) := by kernel_rfl
theorem sizeT_33 : sizeT Try.prog 33 = some 1 := by kernel_rfl
theorem shapeT_33 : shapeT Try.prog 33 = some (1, false) := by kernel_rfl
theorem zeroT_33 : zeroT Try.prog 33 = some (.int .i64 0) := by kernel_rfl
theorem sizeT_34 : sizeT Try.prog 34 = some 1 := by kernel_rfl
theorem shapeT_34 : shapeT Try.prog 34 = some (1, false) := by kernel_rfl
theorem zeroT_34 : zeroT Try.prog 34 = some (.int .i64 0) := by kernel_rfl
theorem sizeT_35 : sizeT Try.prog 35 = some 5 := by kernel_rfl
theorem shapeT_35 : shapeT Try.prog 35 = some (5, true) := by kernel_rfl
theorem fieldOff_35_0 : fieldOff Try.prog 35 0 = some 0 := by kernel_rfl
theorem fieldOff_35_1 : fieldOff Try.prog 35 1 = some 1 := by kernel_rfl
theorem fieldOff_35_2 : fieldOff Try.prog 35 2 = some 2 := by kernel_rfl
theorem fieldOff_35_3 : fieldOff Try.prog 35 3 = some 3 := by kernel_rfl
theorem fieldOff_35_4 : fieldOff Try.prog 35 4 = some 4 := by kernel_rfl
theorem placesOf_35 : placesOf Try.prog 35 = some [(0, 1), (1, 1), (2, 1), (3, 1), (4, 1)] := by kernel_rfl
theorem zeroT_35 : zeroT Try.prog 35 = some (.agg #[(.int .i64 0), (.int .i64 0), (.string ByteArray.empty), (.bool false), (.int .i64 0)]) := by kernel_rfl
theorem sizeT_36 : sizeT Try.prog 36 = some 5 := by kernel_rfl
theorem shapeT_36 : shapeT Try.prog 36 = some (5, true) := by kernel_rfl
theorem fieldOff_36_0 : fieldOff Try.prog 36 0 = some 0 := by kernel_rfl
theorem fieldOff_36_1 : fieldOff Try.prog 36 1 = some 1 := by kernel_rfl
theorem fieldOff_36_2 : fieldOff Try.prog 36 2 = some 2 := by kernel_rfl
theorem fieldOff_36_3 : fieldOff Try.prog 36 3 = some 3 := by kernel_rfl
theorem fieldOff_36_4 : fieldOff Try.prog 36 4 = some 4 := by kernel_rfl
theorem placesOf_36 : placesOf Try.prog 36 = some [(0, 1), (1, 1), (2, 1), (3, 1), (4, 1)] := by kernel_rfl
theorem zeroT_36 : zeroT Try.prog 36 = some (.agg #[(.int .i64 0), (.int .i64 0), (.string ByteArray.empty), (.bool false), (.int .i64 0)]) := by kernel_rfl
theorem sizeT_37 : sizeT Try.prog 37 = some 1 := by kernel_rfl
theorem shapeT_37 : shapeT Try.prog 37 = some (1, false) := by kernel_rfl
theorem elemSize_37 : elemSize Try.prog 37 = some (85, 4) := by kernel_rfl
theorem zeroT_37 : zeroT Try.prog 37 = some (.slice none 0 0) := by kernel_rfl
theorem sizeT_38 : sizeT Try.prog 38 = some 12 := by kernel_rfl
theorem shapeT_38 : shapeT Try.prog 38 = some (12, true) := by kernel_rfl
theorem fieldOff_38_0 : fieldOff Try.prog 38 0 = some 0 := by kernel_rfl
theorem fieldOff_38_1 : fieldOff Try.prog 38 1 = some 1 := by kernel_rfl
theorem fieldOff_38_2 : fieldOff Try.prog 38 2 = some 2 := by kernel_rfl
theorem fieldOff_38_3 : fieldOff Try.prog 38 3 = some 3 := by kernel_rfl
theorem fieldOff_38_4 : fieldOff Try.prog 38 4 = some 5 := by kernel_rfl
theorem fieldOff_38_5 : fieldOff Try.prog 38 5 = some 6 := by kernel_rfl
theorem fieldOff_38_6 : fieldOff Try.prog 38 6 = some 11 := by kernel_rfl
theorem placesOf_38 : placesOf Try.prog 38 = some [(0, 1), (1, 1), (2, 1), (3, 2), (5, 1), (6, 5), (11, 1)] := by kernel_rfl
theorem zeroT_38 : zeroT Try.prog 38 = some (.agg #[(.int .i64 0), (.int .i64 0), (.string ByteArray.empty), (.int .i64 0), (.int .i64 0), (.int .i64 0), (.int .i64 0), (.int .i64 0), (.string ByteArray.empty), (.bool false), (.int .i64 0), (.slice none 0 0)]) := by kernel_rfl
theorem sizeT_39 : sizeT Try.prog 39 = some 12 := by kernel_rfl
theorem shapeT_39 : shapeT Try.prog 39 = some (12, true) := by kernel_rfl
theorem fieldOff_39_0 : fieldOff Try.prog 39 0 = some 0 := by kernel_rfl
theorem fieldOff_39_1 : fieldOff Try.prog 39 1 = some 1 := by kernel_rfl
theorem fieldOff_39_2 : fieldOff Try.prog 39 2 = some 2 := by kernel_rfl
theorem fieldOff_39_3 : fieldOff Try.prog 39 3 = some 3 := by kernel_rfl
theorem fieldOff_39_4 : fieldOff Try.prog 39 4 = some 5 := by kernel_rfl
theorem fieldOff_39_5 : fieldOff Try.prog 39 5 = some 6 := by kernel_rfl
theorem fieldOff_39_6 : fieldOff Try.prog 39 6 = some 11 := by kernel_rfl
theorem placesOf_39 : placesOf Try.prog 39 = some [(0, 1), (1, 1), (2, 1), (3, 2), (5, 1), (6, 5), (11, 1)] := by kernel_rfl
theorem zeroT_39 : zeroT Try.prog 39 = some (.agg #[(.int .i64 0), (.int .i64 0), (.string ByteArray.empty), (.int .i64 0), (.int .i64 0), (.int .i64 0), (.int .i64 0), (.int .i64 0), (.string ByteArray.empty), (.bool false), (.int .i64 0), (.slice none 0 0)]) := by kernel_rfl
theorem sizeT_40 : sizeT Try.prog 40 = some 4 := by kernel_rfl
theorem shapeT_40 : shapeT Try.prog 40 = some (4, true) := by kernel_rfl
theorem fieldOff_40_0 : fieldOff Try.prog 40 0 = some 0 := by kernel_rfl
theorem fieldOff_40_1 : fieldOff Try.prog 40 1 = some 1 := by kernel_rfl
theorem fieldOff_40_2 : fieldOff Try.prog 40 2 = some 2 := by kernel_rfl
theorem fieldOff_40_3 : fieldOff Try.prog 40 3 = some 3 := by kernel_rfl
theorem placesOf_40 : placesOf Try.prog 40 = some [(0, 1), (1, 1), (2, 1), (3, 1)] := by kernel_rfl
theorem zeroT_40 : zeroT Try.prog 40 = some (.agg #[(.string ByteArray.empty), (.string ByteArray.empty), (.int .i64 0), (.int .i64 0)]) := by kernel_rfl
theorem sizeT_41 : sizeT Try.prog 41 = some 5 := by kernel_rfl
theorem shapeT_41 : shapeT Try.prog 41 = some (5, true) := by kernel_rfl
theorem fieldOff_41_0 : fieldOff Try.prog 41 0 = some 0 := by kernel_rfl
theorem fieldOff_41_1 : fieldOff Try.prog 41 1 = some 1 := by kernel_rfl
theorem fieldOff_41_2 : fieldOff Try.prog 41 2 = some 2 := by kernel_rfl
theorem fieldOff_41_3 : fieldOff Try.prog 41 3 = some 3 := by kernel_rfl
theorem fieldOff_41_4 : fieldOff Try.prog 41 4 = some 4 := by kernel_rfl
theorem placesOf_41 : placesOf Try.prog 41 = some [(0, 1), (1, 1), (2, 1), (3, 1), (4, 1)] := by kernel_rfl
theorem zeroT_41 : zeroT Try.prog 41 = some (.agg #[(.int .i64 0), (.int .i64 0), (.string ByteArray.empty), (.bool false), (.int .i64 0)]) := by kernel_rfl
theorem sizeT_42 : sizeT Try.prog 42 = some 1 := by kernel_rfl
theorem shapeT_42 : shapeT Try.prog 42 = some (1, false) := by kernel_rfl
theorem elemSize_42 : elemSize Try.prog 42 = some (88, 5) := by kernel_rfl
theorem zeroT_42 : zeroT Try.prog 42 = some (.slice none 0 0) := by kernel_rfl
theorem sizeT_43 : sizeT Try.prog 43 = some 13 := by kernel_rfl
theorem shapeT_43 : shapeT Try.prog 43 = some (13, true) := by kernel_rfl
theorem fieldOff_43_0 : fieldOff Try.prog 43 0 = some 0 := by kernel_rfl
theorem fieldOff_43_1 : fieldOff Try.prog 43 1 = some 1 := by kernel_rfl
theorem fieldOff_43_2 : fieldOff Try.prog 43 2 = some 2 := by kernel_rfl
theorem fieldOff_43_3 : fieldOff Try.prog 43 3 = some 3 := by kernel_rfl
theorem fieldOff_43_4 : fieldOff Try.prog 43 4 = some 7 := by kernel_rfl
theorem fieldOff_43_5 : fieldOff Try.prog 43 5 = some 12 := by kernel_rfl
theorem placesOf_43 : placesOf Try.prog 43 = some [(0, 1), (1, 1), (2, 1), (3, 4), (7, 5), (12, 1)] := by kernel_rfl
theorem zeroT_43 : zeroT Try.prog 43 = some (.agg #[(.int .i64 0), (.int .i64 0), (.int .i64 0), (.string ByteArray.empty), (.string ByteArray.empty), (.int .i64 0), (.int .i64 0), (.int .i64 0), (.int .i64 0), (.string ByteArray.empty), (.bool false), (.int .i64 0), (.slice none 0 0)]) := by kernel_rfl
theorem sizeT_44 : sizeT Try.prog 44 = some 13 := by kernel_rfl
theorem shapeT_44 : shapeT Try.prog 44 = some (13, true) := by kernel_rfl
theorem fieldOff_44_0 : fieldOff Try.prog 44 0 = some 0 := by kernel_rfl
theorem fieldOff_44_1 : fieldOff Try.prog 44 1 = some 1 := by kernel_rfl
theorem fieldOff_44_2 : fieldOff Try.prog 44 2 = some 2 := by kernel_rfl
theorem fieldOff_44_3 : fieldOff Try.prog 44 3 = some 3 := by kernel_rfl
theorem fieldOff_44_4 : fieldOff Try.prog 44 4 = some 7 := by kernel_rfl
theorem fieldOff_44_5 : fieldOff Try.prog 44 5 = some 12 := by kernel_rfl
theorem placesOf_44 : placesOf Try.prog 44 = some [(0, 1), (1, 1), (2, 1), (3, 4), (7, 5), (12, 1)] := by kernel_rfl
theorem zeroT_44 : zeroT Try.prog 44 = some (.agg #[(.int .i64 0), (.int .i64 0), (.int .i64 0), (.string ByteArray.empty), (.string ByteArray.empty), (.int .i64 0), (.int .i64 0), (.int .i64 0), (.int .i64 0), (.string ByteArray.empty), (.bool false), (.int .i64 0), (.slice none 0 0)]) := by kernel_rfl
theorem sizeT_45 : sizeT Try.prog 45 = some 1 := by kernel_rfl
theorem shapeT_45 : shapeT Try.prog 45 = some (1, false) := by kernel_rfl
theorem sizeT_46 : sizeT Try.prog 46 = some 1 := by kernel_rfl
theorem shapeT_46 : shapeT Try.prog 46 = some (1, false) := by kernel_rfl
theorem sizeT_47 : sizeT Try.prog 47 = some 1 := by kernel_rfl
theorem shapeT_47 : shapeT Try.prog 47 = some (1, false) := by kernel_rfl
theorem zeroT_47 : zeroT Try.prog 47 = some (.int .i64 0) := by kernel_rfl
theorem sizeT_48 : sizeT Try.prog 48 = some 1 := by kernel_rfl
theorem shapeT_48 : shapeT Try.prog 48 = some (1, false) := by kernel_rfl
theorem sizeT_49 : sizeT Try.prog 49 = some 1 := by kernel_rfl
theorem shapeT_49 : shapeT Try.prog 49 = some (1, false) := by kernel_rfl
theorem sizeT_50 : sizeT Try.prog 50 = some 1 := by kernel_rfl
theorem shapeT_50 : shapeT Try.prog 50 = some (1, false) := by kernel_rfl
theorem sizeT_51 : sizeT Try.prog 51 = some 1 := by kernel_rfl
theorem shapeT_51 : shapeT Try.prog 51 = some (1, false) := by kernel_rfl
theorem sizeT_52 : sizeT Try.prog 52 = some 1 := by kernel_rfl
theorem shapeT_52 : shapeT Try.prog 52 = some (1, false) := by kernel_rfl
theorem elemSize_52 : elemSize Try.prog 52 = some (4, 1) := by kernel_rfl
theorem zeroT_52 : zeroT Try.prog 52 = some (.slice none 0 0) := by kernel_rfl
theorem sizeT_53 : sizeT Try.prog 53 = some 1 := by kernel_rfl
theorem shapeT_53 : shapeT Try.prog 53 = some (1, false) := by kernel_rfl
theorem elemSize_53 : elemSize Try.prog 53 = some (9, 1) := by kernel_rfl
theorem zeroT_53 : zeroT Try.prog 53 = some (.slice none 0 0) := by kernel_rfl
theorem sizeT_54 : sizeT Try.prog 54 = some 4 := by kernel_rfl
theorem shapeT_54 : shapeT Try.prog 54 = some (4, true) := by kernel_rfl
theorem fieldOff_54_0 : fieldOff Try.prog 54 0 = some 0 := by kernel_rfl
theorem fieldOff_54_1 : fieldOff Try.prog 54 1 = some 1 := by kernel_rfl
theorem fieldOff_54_2 : fieldOff Try.prog 54 2 = some 2 := by kernel_rfl
theorem fieldOff_54_3 : fieldOff Try.prog 54 3 = some 3 := by kernel_rfl
theorem placesOf_54 : placesOf Try.prog 54 = some [(0, 1), (1, 1), (2, 1), (3, 1)] := by kernel_rfl
theorem zeroT_54 : zeroT Try.prog 54 = some (.agg #[(.bool false), (.int .i64 0), (.int .i64 0), (.string ByteArray.empty)]) := by kernel_rfl
theorem sizeT_55 : sizeT Try.prog 55 = some 4 := by kernel_rfl
theorem shapeT_55 : shapeT Try.prog 55 = some (4, true) := by kernel_rfl
theorem fieldOff_55_0 : fieldOff Try.prog 55 0 = some 0 := by kernel_rfl
theorem fieldOff_55_1 : fieldOff Try.prog 55 1 = some 1 := by kernel_rfl
theorem fieldOff_55_2 : fieldOff Try.prog 55 2 = some 2 := by kernel_rfl
theorem fieldOff_55_3 : fieldOff Try.prog 55 3 = some 3 := by kernel_rfl
theorem placesOf_55 : placesOf Try.prog 55 = some [(0, 1), (1, 1), (2, 1), (3, 1)] := by kernel_rfl
theorem zeroT_55 : zeroT Try.prog 55 = some (.agg #[(.bool false), (.int .i64 0), (.int .i64 0), (.string ByteArray.empty)]) := by kernel_rfl
theorem sizeT_56 : sizeT Try.prog 56 = some 1 := by kernel_rfl
theorem shapeT_56 : shapeT Try.prog 56 = some (1, false) := by kernel_rfl
theorem sizeT_57 : sizeT Try.prog 57 = some 4 := by kernel_rfl
theorem shapeT_57 : shapeT Try.prog 57 = some (4, true) := by kernel_rfl
theorem fieldOff_57_0 : fieldOff Try.prog 57 0 = some 0 := by kernel_rfl
theorem fieldOff_57_1 : fieldOff Try.prog 57 1 = some 1 := by kernel_rfl
theorem fieldOff_57_2 : fieldOff Try.prog 57 2 = some 2 := by kernel_rfl
theorem fieldOff_57_3 : fieldOff Try.prog 57 3 = some 3 := by kernel_rfl
theorem placesOf_57 : placesOf Try.prog 57 = some [(0, 1), (1, 1), (2, 1), (3, 1)] := by kernel_rfl
theorem zeroT_57 : zeroT Try.prog 57 = some (.agg #[(.bool false), (.int .i64 0), (.int .i64 0), (.string ByteArray.empty)]) := by kernel_rfl
theorem sizeT_58 : sizeT Try.prog 58 = some 1 := by kernel_rfl
theorem shapeT_58 : shapeT Try.prog 58 = some (1, false) := by kernel_rfl
theorem sizeT_59 : sizeT Try.prog 59 = some 1 := by kernel_rfl
theorem shapeT_59 : shapeT Try.prog 59 = some (1, false) := by kernel_rfl
theorem sizeT_60 : sizeT Try.prog 60 = some 1 := by kernel_rfl
theorem shapeT_60 : shapeT Try.prog 60 = some (1, false) := by kernel_rfl
theorem arrSize_61 : arrSize Try.prog 61 = some (3, 1) := by kernel_rfl
theorem arrSize_74 : arrSize Try.prog 74 = some (2, 1) := by kernel_rfl
theorem sizeT_61 : sizeT Try.prog 61 = some 3 := by kernel_rfl
theorem shapeT_61 : shapeT Try.prog 61 = some (3, true) := by kernel_rfl
theorem zeroT_61 : zeroT Try.prog 61 = some (.agg #[(.int .i64 0), (.int .i64 0), (.int .i64 0)]) := by kernel_rfl
theorem sizeT_62 : sizeT Try.prog 62 = some 1 := by kernel_rfl
theorem shapeT_62 : shapeT Try.prog 62 = some (1, false) := by kernel_rfl
theorem elemSize_62 : elemSize Try.prog 62 = some (5, 1) := by kernel_rfl
theorem zeroT_62 : zeroT Try.prog 62 = some (.slice none 0 0) := by kernel_rfl
theorem sizeT_63 : sizeT Try.prog 63 = some 1 := by kernel_rfl
theorem shapeT_63 : shapeT Try.prog 63 = some (1, false) := by kernel_rfl
theorem sizeT_64 : sizeT Try.prog 64 = some 1 := by kernel_rfl
theorem shapeT_64 : shapeT Try.prog 64 = some (1, false) := by kernel_rfl
theorem sizeT_65 : sizeT Try.prog 65 = some 1 := by kernel_rfl
theorem shapeT_65 : shapeT Try.prog 65 = some (1, false) := by kernel_rfl
theorem sizeT_66 : sizeT Try.prog 66 = some 1 := by kernel_rfl
theorem shapeT_66 : shapeT Try.prog 66 = some (1, false) := by kernel_rfl
theorem sizeT_67 : sizeT Try.prog 67 = some 1 := by kernel_rfl
theorem shapeT_67 : shapeT Try.prog 67 = some (1, false) := by kernel_rfl
theorem sizeT_68 : sizeT Try.prog 68 = some 1 := by kernel_rfl
theorem shapeT_68 : shapeT Try.prog 68 = some (1, false) := by kernel_rfl
theorem sizeT_69 : sizeT Try.prog 69 = some 1 := by kernel_rfl
theorem shapeT_69 : shapeT Try.prog 69 = some (1, false) := by kernel_rfl
theorem sizeT_70 : sizeT Try.prog 70 = some 1 := by kernel_rfl
theorem shapeT_70 : shapeT Try.prog 70 = some (1, false) := by kernel_rfl
theorem sizeT_71 : sizeT Try.prog 71 = some 1 := by kernel_rfl
theorem shapeT_71 : shapeT Try.prog 71 = some (1, false) := by kernel_rfl
theorem sizeT_72 : sizeT Try.prog 72 = some 1 := by kernel_rfl
theorem shapeT_72 : shapeT Try.prog 72 = some (1, false) := by kernel_rfl
theorem sizeT_73 : sizeT Try.prog 73 = some 1 := by kernel_rfl
theorem shapeT_73 : shapeT Try.prog 73 = some (1, false) := by kernel_rfl
theorem zeroT_73 : zeroT Try.prog 73 = some (.int .u32 0) := by kernel_rfl
theorem sizeT_74 : sizeT Try.prog 74 = some 2 := by kernel_rfl
theorem shapeT_74 : shapeT Try.prog 74 = some (2, true) := by kernel_rfl
theorem zeroT_74 : zeroT Try.prog 74 = some (.agg #[(.int .u32 0), (.int .u32 0)]) := by kernel_rfl
theorem sizeT_75 : sizeT Try.prog 75 = some 1 := by kernel_rfl
theorem shapeT_75 : shapeT Try.prog 75 = some (1, false) := by kernel_rfl
theorem sizeT_76 : sizeT Try.prog 76 = some 1 := by kernel_rfl
theorem shapeT_76 : shapeT Try.prog 76 = some (1, false) := by kernel_rfl
theorem sizeT_77 : sizeT Try.prog 77 = some 1 := by kernel_rfl
theorem shapeT_77 : shapeT Try.prog 77 = some (1, false) := by kernel_rfl
theorem sizeT_78 : sizeT Try.prog 78 = some 1 := by kernel_rfl
theorem shapeT_78 : shapeT Try.prog 78 = some (1, false) := by kernel_rfl
theorem sizeT_79 : sizeT Try.prog 79 = some 1 := by kernel_rfl
theorem shapeT_79 : shapeT Try.prog 79 = some (1, false) := by kernel_rfl
theorem sizeT_80 : sizeT Try.prog 80 = some 1 := by kernel_rfl
theorem shapeT_80 : shapeT Try.prog 80 = some (1, false) := by kernel_rfl
theorem elemSize_80 : elemSize Try.prog 80 = some (23, 4) := by kernel_rfl
theorem zeroT_80 : zeroT Try.prog 80 = some (.slice none 0 0) := by kernel_rfl
theorem sizeT_81 : sizeT Try.prog 81 = some 5 := by kernel_rfl
theorem shapeT_81 : shapeT Try.prog 81 = some (5, true) := by kernel_rfl
theorem fieldOff_81_0 : fieldOff Try.prog 81 0 = some 0 := by kernel_rfl
theorem fieldOff_81_1 : fieldOff Try.prog 81 1 = some 4 := by kernel_rfl
theorem placesOf_81 : placesOf Try.prog 81 = some [(0, 4), (4, 1)] := by kernel_rfl
theorem zeroT_81 : zeroT Try.prog 81 = some (.agg #[(.string ByteArray.empty), (.string ByteArray.empty), (.int .i64 0), (.int .i64 0), (.slice none 0 0)]) := by kernel_rfl
theorem sizeT_82 : sizeT Try.prog 82 = some 5 := by kernel_rfl
theorem shapeT_82 : shapeT Try.prog 82 = some (5, true) := by kernel_rfl
theorem fieldOff_82_0 : fieldOff Try.prog 82 0 = some 0 := by kernel_rfl
theorem fieldOff_82_1 : fieldOff Try.prog 82 1 = some 4 := by kernel_rfl
theorem placesOf_82 : placesOf Try.prog 82 = some [(0, 4), (4, 1)] := by kernel_rfl
theorem zeroT_82 : zeroT Try.prog 82 = some (.agg #[(.string ByteArray.empty), (.string ByteArray.empty), (.int .i64 0), (.int .i64 0), (.slice none 0 0)]) := by kernel_rfl
theorem sizeT_83 : sizeT Try.prog 83 = some 1 := by kernel_rfl
theorem shapeT_83 : shapeT Try.prog 83 = some (1, false) := by kernel_rfl
theorem elemSize_83 : elemSize Try.prog 83 = some (90, 4) := by kernel_rfl
theorem zeroT_83 : zeroT Try.prog 83 = some (.slice none 0 0) := by kernel_rfl
theorem sizeT_84 : sizeT Try.prog 84 = some 4 := by kernel_rfl
theorem shapeT_84 : shapeT Try.prog 84 = some (4, true) := by kernel_rfl
theorem fieldOff_84_0 : fieldOff Try.prog 84 0 = some 0 := by kernel_rfl
theorem fieldOff_84_1 : fieldOff Try.prog 84 1 = some 1 := by kernel_rfl
theorem fieldOff_84_2 : fieldOff Try.prog 84 2 = some 3 := by kernel_rfl
theorem placesOf_84 : placesOf Try.prog 84 = some [(0, 1), (1, 2), (3, 1)] := by kernel_rfl
theorem zeroT_84 : zeroT Try.prog 84 = some (.agg #[(.string ByteArray.empty), (.int .i64 0), (.int .i64 0), (.slice none 0 0)]) := by kernel_rfl
theorem sizeT_85 : sizeT Try.prog 85 = some 4 := by kernel_rfl
theorem shapeT_85 : shapeT Try.prog 85 = some (4, true) := by kernel_rfl
theorem fieldOff_85_0 : fieldOff Try.prog 85 0 = some 0 := by kernel_rfl
theorem fieldOff_85_1 : fieldOff Try.prog 85 1 = some 1 := by kernel_rfl
theorem fieldOff_85_2 : fieldOff Try.prog 85 2 = some 3 := by kernel_rfl
theorem placesOf_85 : placesOf Try.prog 85 = some [(0, 1), (1, 2), (3, 1)] := by kernel_rfl
theorem zeroT_85 : zeroT Try.prog 85 = some (.agg #[(.string ByteArray.empty), (.int .i64 0), (.int .i64 0), (.slice none 0 0)]) := by kernel_rfl
theorem sizeT_86 : sizeT Try.prog 86 = some 1 := by kernel_rfl
theorem shapeT_86 : shapeT Try.prog 86 = some (1, false) := by kernel_rfl
theorem elemSize_86 : elemSize Try.prog 86 = some (40, 4) := by kernel_rfl
theorem zeroT_86 : zeroT Try.prog 86 = some (.slice none 0 0) := by kernel_rfl
theorem sizeT_87 : sizeT Try.prog 87 = some 5 := by kernel_rfl
theorem shapeT_87 : shapeT Try.prog 87 = some (5, true) := by kernel_rfl
theorem fieldOff_87_0 : fieldOff Try.prog 87 0 = some 0 := by kernel_rfl
theorem fieldOff_87_1 : fieldOff Try.prog 87 1 = some 4 := by kernel_rfl
theorem placesOf_87 : placesOf Try.prog 87 = some [(0, 4), (4, 1)] := by kernel_rfl
theorem zeroT_87 : zeroT Try.prog 87 = some (.agg #[(.string ByteArray.empty), (.string ByteArray.empty), (.int .i64 0), (.int .i64 0), (.slice none 0 0)]) := by kernel_rfl
theorem sizeT_88 : sizeT Try.prog 88 = some 5 := by kernel_rfl
theorem shapeT_88 : shapeT Try.prog 88 = some (5, true) := by kernel_rfl
theorem fieldOff_88_0 : fieldOff Try.prog 88 0 = some 0 := by kernel_rfl
theorem fieldOff_88_1 : fieldOff Try.prog 88 1 = some 4 := by kernel_rfl
theorem placesOf_88 : placesOf Try.prog 88 = some [(0, 4), (4, 1)] := by kernel_rfl
theorem zeroT_88 : zeroT Try.prog 88 = some (.agg #[(.string ByteArray.empty), (.string ByteArray.empty), (.int .i64 0), (.int .i64 0), (.slice none 0 0)]) := by kernel_rfl
theorem sizeT_89 : sizeT Try.prog 89 = some 4 := by kernel_rfl
theorem shapeT_89 : shapeT Try.prog 89 = some (4, true) := by kernel_rfl
theorem fieldOff_89_0 : fieldOff Try.prog 89 0 = some 0 := by kernel_rfl
theorem fieldOff_89_1 : fieldOff Try.prog 89 1 = some 1 := by kernel_rfl
theorem fieldOff_89_2 : fieldOff Try.prog 89 2 = some 2 := by kernel_rfl
theorem placesOf_89 : placesOf Try.prog 89 = some [(0, 1), (1, 1), (2, 2)] := by kernel_rfl
theorem zeroT_89 : zeroT Try.prog 89 = some (.agg #[(.string ByteArray.empty), (.string ByteArray.empty), (.int .i64 0), (.int .i64 0)]) := by kernel_rfl
theorem sizeT_90 : sizeT Try.prog 90 = some 4 := by kernel_rfl
theorem shapeT_90 : shapeT Try.prog 90 = some (4, true) := by kernel_rfl
theorem fieldOff_90_0 : fieldOff Try.prog 90 0 = some 0 := by kernel_rfl
theorem fieldOff_90_1 : fieldOff Try.prog 90 1 = some 1 := by kernel_rfl
theorem fieldOff_90_2 : fieldOff Try.prog 90 2 = some 2 := by kernel_rfl
theorem placesOf_90 : placesOf Try.prog 90 = some [(0, 1), (1, 1), (2, 2)] := by kernel_rfl
theorem zeroT_90 : zeroT Try.prog 90 = some (.agg #[(.string ByteArray.empty), (.string ByteArray.empty), (.int .i64 0), (.int .i64 0)]) := by kernel_rfl
theorem sizeT_91 : sizeT Try.prog 91 = some 1 := by kernel_rfl
theorem shapeT_91 : shapeT Try.prog 91 = some (1, false) := by kernel_rfl
theorem zeroT_91 : zeroT Try.prog 91 = some (.pointer none) := by kernel_rfl
theorem sizeT_92 : sizeT Try.prog 92 = some 1 := by kernel_rfl
theorem shapeT_92 : shapeT Try.prog 92 = some (1, true) := by kernel_rfl
theorem fieldOff_92_0 : fieldOff Try.prog 92 0 = some 0 := by kernel_rfl
theorem placesOf_92 : placesOf Try.prog 92 = some [(0, 1)] := by kernel_rfl
theorem zeroT_92 : zeroT Try.prog 92 = some (.agg #[(.slice none 0 0)]) := by kernel_rfl
theorem sizeT_93 : sizeT Try.prog 93 = some 1 := by kernel_rfl
theorem shapeT_93 : shapeT Try.prog 93 = some (1, true) := by kernel_rfl
theorem fieldOff_93_0 : fieldOff Try.prog 93 0 = some 0 := by kernel_rfl
theorem placesOf_93 : placesOf Try.prog 93 = some [(0, 1)] := by kernel_rfl
theorem zeroT_93 : zeroT Try.prog 93 = some (.agg #[(.slice none 0 0)]) := by kernel_rfl
theorem sizeT_94 : sizeT Try.prog 94 = some 1 := by kernel_rfl
theorem shapeT_94 : shapeT Try.prog 94 = some (1, false) := by kernel_rfl
theorem sizeT_95 : sizeT Try.prog 95 = some 1 := by kernel_rfl
theorem shapeT_95 : shapeT Try.prog 95 = some (1, false) := by kernel_rfl
theorem sizeT_96 : sizeT Try.prog 96 = some 1 := by kernel_rfl
theorem shapeT_96 : shapeT Try.prog 96 = some (1, false) := by kernel_rfl
theorem sizeT_97 : sizeT Try.prog 97 = some 1 := by kernel_rfl
theorem shapeT_97 : shapeT Try.prog 97 = some (1, false) := by kernel_rfl
theorem sizeT_98 : sizeT Try.prog 98 = some 1 := by kernel_rfl
theorem shapeT_98 : shapeT Try.prog 98 = some (1, false) := by kernel_rfl
theorem sizeT_99 : sizeT Try.prog 99 = some 1 := by kernel_rfl
theorem shapeT_99 : shapeT Try.prog 99 = some (1, false) := by kernel_rfl
theorem sizeT_100 : sizeT Try.prog 100 = some 1 := by kernel_rfl
theorem shapeT_100 : shapeT Try.prog 100 = some (1, false) := by kernel_rfl
theorem sizeT_101 : sizeT Try.prog 101 = some 1 := by kernel_rfl
theorem shapeT_101 : shapeT Try.prog 101 = some (1, false) := by kernel_rfl
theorem sizeT_102 : sizeT Try.prog 102 = some 1 := by kernel_rfl
theorem shapeT_102 : shapeT Try.prog 102 = some (1, false) := by kernel_rfl
theorem sizeT_103 : sizeT Try.prog 103 = some 1 := by kernel_rfl
theorem shapeT_103 : shapeT Try.prog 103 = some (1, false) := by kernel_rfl
theorem sizeT_104 : sizeT Try.prog 104 = some 1 := by kernel_rfl
theorem shapeT_104 : shapeT Try.prog 104 = some (1, false) := by kernel_rfl
theorem sizeT_105 : sizeT Try.prog 105 = some 1 := by kernel_rfl
theorem shapeT_105 : shapeT Try.prog 105 = some (1, false) := by kernel_rfl
theorem sizeT_106 : sizeT Try.prog 106 = some 0 := by kernel_rfl
theorem shapeT_106 : shapeT Try.prog 106 = some (0, true) := by kernel_rfl
theorem placesOf_106 : placesOf Try.prog 106 = some [] := by kernel_rfl
theorem zeroT_106 : zeroT Try.prog 106 = some (.agg #[]) := by kernel_rfl
theorem sizeT_107 : sizeT Try.prog 107 = some 0 := by kernel_rfl
theorem shapeT_107 : shapeT Try.prog 107 = some (0, true) := by kernel_rfl
theorem placesOf_107 : placesOf Try.prog 107 = some [] := by kernel_rfl
theorem zeroT_107 : zeroT Try.prog 107 = some (.agg #[]) := by kernel_rfl
theorem sizeT_108 : sizeT Try.prog 108 = some 1 := by kernel_rfl
theorem shapeT_108 : shapeT Try.prog 108 = some (1, false) := by kernel_rfl
theorem zeroT_108 : zeroT Try.prog 108 = some (.pointer none) := by kernel_rfl
theorem sizeT_109 : sizeT Try.prog 109 = some 2 := by kernel_rfl
theorem shapeT_109 : shapeT Try.prog 109 = some (2, true) := by kernel_rfl
theorem fieldOff_109_0 : fieldOff Try.prog 109 0 = some 0 := by kernel_rfl
theorem fieldOff_109_1 : fieldOff Try.prog 109 1 = some 1 := by kernel_rfl
theorem placesOf_109 : placesOf Try.prog 109 = some [(0, 1), (1, 1)] := by kernel_rfl
theorem zeroT_109 : zeroT Try.prog 109 = some (.agg #[(.string ByteArray.empty), (.int .i64 0)]) := by kernel_rfl
theorem sizeT_110 : sizeT Try.prog 110 = some 2 := by kernel_rfl
theorem shapeT_110 : shapeT Try.prog 110 = some (2, true) := by kernel_rfl
theorem fieldOff_110_0 : fieldOff Try.prog 110 0 = some 0 := by kernel_rfl
theorem fieldOff_110_1 : fieldOff Try.prog 110 1 = some 1 := by kernel_rfl
theorem placesOf_110 : placesOf Try.prog 110 = some [(0, 1), (1, 1)] := by kernel_rfl
theorem zeroT_110 : zeroT Try.prog 110 = some (.agg #[(.string ByteArray.empty), (.int .i64 0)]) := by kernel_rfl
theorem sizeT_111 : sizeT Try.prog 111 = some 1 := by kernel_rfl
theorem shapeT_111 : shapeT Try.prog 111 = some (1, false) := by kernel_rfl
theorem sizeT_112 : sizeT Try.prog 112 = some 1 := by kernel_rfl
theorem shapeT_112 : shapeT Try.prog 112 = some (1, false) := by kernel_rfl
theorem sizeT_113 : sizeT Try.prog 113 = some 1 := by kernel_rfl
theorem shapeT_113 : shapeT Try.prog 113 = some (1, false) := by kernel_rfl
theorem sizeT_114 : sizeT Try.prog 114 = some 1 := by kernel_rfl
theorem shapeT_114 : shapeT Try.prog 114 = some (1, false) := by kernel_rfl
theorem sizeT_115 : sizeT Try.prog 115 = some 1 := by kernel_rfl
theorem shapeT_115 : shapeT Try.prog 115 = some (1, false) := by kernel_rfl
theorem sizeT_116 : sizeT Try.prog 116 = some 1 := by kernel_rfl
theorem shapeT_116 : shapeT Try.prog 116 = some (1, false) := by kernel_rfl
theorem sizeT_117 : sizeT Try.prog 117 = some 1 := by kernel_rfl
theorem shapeT_117 : shapeT Try.prog 117 = some (1, false) := by kernel_rfl
theorem sizeT_118 : sizeT Try.prog 118 = some 1 := by kernel_rfl
theorem shapeT_118 : shapeT Try.prog 118 = some (1, false) := by kernel_rfl
theorem sizeT_119 : sizeT Try.prog 119 = some 1 := by kernel_rfl
theorem shapeT_119 : shapeT Try.prog 119 = some (1, false) := by kernel_rfl
theorem sizeT_120 : sizeT Try.prog 120 = some 1 := by kernel_rfl
theorem shapeT_120 : shapeT Try.prog 120 = some (1, false) := by kernel_rfl
theorem sizeT_121 : sizeT Try.prog 121 = some 1 := by kernel_rfl
theorem shapeT_121 : shapeT Try.prog 121 = some (1, false) := by kernel_rfl
theorem sizeT_122 : sizeT Try.prog 122 = some 1 := by kernel_rfl
theorem shapeT_122 : shapeT Try.prog 122 = some (1, false) := by kernel_rfl
theorem sizeT_123 : sizeT Try.prog 123 = some 1 := by kernel_rfl
theorem shapeT_123 : shapeT Try.prog 123 = some (1, false) := by kernel_rfl
theorem zeroT_123 : zeroT Try.prog 123 = some (.int .u64 0) := by kernel_rfl
theorem sizeT_124 : sizeT Try.prog 124 = some 1 := by kernel_rfl
theorem shapeT_124 : shapeT Try.prog 124 = some (1, false) := by kernel_rfl
theorem sizeT_125 : sizeT Try.prog 125 = some 1 := by kernel_rfl
theorem shapeT_125 : shapeT Try.prog 125 = some (1, false) := by kernel_rfl
theorem sizeT_126 : sizeT Try.prog 126 = some 1 := by kernel_rfl
theorem shapeT_126 : shapeT Try.prog 126 = some (1, false) := by kernel_rfl
theorem sizeT_127 : sizeT Try.prog 127 = some 1 := by kernel_rfl
theorem shapeT_127 : shapeT Try.prog 127 = some (1, false) := by kernel_rfl
theorem sizeT_128 : sizeT Try.prog 128 = some 1 := by kernel_rfl
theorem shapeT_128 : shapeT Try.prog 128 = some (1, false) := by kernel_rfl
theorem sizeT_129 : sizeT Try.prog 129 = some 1 := by kernel_rfl
theorem shapeT_129 : shapeT Try.prog 129 = some (1, false) := by kernel_rfl
theorem sizeT_130 : sizeT Try.prog 130 = some 1 := by kernel_rfl
theorem shapeT_130 : shapeT Try.prog 130 = some (1, false) := by kernel_rfl
theorem sizeT_131 : sizeT Try.prog 131 = some 1 := by kernel_rfl
theorem shapeT_131 : shapeT Try.prog 131 = some (1, false) := by kernel_rfl
theorem sizeT_132 : sizeT Try.prog 132 = some 1 := by kernel_rfl
theorem shapeT_132 : shapeT Try.prog 132 = some (1, false) := by kernel_rfl
theorem sizeT_133 : sizeT Try.prog 133 = some 1 := by kernel_rfl
theorem shapeT_133 : shapeT Try.prog 133 = some (1, false) := by kernel_rfl
theorem sizeT_134 : sizeT Try.prog 134 = some 1 := by kernel_rfl
theorem shapeT_134 : shapeT Try.prog 134 = some (1, false) := by kernel_rfl
theorem sizeT_135 : sizeT Try.prog 135 = some 1 := by kernel_rfl
theorem shapeT_135 : shapeT Try.prog 135 = some (1, false) := by kernel_rfl
theorem sizeT_136 : sizeT Try.prog 136 = some 1 := by kernel_rfl
theorem shapeT_136 : shapeT Try.prog 136 = some (1, false) := by kernel_rfl
theorem sizeT_137 : sizeT Try.prog 137 = some 1 := by kernel_rfl
theorem shapeT_137 : shapeT Try.prog 137 = some (1, false) := by kernel_rfl
theorem zeroT_137 : zeroT Try.prog 137 = some (.int .u64 0) := by kernel_rfl
theorem sizeT_138 : sizeT Try.prog 138 = some 1 := by kernel_rfl
theorem shapeT_138 : shapeT Try.prog 138 = some (1, false) := by kernel_rfl
theorem sizeT_139 : sizeT Try.prog 139 = some 1 := by kernel_rfl
theorem shapeT_139 : shapeT Try.prog 139 = some (1, false) := by kernel_rfl
theorem sizeT_140 : sizeT Try.prog 140 = some 1 := by kernel_rfl
theorem shapeT_140 : shapeT Try.prog 140 = some (1, false) := by kernel_rfl
theorem sizeT_141 : sizeT Try.prog 141 = some 1 := by kernel_rfl
theorem shapeT_141 : shapeT Try.prog 141 = some (1, false) := by kernel_rfl
theorem sizeT_142 : sizeT Try.prog 142 = some 1 := by kernel_rfl
theorem shapeT_142 : shapeT Try.prog 142 = some (1, false) := by kernel_rfl
theorem sizeT_143 : sizeT Try.prog 143 = some 1 := by kernel_rfl
theorem shapeT_143 : shapeT Try.prog 143 = some (1, false) := by kernel_rfl
theorem sizeT_144 : sizeT Try.prog 144 = some 1 := by kernel_rfl
theorem shapeT_144 : shapeT Try.prog 144 = some (1, false) := by kernel_rfl
theorem sizeT_145 : sizeT Try.prog 145 = some 1 := by kernel_rfl
theorem shapeT_145 : shapeT Try.prog 145 = some (1, false) := by kernel_rfl
theorem sizeT_146 : sizeT Try.prog 146 = some 1 := by kernel_rfl
theorem shapeT_146 : shapeT Try.prog 146 = some (1, false) := by kernel_rfl
theorem sizeT_147 : sizeT Try.prog 147 = some 1 := by kernel_rfl
theorem shapeT_147 : shapeT Try.prog 147 = some (1, false) := by kernel_rfl
theorem sizeT_148 : sizeT Try.prog 148 = some 1 := by kernel_rfl
theorem shapeT_148 : shapeT Try.prog 148 = some (1, false) := by kernel_rfl
theorem sizeT_149 : sizeT Try.prog 149 = some 1 := by kernel_rfl
theorem shapeT_149 : shapeT Try.prog 149 = some (1, false) := by kernel_rfl
theorem sizeT_150 : sizeT Try.prog 150 = some 1 := by kernel_rfl
theorem shapeT_150 : shapeT Try.prog 150 = some (1, false) := by kernel_rfl
theorem elemSize_150 : elemSize Try.prog 150 = some (33, 1) := by kernel_rfl
theorem zeroT_150 : zeroT Try.prog 150 = some (.slice none 0 0) := by kernel_rfl
theorem sizeT_151 : sizeT Try.prog 151 = some 4 := by kernel_rfl
theorem shapeT_151 : shapeT Try.prog 151 = some (4, true) := by kernel_rfl
theorem fieldOff_151_0 : fieldOff Try.prog 151 0 = some 0 := by kernel_rfl
theorem fieldOff_151_1 : fieldOff Try.prog 151 1 = some 1 := by kernel_rfl
theorem fieldOff_151_2 : fieldOff Try.prog 151 2 = some 2 := by kernel_rfl
theorem fieldOff_151_3 : fieldOff Try.prog 151 3 = some 3 := by kernel_rfl
theorem placesOf_151 : placesOf Try.prog 151 = some [(0, 1), (1, 1), (2, 1), (3, 1)] := by kernel_rfl
theorem zeroT_151 : zeroT Try.prog 151 = some (.agg #[(.pointer none), (.pointer none), (.pointer none), (.string ByteArray.empty)]) := by kernel_rfl
theorem sizeT_152 : sizeT Try.prog 152 = some 4 := by kernel_rfl
theorem shapeT_152 : shapeT Try.prog 152 = some (4, true) := by kernel_rfl
theorem fieldOff_152_0 : fieldOff Try.prog 152 0 = some 0 := by kernel_rfl
theorem fieldOff_152_1 : fieldOff Try.prog 152 1 = some 1 := by kernel_rfl
theorem fieldOff_152_2 : fieldOff Try.prog 152 2 = some 2 := by kernel_rfl
theorem fieldOff_152_3 : fieldOff Try.prog 152 3 = some 3 := by kernel_rfl
theorem placesOf_152 : placesOf Try.prog 152 = some [(0, 1), (1, 1), (2, 1), (3, 1)] := by kernel_rfl
theorem zeroT_152 : zeroT Try.prog 152 = some (.agg #[(.pointer none), (.pointer none), (.pointer none), (.string ByteArray.empty)]) := by kernel_rfl
theorem sizeT_153 : sizeT Try.prog 153 = some 0 := by kernel_rfl
theorem shapeT_153 : shapeT Try.prog 153 = some (0, true) := by kernel_rfl
theorem zeroT_153 : zeroT Try.prog 153 = some (.agg #[]) := by kernel_rfl
theorem sizeT_154 : sizeT Try.prog 154 = some 0 := by kernel_rfl
theorem shapeT_154 : shapeT Try.prog 154 = some (0, true) := by kernel_rfl
theorem placesOf_154 : placesOf Try.prog 154 = some [(0, 0)] := by kernel_rfl
theorem zeroT_154 : zeroT Try.prog 154 = some (.agg #[]) := by kernel_rfl
theorem sizeT_155 : sizeT Try.prog 155 = some 0 := by kernel_rfl
theorem shapeT_155 : shapeT Try.prog 155 = some (0, true) := by kernel_rfl
theorem placesOf_155 : placesOf Try.prog 155 = some [(0, 0)] := by kernel_rfl
theorem zeroT_155 : zeroT Try.prog 155 = some (.agg #[]) := by kernel_rfl
theorem sizeT_156 : sizeT Try.prog 156 = some 1 := by kernel_rfl
theorem shapeT_156 : shapeT Try.prog 156 = some (1, false) := by kernel_rfl
theorem sizeT_157 : sizeT Try.prog 157 = some 1 := by kernel_rfl
theorem shapeT_157 : shapeT Try.prog 157 = some (1, false) := by kernel_rfl
theorem zeroT_157 : zeroT Try.prog 157 = some (.int .u8 0) := by kernel_rfl
theorem sizeT_158 : sizeT Try.prog 158 = some 1 := by kernel_rfl
theorem shapeT_158 : shapeT Try.prog 158 = some (1, false) := by kernel_rfl
theorem zeroT_158 : zeroT Try.prog 158 = some (.int .u8 0) := by kernel_rfl
theorem sizeT_159 : sizeT Try.prog 159 = some 1 := by kernel_rfl
theorem shapeT_159 : shapeT Try.prog 159 = some (1, false) := by kernel_rfl
theorem sizeT_160 : sizeT Try.prog 160 = some 1 := by kernel_rfl
theorem shapeT_160 : shapeT Try.prog 160 = some (1, false) := by kernel_rfl
theorem zeroT_160 : zeroT Try.prog 160 = some (.pointer none) := by kernel_rfl
theorem sizeT_161 : sizeT Try.prog 161 = some 1 := by kernel_rfl
theorem shapeT_161 : shapeT Try.prog 161 = some (1, false) := by kernel_rfl
theorem zeroT_161 : zeroT Try.prog 161 = some (.int .i32 0) := by kernel_rfl
theorem sizeT_162 : sizeT Try.prog 162 = some 1 := by kernel_rfl
theorem shapeT_162 : shapeT Try.prog 162 = some (1, false) := by kernel_rfl
theorem zeroT_162 : zeroT Try.prog 162 = some (.int .i32 0) := by kernel_rfl
theorem sizeT_163 : sizeT Try.prog 163 = some 11 := by kernel_rfl
theorem shapeT_163 : shapeT Try.prog 163 = some (11, true) := by kernel_rfl
theorem fieldOff_163_0 : fieldOff Try.prog 163 0 = some 0 := by kernel_rfl
theorem fieldOff_163_1 : fieldOff Try.prog 163 1 = some 1 := by kernel_rfl
theorem fieldOff_163_2 : fieldOff Try.prog 163 2 = some 2 := by kernel_rfl
theorem fieldOff_163_3 : fieldOff Try.prog 163 3 = some 3 := by kernel_rfl
theorem fieldOff_163_4 : fieldOff Try.prog 163 4 = some 4 := by kernel_rfl
theorem fieldOff_163_5 : fieldOff Try.prog 163 5 = some 5 := by kernel_rfl
theorem fieldOff_163_6 : fieldOff Try.prog 163 6 = some 6 := by kernel_rfl
theorem fieldOff_163_7 : fieldOff Try.prog 163 7 = some 7 := by kernel_rfl
theorem fieldOff_163_8 : fieldOff Try.prog 163 8 = some 8 := by kernel_rfl
theorem fieldOff_163_9 : fieldOff Try.prog 163 9 = some 9 := by kernel_rfl
theorem fieldOff_163_10 : fieldOff Try.prog 163 10 = some 10 := by kernel_rfl
theorem placesOf_163 : placesOf Try.prog 163 = some [(0, 1), (1, 1), (2, 1), (3, 1), (4, 1), (5, 1), (6, 1), (7, 1), (8, 1), (9, 1), (10, 1)] := by kernel_rfl
theorem sizeT_164 : sizeT Try.prog 164 = some 11 := by kernel_rfl
theorem shapeT_164 : shapeT Try.prog 164 = some (11, true) := by kernel_rfl
theorem fieldOff_164_0 : fieldOff Try.prog 164 0 = some 0 := by kernel_rfl
theorem fieldOff_164_1 : fieldOff Try.prog 164 1 = some 1 := by kernel_rfl
theorem fieldOff_164_2 : fieldOff Try.prog 164 2 = some 2 := by kernel_rfl
theorem fieldOff_164_3 : fieldOff Try.prog 164 3 = some 3 := by kernel_rfl
theorem fieldOff_164_4 : fieldOff Try.prog 164 4 = some 4 := by kernel_rfl
theorem fieldOff_164_5 : fieldOff Try.prog 164 5 = some 5 := by kernel_rfl
theorem fieldOff_164_6 : fieldOff Try.prog 164 6 = some 6 := by kernel_rfl
theorem fieldOff_164_7 : fieldOff Try.prog 164 7 = some 7 := by kernel_rfl
theorem fieldOff_164_8 : fieldOff Try.prog 164 8 = some 8 := by kernel_rfl
theorem fieldOff_164_9 : fieldOff Try.prog 164 9 = some 9 := by kernel_rfl
theorem fieldOff_164_10 : fieldOff Try.prog 164 10 = some 10 := by kernel_rfl
theorem placesOf_164 : placesOf Try.prog 164 = some [(0, 1), (1, 1), (2, 1), (3, 1), (4, 1), (5, 1), (6, 1), (7, 1), (8, 1), (9, 1), (10, 1)] := by kernel_rfl
theorem sizeT_165 : sizeT Try.prog 165 = some 1 := by kernel_rfl
theorem shapeT_165 : shapeT Try.prog 165 = some (1, false) := by kernel_rfl
theorem sizeT_166 : sizeT Try.prog 166 = some 1 := by kernel_rfl
theorem shapeT_166 : shapeT Try.prog 166 = some (1, false) := by kernel_rfl
theorem zeroT_166 : zeroT Try.prog 166 = some (.pointer none) := by kernel_rfl

/-! the table of the regions that draw their order is right -/

theorem chk_3 (w0 : World) (t : Option Gf) : (Try.f3.body.map (chkCode (cfg w0 t) 3)) = some true := by kernel_rfl
theorem chk_4 (w0 : World) (t : Option Gf) : (Try.f4.body.map (chkCode (cfg w0 t) 4)) = some true := by kernel_rfl
theorem chk_5 (w0 : World) (t : Option Gf) : (Try.f5.body.map (chkCode (cfg w0 t) 5)) = some true := by kernel_rfl
theorem chk_7 (w0 : World) (t : Option Gf) : (Try.f7.body.map (chkCode (cfg w0 t) 7)) = some true := by kernel_rfl
theorem chk_10 (w0 : World) (t : Option Gf) : (Try.f10.body.map (chkCode (cfg w0 t) 10)) = some true := by kernel_rfl
theorem chk_18 (w0 : World) (t : Option Gf) : (Try.f18.body.map (chkCode (cfg w0 t) 18)) = some true := by kernel_rfl
theorem chk_20 (w0 : World) (t : Option Gf) : (Try.f20.body.map (chkCode (cfg w0 t) 20)) = some true := by kernel_rfl
theorem chk_21 (w0 : World) (t : Option Gf) : (Try.f21.body.map (chkCode (cfg w0 t) 21)) = some true := by kernel_rfl
theorem chk_22 (w0 : World) (t : Option Gf) : (Try.f22.body.map (chkCode (cfg w0 t) 22)) = some true := by kernel_rfl
theorem chk_24 (w0 : World) (t : Option Gf) : (Try.f24.body.map (chkCode (cfg w0 t) 24)) = some true := by kernel_rfl
theorem chk_34 (w0 : World) (t : Option Gf) : (Try.f34.body.map (chkCode (cfg w0 t) 34)) = some true := by kernel_rfl
theorem chk_40 (w0 : World) (t : Option Gf) : (Try.f40.body.map (chkCode (cfg w0 t) 40)) = some true := by kernel_rfl
theorem chk_60 (w0 : World) (t : Option Gf) : (Try.f60.body.map (chkCode (cfg w0 t) 60)) = some true := by kernel_rfl
theorem chk_63 (w0 : World) (t : Option Gf) : (Try.f63.body.map (chkCode (cfg w0 t) 63)) = some true := by kernel_rfl
theorem un_none (f : FuncId) (h : f ∉ [3, 4, 5, 7, 10, 18, 20, 21, 22, 24, 34, 40, 60, 63]) : ∀ id, unT f id = none := by
  intro id
  unfold unT
  split <;> first | rfl | (exfalso; apply h; simp; done)
theorem chk_all (w0 : World) (t : Option Gf) (f : FuncId) (fn : Func) (b : Code) (h1 : Try.prog.funcs[f]? = some fn) (h2 : fn.body = some b) : chkCode (cfg w0 t) f b = true := by
  by_cases h : f ∈ [3, 4, 5, 7, 10, 18, 20, 21, 22, 24, 34, 40, 60, 63]
  · simp only [List.mem_cons, List.not_mem_nil, or_false] at h
    rcases h with rfl | rfl | rfl | rfl | rfl | rfl | rfl | rfl | rfl | rfl | rfl | rfl | rfl | rfl
    · have e := chk_3 w0 t
      rw [Try.func3] at h1; cases h1; rw [h2] at e; simpa using e
    · have e := chk_4 w0 t
      rw [Try.func4] at h1; cases h1; rw [h2] at e; simpa using e
    · have e := chk_5 w0 t
      rw [Try.func5] at h1; cases h1; rw [h2] at e; simpa using e
    · have e := chk_7 w0 t
      rw [Try.func7] at h1; cases h1; rw [h2] at e; simpa using e
    · have e := chk_10 w0 t
      rw [Try.func10] at h1; cases h1; rw [h2] at e; simpa using e
    · have e := chk_18 w0 t
      rw [Try.func18] at h1; cases h1; rw [h2] at e; simpa using e
    · have e := chk_20 w0 t
      rw [Try.func20] at h1; cases h1; rw [h2] at e; simpa using e
    · have e := chk_21 w0 t
      rw [Try.func21] at h1; cases h1; rw [h2] at e; simpa using e
    · have e := chk_22 w0 t
      rw [Try.func22] at h1; cases h1; rw [h2] at e; simpa using e
    · have e := chk_24 w0 t
      rw [Try.func24] at h1; cases h1; rw [h2] at e; simpa using e
    · have e := chk_34 w0 t
      rw [Try.func34] at h1; cases h1; rw [h2] at e; simpa using e
    · have e := chk_40 w0 t
      rw [Try.func40] at h1; cases h1; rw [h2] at e; simpa using e
    · have e := chk_60 w0 t
      rw [Try.func60] at h1; cases h1; rw [h2] at e; simpa using e
    · have e := chk_63 w0 t
      rw [Try.func63] at h1; cases h1; rw [h2] at e; simpa using e
  · exact chkCode_none (c := cfg w0 t) (un_none f h) b
theorem cfg_ok0 (w0 : World) : CfgOk (cfg w0 none) where
  mix := by kernel_rfl
  chk f fn b _ h1 h2 := chk_all w0 none f fn b h1 h2
  tab f g h := by simp [cfg] at h
end Go.Proofs.Ytmglahnoemgieaa.Ax
namespace Go.Proofs.Ytmglahnoemgieaa.Ax
open Go Go.RowKit
set_option linter.unusedSimpArgs false
set_option linter.unusedVariables false

theorem now_program (P : Program) : semNow P program = some P := rfl
theorem now_ite {α : Type} {P : Program} {c : Prop} [Decidable c] {a b : Sem α} : semNow P (if c then a else b) = if c then semNow P a else semNow P b := by split <;> rfl
theorem now_equalIn_struct (P : Program) (d : Nat) (t : TypeId) (xs ys : Array Value) (ht : P.underlying t = some (.struct (P.fieldsOf t))) (hp : P.stoodInHeld t = false) :
    semNow P (Op.equalIn (d + 1) t (.agg xs) (.agg ys)) = semNow P (Op.eqFields d xs ys (P.fieldsOf t).toList) := by
  simp only [Op.equalIn, now_bind, now_und, ht, Option.bind_some, now_program, hp, now_ite, Bool.false_eq_true, reduceIte]
  rw [← Array.forIn_toList]
  generalize (P.fieldsOf t).toList = fs
  clear ht
  induction fs with
  | nil => rfl
  | cons f fs ih =>
    simp only [List.forIn_cons, Op.eqFields, now_ite, now_bind]
    split
    · cases semNow P (part f.type xs f.offset) with
      | none => rfl
      | some a =>
        simp only [Option.bind_some]
        cases semNow P (part f.type ys f.offset) with
        | none => rfl
        | some b =>
          simp only [Option.bind_some]
          cases semNow P (Op.equalIn d f.type a b) with
          | none => rfl
          | some r =>
            cases r
            · rfl
            · simp only [Option.bind_some, Bool.not_true, Bool.false_eq_true, reduceIte, now_pure]
              exact ih
    · simp only [now_pure, Option.bind_some]
      exact ih
theorem now_equal_int {P : Program} (d : Nat) {t : TypeId} {k k' : IntKind} {a b : Int} (h : P.underlying t = some (.int k')) : semNow P (Op.equalIn (d + 1) t (.int k a) (.int k b)) = some (decide (a = b)) := by
  simp only [Op.equalIn, now_bind, now_und, h, Option.bind, now_pure]
  congr 1
theorem now_equal_bool {P : Program} (d : Nat) {t : TypeId} {a b : Bool} (h : P.underlying t = some .bool) : semNow P (Op.equalIn (d + 1) t (.bool a) (.bool b)) = some (decide (a = b)) := by
  simp only [Op.equalIn, now_bind, now_und, h, Option.bind, now_pure]
  congr 1
theorem now_equal_str {P : Program} (d : Nat) {t : TypeId} {a b : ByteArray} (h : P.underlying t = some .string) : semNow P (Op.equalIn (d + 1) t (.string a) (.string b)) = some (decide (a = b)) := by
  simp only [Op.equalIn, now_bind, now_und, h, Option.bind, now_pure]
  rw [← bytes_beq, ← beq_toListBytes]
theorem now_part {P : Program} {t : TypeId} {cs : Array Value} {off : Nat} {v : Value} (h : shapeT P t = some (1, false)) (hv : cs[off]? = some v) : semNow P (part t cs off) = some v := by
  have ha : semNow P (isAgg t) = some false := by
    unfold shapeT isAggT at h
    unfold isAgg
    rw [now_bind, now_und]
    cases hu : P.underlying t with
    | none => rw [hu] at h; cases h
    | some u =>
      rw [hu] at h
      cases u <;> first
        | rfl
        | (simp only [Option.map_eq_some_iff] at h; obtain ⟨n, _, h⟩ := h; cases h)
  unfold part
  rw [now_bind, ha]
  simp only [Option.bind, Bool.false_eq_true, if_false, hv]
  rfl
/-- the fields of a struct, one after another -/
theorem now_field {P : Program} {d : Nat} {xs ys : Array Value} {f : Field} {fs : List Field} {a b : Value} {r s : Bool} (hn : (f.name == "_") = false) (ht : shapeT P f.type = some (1, false)) (ha : xs[f.offset]? = some a) (hb : ys[f.offset]? = some b)
    (he : semNow P (Op.equalIn d f.type a b) = some r) (hr : semNow P (Op.eqFields d xs ys fs) = some s) : semNow P (Op.eqFields d xs ys (f :: fs)) = some (r && s) := by
  have hn' : f.name ≠ "_" := by simpa using hn
  rw [Op.eqFields]
  simp only [if_pos hn', now_bind, now_part ht ha, now_part ht hb, he, Option.bind]
  cases r
  · rfl
  · simpa using hr
theorem now_nofield {P : Program} {d : Nat} {xs ys : Array Value} : semNow P (Op.eqFields d xs ys []) = some true := rfl

theorem p2_agg {P : Program} {t : TypeId} {x y : Operand} {l m : List AV} {xs ys : List Value} {fs : Array Field} {r : Bool} (h1 : toVals l = some xs) (h2 : toVals m = some ys) (hg : P.eqGuardType P.depth t = false) (hu : P.underlying t = some (.struct fs)) (hp : P.stoodInHeld t = false)
    (h : ∀ d, semNow P (Op.eqFields (d + 1) xs.toArray ys.toArray fs.toList) = some r) : p2 P (.agg l) (.agg m) (fun a b => do eqGuard .eql t x y a b; binOp .eql t a b) = some (.done (.val (.bool r))) := by
  have hg' : semNow P (eqGuard .eql t x y (.agg xs.toArray) (.agg ys.toArray)) = some () := by
    unfold eqGuard
    simp only [now_ite, now_bind, now_program, Option.bind_some, hg]
    rfl
  have hf : P.fieldsOf t = fs := by simp [Program.fieldsOf, hu]
  have he : semNow P (Op.equal t (.agg xs.toArray) (.agg ys.toArray)) = some r := by
    obtain ⟨k, hk⟩ : ∃ k, Op.maxDepth = k + 1 + 1 := ⟨_, rfl⟩
    unfold Op.equal
    rw [hk, now_equalIn_struct P (k + 1) t _ _ (by rw [hf]; exact hu) hp, hf]
    exact h k
  have hb : semNow P (binOp .eql t (.agg xs.toArray) (.agg ys.toArray)) = some (.bool r) := by
    show semNow P (do pure (Value.bool (← Op.equal t (.agg xs.toArray) (.agg ys.toArray)))) = _
    rw [now_bind, he]; rfl
  simp only [p2, toVal, h1, h2, Option.map_some, now_bind, hg', hb, Option.bind, norm, norm1]
theorem p2_aggne {P : Program} {t : TypeId} {x y : Operand} {l m : List AV} {xs ys : List Value} {fs : Array Field} {r : Bool} (h1 : toVals l = some xs) (h2 : toVals m = some ys) (hg : P.eqGuardType P.depth t = false) (hu : P.underlying t = some (.struct fs)) (hp : P.stoodInHeld t = false)
    (h : ∀ d, semNow P (Op.eqFields (d + 1) xs.toArray ys.toArray fs.toList) = some r) : p2 P (.agg l) (.agg m) (fun a b => do eqGuard .neq t x y a b; binOp .neq t a b) = some (.done (.val (.bool !r))) := by
  have hg' : semNow P (eqGuard .neq t x y (.agg xs.toArray) (.agg ys.toArray)) = some () := by
    unfold eqGuard
    simp only [now_ite, now_bind, now_program, Option.bind_some, hg]
    rfl
  have hf : P.fieldsOf t = fs := by simp [Program.fieldsOf, hu]
  have he : semNow P (Op.equal t (.agg xs.toArray) (.agg ys.toArray)) = some r := by
    obtain ⟨k, hk⟩ : ∃ k, Op.maxDepth = k + 1 + 1 := ⟨_, rfl⟩
    unfold Op.equal
    rw [hk, now_equalIn_struct P (k + 1) t _ _ (by rw [hf]; exact hu) hp, hf]
    exact h k
  have hb : semNow P (binOp .neq t (.agg xs.toArray) (.agg ys.toArray)) = some (.bool !r) := by
    show semNow P (do pure (Value.bool !(← Op.equal t (.agg xs.toArray) (.agg ys.toArray)))) = _
    rw [now_bind, he]; rfl
  simp only [p2, toVal, h1, h2, Option.map_some, now_bind, hg', hb, Option.bind, norm, norm1]

abbrev vI (n : Int) : AV := .val (.int .i64 n)
abbrev vS (s : ByteArray) : AV := .val (.string s)
abbrev vB (b : Bool) : AV := .val (.bool b)
variable {x y : Operand}
theorem eql31 {a0 b0 : Int} {a1 b1 : Int} : p2 Try.prog (.agg [vI a0, vI a1]) (.agg [vI b0, vI b1]) (fun p q => do eqGuard .eql 31 x y p q; binOp .eql 31 p q) = some (.done (.val (.bool ((decide (a0 = b0) && (decide (a1 = b1) && true))))) ) :=
  p2_agg rfl rfl Try.eqGuardType31 Try.underlying31 Try.stoodInHeld31 fun d => (now_field (a := .int .i64 a0) (b := .int .i64 b0) rfl shapeT_3 rfl rfl (now_equal_int d Try.underlying3) (now_field (a := .int .i64 a1) (b := .int .i64 b1) rfl shapeT_3 rfl rfl (now_equal_int d Try.underlying3) now_nofield))
theorem neq31 {a0 b0 : Int} {a1 b1 : Int} : p2 Try.prog (.agg [vI a0, vI a1]) (.agg [vI b0, vI b1]) (fun p q => do eqGuard .neq 31 x y p q; binOp .neq 31 p q) = some (.done (.val (.bool (!(decide (a0 = b0) && (decide (a1 = b1) && true))))) ) :=
  p2_aggne rfl rfl Try.eqGuardType31 Try.underlying31 Try.stoodInHeld31 fun d => (now_field (a := .int .i64 a0) (b := .int .i64 b0) rfl shapeT_3 rfl rfl (now_equal_int d Try.underlying3) (now_field (a := .int .i64 a1) (b := .int .i64 b1) rfl shapeT_3 rfl rfl (now_equal_int d Try.underlying3) now_nofield))
theorem eql36 {a0 b0 : Int} {a1 b1 : Int} {a2 b2 : ByteArray} {a3 b3 : Bool} {a4 b4 : Int} : p2 Try.prog (.agg [vI a0, vI a1, vS a2, vB a3, vI a4]) (.agg [vI b0, vI b1, vS b2, vB b3, vI b4]) (fun p q => do eqGuard .eql 36 x y p q; binOp .eql 36 p q) = some (.done (.val (.bool ((decide (a0 = b0) && (decide (a1 = b1) && (decide (a2 = b2) && (decide (a3 = b3) && (decide (a4 = b4) && true)))))))) ) :=
  p2_agg rfl rfl Try.eqGuardType36 Try.underlying36 Try.stoodInHeld36 fun d => (now_field (a := .int .i64 a0) (b := .int .i64 b0) rfl shapeT_32 rfl rfl (now_equal_int d Try.underlying32) (now_field (a := .int .i64 a1) (b := .int .i64 b1) rfl shapeT_33 rfl rfl (now_equal_int d Try.underlying33) (now_field (a := .string a2) (b := .string b2) rfl shapeT_9 rfl rfl (now_equal_str d Try.underlying9) (now_field (a := .bool a3) (b := .bool b3) rfl shapeT_4 rfl rfl (now_equal_bool d Try.underlying4) (now_field (a := .int .i64 a4) (b := .int .i64 b4) rfl shapeT_34 rfl rfl (now_equal_int d Try.underlying34) now_nofield)))))
theorem neq36 {a0 b0 : Int} {a1 b1 : Int} {a2 b2 : ByteArray} {a3 b3 : Bool} {a4 b4 : Int} : p2 Try.prog (.agg [vI a0, vI a1, vS a2, vB a3, vI a4]) (.agg [vI b0, vI b1, vS b2, vB b3, vI b4]) (fun p q => do eqGuard .neq 36 x y p q; binOp .neq 36 p q) = some (.done (.val (.bool (!(decide (a0 = b0) && (decide (a1 = b1) && (decide (a2 = b2) && (decide (a3 = b3) && (decide (a4 = b4) && true)))))))) ) :=
  p2_aggne rfl rfl Try.eqGuardType36 Try.underlying36 Try.stoodInHeld36 fun d => (now_field (a := .int .i64 a0) (b := .int .i64 b0) rfl shapeT_32 rfl rfl (now_equal_int d Try.underlying32) (now_field (a := .int .i64 a1) (b := .int .i64 b1) rfl shapeT_33 rfl rfl (now_equal_int d Try.underlying33) (now_field (a := .string a2) (b := .string b2) rfl shapeT_9 rfl rfl (now_equal_str d Try.underlying9) (now_field (a := .bool a3) (b := .bool b3) rfl shapeT_4 rfl rfl (now_equal_bool d Try.underlying4) (now_field (a := .int .i64 a4) (b := .int .i64 b4) rfl shapeT_34 rfl rfl (now_equal_int d Try.underlying34) now_nofield)))))
theorem eql40 {a0 b0 : ByteArray} {a1 b1 : ByteArray} {a2 b2 : Int} {a3 b3 : Int} : p2 Try.prog (.agg [vS a0, vS a1, vI a2, vI a3]) (.agg [vS b0, vS b1, vI b2, vI b3]) (fun p q => do eqGuard .eql 40 x y p q; binOp .eql 40 p q) = some (.done (.val (.bool ((decide (a0 = b0) && (decide (a1 = b1) && (decide (a2 = b2) && (decide (a3 = b3) && true))))))) ) :=
  p2_agg rfl rfl Try.eqGuardType40 Try.underlying40 Try.stoodInHeld40 fun d => (now_field (a := .string a0) (b := .string b0) rfl shapeT_9 rfl rfl (now_equal_str d Try.underlying9) (now_field (a := .string a1) (b := .string b1) rfl shapeT_9 rfl rfl (now_equal_str d Try.underlying9) (now_field (a := .int .i64 a2) (b := .int .i64 b2) rfl shapeT_3 rfl rfl (now_equal_int d Try.underlying3) (now_field (a := .int .i64 a3) (b := .int .i64 b3) rfl shapeT_3 rfl rfl (now_equal_int d Try.underlying3) now_nofield))))
theorem neq40 {a0 b0 : ByteArray} {a1 b1 : ByteArray} {a2 b2 : Int} {a3 b3 : Int} : p2 Try.prog (.agg [vS a0, vS a1, vI a2, vI a3]) (.agg [vS b0, vS b1, vI b2, vI b3]) (fun p q => do eqGuard .neq 40 x y p q; binOp .neq 40 p q) = some (.done (.val (.bool (!(decide (a0 = b0) && (decide (a1 = b1) && (decide (a2 = b2) && (decide (a3 = b3) && true))))))) ) :=
  p2_aggne rfl rfl Try.eqGuardType40 Try.underlying40 Try.stoodInHeld40 fun d => (now_field (a := .string a0) (b := .string b0) rfl shapeT_9 rfl rfl (now_equal_str d Try.underlying9) (now_field (a := .string a1) (b := .string b1) rfl shapeT_9 rfl rfl (now_equal_str d Try.underlying9) (now_field (a := .int .i64 a2) (b := .int .i64 b2) rfl shapeT_3 rfl rfl (now_equal_int d Try.underlying3) (now_field (a := .int .i64 a3) (b := .int .i64 b3) rfl shapeT_3 rfl rfl (now_equal_int d Try.underlying3) now_nofield))))
theorem eql41 {a0 b0 : Int} {a1 b1 : Int} {a2 b2 : ByteArray} {a3 b3 : Bool} {a4 b4 : Int} : p2 Try.prog (.agg [vI a0, vI a1, vS a2, vB a3, vI a4]) (.agg [vI b0, vI b1, vS b2, vB b3, vI b4]) (fun p q => do eqGuard .eql 41 x y p q; binOp .eql 41 p q) = some (.done (.val (.bool ((decide (a0 = b0) && (decide (a1 = b1) && (decide (a2 = b2) && (decide (a3 = b3) && (decide (a4 = b4) && true)))))))) ) :=
  p2_agg rfl rfl Try.eqGuardType41 Try.underlying41 Try.stoodInHeld41 fun d => (now_field (a := .int .i64 a0) (b := .int .i64 b0) rfl shapeT_3 rfl rfl (now_equal_int d Try.underlying3) (now_field (a := .int .i64 a1) (b := .int .i64 b1) rfl shapeT_2 rfl rfl (now_equal_int d Try.underlying2) (now_field (a := .string a2) (b := .string b2) rfl shapeT_9 rfl rfl (now_equal_str d Try.underlying9) (now_field (a := .bool a3) (b := .bool b3) rfl shapeT_4 rfl rfl (now_equal_bool d Try.underlying4) (now_field (a := .int .i64 a4) (b := .int .i64 b4) rfl shapeT_3 rfl rfl (now_equal_int d Try.underlying3) now_nofield)))))
theorem neq41 {a0 b0 : Int} {a1 b1 : Int} {a2 b2 : ByteArray} {a3 b3 : Bool} {a4 b4 : Int} : p2 Try.prog (.agg [vI a0, vI a1, vS a2, vB a3, vI a4]) (.agg [vI b0, vI b1, vS b2, vB b3, vI b4]) (fun p q => do eqGuard .neq 41 x y p q; binOp .neq 41 p q) = some (.done (.val (.bool (!(decide (a0 = b0) && (decide (a1 = b1) && (decide (a2 = b2) && (decide (a3 = b3) && (decide (a4 = b4) && true)))))))) ) :=
  p2_aggne rfl rfl Try.eqGuardType41 Try.underlying41 Try.stoodInHeld41 fun d => (now_field (a := .int .i64 a0) (b := .int .i64 b0) rfl shapeT_3 rfl rfl (now_equal_int d Try.underlying3) (now_field (a := .int .i64 a1) (b := .int .i64 b1) rfl shapeT_2 rfl rfl (now_equal_int d Try.underlying2) (now_field (a := .string a2) (b := .string b2) rfl shapeT_9 rfl rfl (now_equal_str d Try.underlying9) (now_field (a := .bool a3) (b := .bool b3) rfl shapeT_4 rfl rfl (now_equal_bool d Try.underlying4) (now_field (a := .int .i64 a4) (b := .int .i64 b4) rfl shapeT_3 rfl rfl (now_equal_int d Try.underlying3) now_nofield)))))
theorem eql55 {a0 b0 : Bool} {a1 b1 : Int} {a2 b2 : Int} {a3 b3 : ByteArray} : p2 Try.prog (.agg [vB a0, vI a1, vI a2, vS a3]) (.agg [vB b0, vI b1, vI b2, vS b3]) (fun p q => do eqGuard .eql 55 x y p q; binOp .eql 55 p q) = some (.done (.val (.bool ((decide (a0 = b0) && (decide (a1 = b1) && (decide (a2 = b2) && (decide (a3 = b3) && true))))))) ) :=
  p2_agg rfl rfl Try.eqGuardType55 Try.underlying55 Try.stoodInHeld55 fun d => (now_field (a := .bool a0) (b := .bool b0) rfl shapeT_4 rfl rfl (now_equal_bool d Try.underlying4) (now_field (a := .int .i64 a1) (b := .int .i64 b1) rfl shapeT_2 rfl rfl (now_equal_int d Try.underlying2) (now_field (a := .int .i64 a2) (b := .int .i64 b2) rfl shapeT_2 rfl rfl (now_equal_int d Try.underlying2) (now_field (a := .string a3) (b := .string b3) rfl shapeT_9 rfl rfl (now_equal_str d Try.underlying9) now_nofield))))
theorem neq55 {a0 b0 : Bool} {a1 b1 : Int} {a2 b2 : Int} {a3 b3 : ByteArray} : p2 Try.prog (.agg [vB a0, vI a1, vI a2, vS a3]) (.agg [vB b0, vI b1, vI b2, vS b3]) (fun p q => do eqGuard .neq 55 x y p q; binOp .neq 55 p q) = some (.done (.val (.bool (!(decide (a0 = b0) && (decide (a1 = b1) && (decide (a2 = b2) && (decide (a3 = b3) && true))))))) ) :=
  p2_aggne rfl rfl Try.eqGuardType55 Try.underlying55 Try.stoodInHeld55 fun d => (now_field (a := .bool a0) (b := .bool b0) rfl shapeT_4 rfl rfl (now_equal_bool d Try.underlying4) (now_field (a := .int .i64 a1) (b := .int .i64 b1) rfl shapeT_2 rfl rfl (now_equal_int d Try.underlying2) (now_field (a := .int .i64 a2) (b := .int .i64 b2) rfl shapeT_2 rfl rfl (now_equal_int d Try.underlying2) (now_field (a := .string a3) (b := .string b3) rfl shapeT_9 rfl rfl (now_equal_str d Try.underlying9) now_nofield))))
theorem eql57 {a0 b0 : Bool} {a1 b1 : Int} {a2 b2 : Int} {a3 b3 : ByteArray} : p2 Try.prog (.agg [vB a0, vI a1, vI a2, vS a3]) (.agg [vB b0, vI b1, vI b2, vS b3]) (fun p q => do eqGuard .eql 57 x y p q; binOp .eql 57 p q) = some (.done (.val (.bool ((decide (a0 = b0) && (decide (a1 = b1) && (decide (a2 = b2) && (decide (a3 = b3) && true))))))) ) :=
  p2_agg rfl rfl Try.eqGuardType57 Try.underlying57 Try.stoodInHeld57 fun d => (now_field (a := .bool a0) (b := .bool b0) rfl shapeT_4 rfl rfl (now_equal_bool d Try.underlying4) (now_field (a := .int .i64 a1) (b := .int .i64 b1) rfl shapeT_2 rfl rfl (now_equal_int d Try.underlying2) (now_field (a := .int .i64 a2) (b := .int .i64 b2) rfl shapeT_2 rfl rfl (now_equal_int d Try.underlying2) (now_field (a := .string a3) (b := .string b3) rfl shapeT_9 rfl rfl (now_equal_str d Try.underlying9) now_nofield))))
theorem neq57 {a0 b0 : Bool} {a1 b1 : Int} {a2 b2 : Int} {a3 b3 : ByteArray} : p2 Try.prog (.agg [vB a0, vI a1, vI a2, vS a3]) (.agg [vB b0, vI b1, vI b2, vS b3]) (fun p q => do eqGuard .neq 57 x y p q; binOp .neq 57 p q) = some (.done (.val (.bool (!(decide (a0 = b0) && (decide (a1 = b1) && (decide (a2 = b2) && (decide (a3 = b3) && true))))))) ) :=
  p2_aggne rfl rfl Try.eqGuardType57 Try.underlying57 Try.stoodInHeld57 fun d => (now_field (a := .bool a0) (b := .bool b0) rfl shapeT_4 rfl rfl (now_equal_bool d Try.underlying4) (now_field (a := .int .i64 a1) (b := .int .i64 b1) rfl shapeT_2 rfl rfl (now_equal_int d Try.underlying2) (now_field (a := .int .i64 a2) (b := .int .i64 b2) rfl shapeT_2 rfl rfl (now_equal_int d Try.underlying2) (now_field (a := .string a3) (b := .string b3) rfl shapeT_9 rfl rfl (now_equal_str d Try.underlying9) now_nofield))))
end Go.Proofs.Ytmglahnoemgieaa.Ax
namespace Go.Proofs.Ytmglahnoemgieaa.Ax
open Go Go.RowKit
set_option linter.unusedSimpArgs false
set_option linter.unusedVariables false

variable {c : Cfg}
/-! ### step by step -/

def gtest (a : AV) (w : Bool) : Bool := match a with
  | .val (.bool b) => b == w
  | _ => false
def gval (d : Option Tmp) (fr : List AV) (w : Bool) : Bool := match d with
  | some d => gtest (getT fr d) w
  | none => false
def dstAt : List Oper → Nat → Option Tmp
  | [], _ => none
  | o :: _, 0 => o.dst
  | _ :: l, n + 1 => dstAt l n
def opD (ops : Array Oper) (j : Nat) : Option Tmp := (ops[j]?).bind (·.dst)
theorem opD_lit {l : List Oper} {j : Nat} : opD l.toArray j = dstAt l j := by
  unfold opD
  rw [List.getElem?_toArray]
  induction l generalizing j with
  | nil => rfl
  | cons o l ih => cases j with
    | zero => rfl
    | succ n => simpa [dstAt] using ih (j := n)
theorem dst_zero {o : Oper} {l : List Oper} : dstAt (o :: l) 0 = o.dst := rfl
theorem dst_succ {o : Oper} {l : List Oper} {n : Nat} : dstAt (o :: l) (n + 1) = dstAt l n := rfl
theorem gval_some {d : Tmp} {fr : List AV} {w : Bool} : gval (some d) fr w = gtest (getT fr d) w := rfl
theorem bempty : ({ data := #[] } : ByteArray) = ByteArray.empty := rfl
theorem gtest_undef {w : Bool} : gtest undefA w = false := rfl
theorem gtest_bool {b w : Bool} : gtest (.val (.bool b)) w = (b == w) := rfl
def reqS (c : Cfg) (call : CallF) (r : Option Req) (d : Option Tmp) (s : S) : Option (Option AV × S × Dom) := match r with
  | none => none
  | some (.done v) => some (none, { s with fr := putT s.fr d v }, .pure)
  | some (.pan v) => some (some v, s, .wh)
  | some (.box r) => match doBox s.loc r with
    | some (v, loc) => some (none, { s with fr := putT s.fr d v, loc := loc }, r.dom)
    | none => none
  | some (.heap r) => match doHeap c call s.h r with
    | some (.val v h lw) => some (none, { s with fr := putT s.fr d v, h := h, lw := lwMin s.lw lw }, r.dom)
    | some (.pan v h lw) => some (some v, { s with h := h, lw := lwMin s.lw lw }, r.dom)
    | none => none
def boxS (r : Option (AV × Loc)) (d : Option Tmp) (s : S) (m : Dom) : Option (Option AV × S × Dom) := match r with
  | some (v, loc) => some (none, { s with fr := putT s.fr d v, loc := loc }, m)
  | none => none
def heapS (r : Option HRes) (d : Option Tmp) (s : S) (m : Dom) : Option (Option AV × S × Dom) := match r with
  | some (.val v h lw) => some (none, { s with fr := putT s.fr d v, h := h, lw := lwMin s.lw lw }, m)
  | some (.pan v h lw) => some (some v, { s with h := h, lw := lwMin s.lw lw }, m)
  | none => none
section
variable {call : CallF} {fr : List AV} {loc : Loc} {h : H} {lw : Option Nat} {d : Option Tmp} {v : AV}
theorem rs_done : reqS c call (some (.done v)) d ⟨fr, loc, h, lw⟩ = some (none, ⟨putT fr d v, loc, h, lw⟩, .pure) := rfl
theorem rs_pan {s : S} : reqS c call (some (.pan v)) d s = some (some v, s, .wh) := rfl
theorem rs_box {r : BReq} : reqS c call (some (.box r)) d ⟨fr, loc, h, lw⟩ = boxS (doBox loc r) d ⟨fr, loc, h, lw⟩ r.dom := rfl
theorem rs_heap {r : HReq} : reqS c call (some (.heap r)) d ⟨fr, loc, h, lw⟩ = heapS (doHeap c call h r) d ⟨fr, loc, h, lw⟩ r.dom := rfl
theorem bs_some {loc' : Loc} {m : Dom} : boxS (some (v, loc')) d ⟨fr, loc, h, lw⟩ m = some (none, ⟨putT fr d v, loc', h, lw⟩, m) := rfl
theorem hs_val {h' : H} {lw' : Option Nat} {m : Dom} : heapS (some (.val v h' lw')) d ⟨fr, loc, h, lw⟩ m = some (none, ⟨putT fr d v, loc, h', lwMin lw lw'⟩, m) := rfl
theorem hs_pan {h' : H} {lw' : Option Nat} {m : Dom} : heapS (some (.pan v h' lw')) d ⟨fr, loc, h, lw⟩ m = some (some v, ⟨fr, loc, h', lwMin lw lw'⟩, m) := rfl
end
theorem aone_req {call : CallF} {f : FuncId} {o : Oper} {s : S} : aone c call f o s = reqS c call (aop c f s.fr o) o.dst s := by
  unfold aone reqS
  cases aop c f s.fr o with
  | none => rfl
  | some r => cases r <;> rfl

section
variable {call : CallF} {f : FuncId} {ops : Array Oper} {d : Option Tmp} {op : Op} {ty : TypeId} {pos : String} {af : Array Edge} {g : Option (Nat × Bool)}
theorem astep_none {fr : List AV} {loc : Loc} {h : H} {lw : Option Nat} : astep c call f ops { dst := d, op := op, type := ty, pos := pos, after := af, guard := none } ⟨fr, loc, h, lw⟩ = reqS c call (aop c f fr { dst := d, op := op, type := ty, pos := pos, after := af, guard := none }) d ⟨fr, loc, h, lw⟩ := by
  unfold astep
  rw [aone_req]
  rfl
def gStep (t : Bool) (c : Cfg) (call : CallF) (f : FuncId) (o : Oper) (s : S) : Option (Option AV × S × Dom) := if t then reqS c call (aop c f s.fr o) o.dst s else some (none, { s with fr := putT s.fr o.dst undefA }, .pure)
theorem gs_true {fr : List AV} {loc : Loc} {h : H} {lw : Option Nat} : gStep true c call f { dst := d, op := op, type := ty, pos := pos, after := af, guard := g } ⟨fr, loc, h, lw⟩ = reqS c call (aop c f fr { dst := d, op := op, type := ty, pos := pos, after := af, guard := g }) d ⟨fr, loc, h, lw⟩ := rfl
theorem gs_false {fr : List AV} {loc : Loc} {h : H} {lw : Option Nat} : gStep false c call f { dst := d, op := op, type := ty, pos := pos, after := af, guard := g } ⟨fr, loc, h, lw⟩ = some (none, ⟨putT fr d undefA, loc, h, lw⟩, .pure) := rfl
theorem astep_some {fr : List AV} {loc : Loc} {h : H} {lw : Option Nat} {j : Nat} {w : Bool} : astep c call f ops { dst := d, op := op, type := ty, pos := pos, after := af, guard := some (j, w) } ⟨fr, loc, h, lw⟩ =
    gStep (gval (opD ops j) fr w) c call f { dst := d, op := op, type := ty, pos := pos, after := af, guard := some (j, w) } ⟨fr, loc, h, lw⟩ := by
  unfold astep
  rw [aone_req]
  unfold wantedA gStep gval gtest opD
  simp only
  cases (ops[j]?).bind (·.dst) <;> rfl
end

/-- the operations of a region, with what they have met so far -/
noncomputable def xops (c : Cfg) (f : FuncId) (ops : Array Oper) (l : List Oper) (s : S) (acc : List Dom) : Option (Option AV × S × List Dom) :=
  (aops c (acallI c) f ops l s).map fun (p, s, ds) => (p, s, acc.reverse ++ ds)
def xThen (r : Option (Option AV × S × Dom)) (acc : List Dom) (k : S → List Dom → Option (Option AV × S × List Dom)) : Option (Option AV × S × List Dom) := match r with
  | some (none, s, d) => k s (d :: acc)
  | some (some v, s, d) => some (some v, s, (d :: acc).reverse)
  | none => none
theorem xops_nil {f : FuncId} {ops : Array Oper} {fr : List AV} {loc : Loc} {h : H} {lw : Option Nat} {acc : List Dom} : xops c f ops [] ⟨fr, loc, h, lw⟩ acc = some (none, ⟨fr, loc, h, lw⟩, acc.reverse) := by
  simp [xops, aops]
theorem xops_cons {f : FuncId} {ops : Array Oper} {o : Oper} {l : List Oper} {fr : List AV} {loc : Loc} {h : H} {lw : Option Nat} {acc : List Dom} : xops c f ops (o :: l) ⟨fr, loc, h, lw⟩ acc = xThen (astep c (acallI c) f ops o ⟨fr, loc, h, lw⟩) acc (fun s acc => xops c f ops l s acc) := by
  unfold xops xThen
  simp only [aops]
  cases astep c (acallI c) f ops o ⟨fr, loc, h, lw⟩ with
  | none => rfl
  | some y =>
    obtain ⟨p, s', d⟩ := y
    cases p with
    | some v => simp
    | none =>
      simp only
      cases aops c (acallI c) f ops l s' with
      | none => rfl
      | some z => simp
theorem xt_none {s : S} {d : Dom} {acc : List Dom} {k : S → List Dom → Option (Option AV × S × List Dom)} : xThen (some (none, s, d)) acc k = k s (d :: acc) := rfl
theorem xt_some {s : S} {d : Dom} {v : AV} {acc : List Dom} {k : S → List Dom → Option (Option AV × S × List Dom)} : xThen (some (some v, s, d)) acc k = some (some v, s, (d :: acc).reverse) := rfl

/-- a region's end -/
def regE (t : Option (List (Nat × Nat) × List Nat)) (draw : Bool) (r : Option (Option AV × S × List Dom)) : Option (Ex × S) := match r with
  | none => none
  | some (none, s, ds) => if draw then (match t with | some (l, _) => if pairsOk ds l then some (.normal, s) else none | none => none) else some (.normal, s)
  | some (some v, s, ds) => if draw then (match t with | some (l, ps) => if pairsOk ds l && ps.contains (ds.length - 1) then some (.pan v, s) else none | none => none) else some (.pan v, s)
theorem I_reg {f : FuncId} {id : Nat} {l : List Oper} {draw : Bool} {fr : List AV} {loc : Loc} {h : H} {lw : Option Nat} : acodeI c f (.region id l.toArray draw) ⟨fr, loc, h, lw⟩ = regE (c.un f id) draw (xops c f l.toArray l ⟨fr, loc, h, lw⟩ []) := by
  rw [I_region]
  unfold aregion regE xops
  rw [List.toList_toArray]
  cases aops c (acallI c) f l.toArray l ⟨fr, loc, h, lw⟩ with
  | none => rfl
  | some y => obtain ⟨p, s', ds⟩ := y; cases p <;> rfl
theorem re_normal {t : Option (List (Nat × Nat) × List Nat)} {s : S} {ds : List Dom} : regE t false (some (none, s, ds)) = some (.normal, s) := rfl
theorem re_pan {t : Option (List (Nat × Nat) × List Nat)} {s : S} {ds : List Dom} {v : AV} : regE t false (some (some v, s, ds)) = some (.pan v, s) := rfl
theorem re_draw {l : List (Nat × Nat)} {ps : List Nat} {s : S} {ds : List Dom} (h : pairsOk ds l = true) : regE (some (l, ps)) true (some (none, s, ds)) = some (.normal, s) := by
  simp only [regE, h, reduceIte]
theorem re_drawpan {l : List (Nat × Nat)} {ps : List Nat} {s : S} {ds : List Dom} {v : AV} (h : pairsOk ds l = true) (h' : ps.contains (ds.length - 1) = true) : regE (some (l, ps)) true (some (some v, s, ds)) = some (.pan v, s) := by
  simp only [regE, h, h', Bool.and_self, reduceIte]
section
variable {f : FuncId} {fr : List AV} {loc : Loc} {h : H} {lw : Option Nat}
theorem X_seq {a b : Code} : acodeI c f (.seq a b) ⟨fr, loc, h, lw⟩ = andThen (acodeI c f a ⟨fr, loc, h, lw⟩) (fun s => acodeI c f b s) := I_seq
theorem X_block {id : Nat} {a : Code} : acodeI c f (.block id a) ⟨fr, loc, h, lw⟩ = inBlk id (acodeI c f a ⟨fr, loc, h, lw⟩) := I_block
theorem X_loop {a : Code} : acodeI c f (.loop a) ⟨fr, loc, h, lw⟩ = andThen (acodeI c f a ⟨fr, loc, h, lw⟩) (fun s => acodeI c f (.loop a) s) := I_loop
noncomputable def cStep (t : Option Bool) (c : Cfg) (f : FuncId) (a b : Code) (s : S) : Option (Ex × S) := ifA t (acodeI c f a s) (acodeI c f b s)
theorem X_cond {x : Operand} {a b : Code} : acodeI c f (.cond x a b) ⟨fr, loc, h, lw⟩ = cStep (isBoolA (ev fr x)) c f a b ⟨fr, loc, h, lw⟩ := I_cond
theorem cs_true {a b : Code} {s : S} : cStep (some true) c f a b s = acodeI c f a s := rfl
theorem cs_false {a b : Code} {s : S} : cStep (some false) c f a b s = acodeI c f b s := rfl
end
section
variable {f : FuncId} {fr : List AV} {ty : TypeId} {pos : String} {af : Array Edge} {g : Option (Nat × Bool)}
def rngA (u : Option TypeDesc) (a : AV) (d : Tmp) : Option Req := match u, a with
  | some .string, .val (.string s) => some (.box (.iter d s))
  | _, _ => none
theorem a_range {t : TypeId} {x : Operand} {d : Tmp} : aop c f fr { dst := some d, op := .range t x, type := ty, pos := pos, after := af, guard := g } = rngA (c.P.underlying t) (ev fr x) d := by
  simp only [aop, rngA]
  cases c.P.underlying t with
  | none => rfl
  | some u => cases u <;> first | rfl | (cases ev fr x <;> first | rfl | (rename_i v; cases v <;> rfl))
theorem rng_str {s : ByteArray} {d : Tmp} : rngA (some .string) (.val (.string s)) d = some (.box (.iter d s)) := rfl
def nxtA (a : AV) (b : Bool) : Option Req := match a with
  | .bx s g 0 => if b then some (.box (.next s g)) else none
  | _ => none
theorem a_next {d : Option Tmp} {x : Operand} {b : Bool} : aop c f fr { dst := d, op := .next x b, type := ty, pos := pos, after := af, guard := g } = nxtA (ev fr x) b := by
  simp only [aop, nxtA]
  cases ev fr x with
  | bx s g off => cases off <;> rfl
  | _ => rfl
theorem nxt_bx {s k : Nat} : nxtA (.bx s k 0) true = some (.box (.next s k)) := rfl
end
section
variable {f : FuncId} {fr : List AV} {d : Option Tmp} {ty : TypeId} {pos : String} {af : Array Edge} {g : Option (Nat × Bool)} {P : Program} {s : ByteArray} {b e : AV} {r : Option Req}
def sliLO (P : Program) (t : TypeId) (a b : AV) (r : Option Req) : Option Req := match a with
  | .val (.string s) => p2 P (.val (.string s)) b (fun x y => Instr.sliceAt t x (some y) none none)
  | _ => r
def sliLHO (P : Program) (t : TypeId) (a b e : AV) (r : Option Req) : Option Req := match a with
  | .val (.string s) => p3 P (.val (.string s)) b e (fun x y z => Instr.sliceAt t x (some y) (some z) none)
  | _ => r
theorem a_sliL {t : TypeId} {x y : Operand} : aop c f fr { dst := d, op := .slice t x (some y) none none, type := ty, pos := pos, after := af, guard := g } =
    sliLO c.P t (ev fr x) (ev fr y) (aopAs c f fr { dst := d, op := .slice t x (some y) none none, type := ty, pos := pos, after := af, guard := g }) := by
  unfold sliLO
  split
  · rename_i s hs; rw [a_sliceL hs, hs]
  · rfl
theorem sliL_str {t : TypeId} : sliLO P t (.val (.string s)) b r = p2 P (.val (.string s)) b (fun x y => Instr.sliceAt t x (some y) none none) := rfl
theorem a_sliLH {t : TypeId} {x y z : Operand} : aop c f fr { dst := d, op := .slice t x (some y) (some z) none, type := ty, pos := pos, after := af, guard := g } =
    sliLHO c.P t (ev fr x) (ev fr y) (ev fr z) (aopAs c f fr { dst := d, op := .slice t x (some y) (some z) none, type := ty, pos := pos, after := af, guard := g }) := by
  unfold sliLHO
  split
  · rename_i s hs; rw [a_sliceLH hs, hs]
  · rfl
theorem sliLH_str {t : TypeId} : sliLHO P t (.val (.string s)) b e r = p3 P (.val (.string s)) b e (fun x y z => Instr.sliceAt t x (some y) (some z) none) := rfl
end
theorem one_int {k : IntKind} {n : Int} : oneA (.val (.int k n)) = true := rfl
theorem one_bool {b : Bool} : oneA (.val (.bool b)) = true := rfl
theorem one_str {s : ByteArray} : oneA (.val (.string s)) = true := rfl
theorem one_slice {a : Option Addr} {n m : Nat} : oneA (.val (.slice a n m)) = true := rfl
theorem one_pointer {a : Option Addr} : oneA (.val (.pointer a)) = true := rfl
theorem one_sl {b g o n e : Nat} : oneA (.sl b g o n e) = true := rfl
theorem one_ptr {b g o : Nat} : oneA (.ptr b g o) = true := rfl
theorem one_bx {b g o : Nat} : oneA (.bx b g o) = true := rfl
theorem one_lit {cs : List AV} {n : Nat} : oneA (.lit cs n) = true := rfl
theorem c_agg {l : List AV} : cellsOf (.agg l) = l := rfl
theorem c_vagg {cs : Array Value} : cellsOf (.val (.agg cs)) = cs.toList.map .val := rfl
theorem c_int {k : IntKind} {n : Int} : cellsOf (.val (.int k n)) = [.val (.int k n)] := rfl
theorem c_bool {b : Bool} : cellsOf (.val (.bool b)) = [.val (.bool b)] := rfl
theorem c_str {s : ByteArray} : cellsOf (.val (.string s)) = [.val (.string s)] := rfl
theorem c_slice {a : Option Addr} {n m : Nat} : cellsOf (.val (.slice a n m)) = [.val (.slice a n m)] := rfl
theorem c_pointer {a : Option Addr} : cellsOf (.val (.pointer a)) = [.val (.pointer a)] := rfl
theorem c_sl {b g o n e : Nat} : cellsOf (.sl b g o n e) = [.sl b g o n e] := rfl
theorem c_ptr {b g o : Nat} : cellsOf (.ptr b g o) = [.ptr b g o] := rfl
theorem c_bx {b g o : Nat} : cellsOf (.bx b g o) = [.bx b g o] := rfl
theorem c_lit {cs : List AV} {n : Nat} : cellsOf (.lit cs n) = [.lit cs n] := rfl
theorem c_ifc {t : TypeId} {x : AV} : cellsOf (.ifc t x) = [.ifc t x] := rfl
theorem c_one {v : AV} (h : oneA v = true) : cellsOf v = [v] := by
  cases v <;> first | rfl | (rename_i x; cases x <;> first | rfl | (simp [oneA, oneV] at h; done)) | (simp [oneA] at h; done)
theorem non_slice {e : TypeId} : nonInt (some (.slice e)) = true := rfl
theorem non_str : nonInt (some .string) = true := rfl
/-! ### the heap, request by request -/
section
variable {call : CallF} {h : H}
theorem dh_new {cells : List AV} {es : Nat} {len : Option Nat} : doHeap c call h (.new cells es len) = some (.val (match len with | none => .ptr h.length 0 0 | some n => .sl h.length 0 0 n es) (h ++ [⟨cells, 0⟩]) none) := rfl
def ldH (k : Option Blk) (g off n : Nat) (agg : Bool) (h : H) : Option HRes := match k with
  | some k => if k.gen = g then (takeA k.cells off n agg).map fun v => .val v h none else none
  | none => none
theorem dh_load {b g off n : Nat} {agg : Bool} : doHeap c call h (.load b g off n agg) = ldH h[b]? g off n agg h := rfl
theorem ldH_some {k : Blk} {g off n : Nat} {agg : Bool} : ldH (some k) g off n agg h = if k.gen = g then (takeA k.cells off n agg).map fun v => .val v h none else none := rfl
def stH (k : Option Blk) (b g off : Nat) (cells : List AV) (h : H) : Option HRes := match k with
  | some k => if k.gen = g then (overA k.cells off cells).map fun l => .val undefA (h.set b ⟨l, k.gen⟩) (some b) else none
  | none => none
theorem dh_store {b g off : Nat} {cells : List AV} : doHeap c call h (.store b g off cells) = stH h[b]? b g off cells h := rfl
theorem stH_some {k : Blk} {b g off : Nat} {cells : List AV} : stH (some k) b g off cells h = if k.gen = g then (overA k.cells off cells).map fun l => .val undefA (h.set b ⟨l, k.gen⟩) (some b) else none := rfl
def strH (k : Option Blk) (g off len : Nat) (h : H) : Option HRes := match k with
  | some k => if k.gen = g ∧ off + len ≤ k.cells.length then (unbytes ((k.cells.drop off).take len)).map fun l => .val (.val (.string ⟨l.toArray⟩)) h none else none
  | none => none
theorem dh_str {b g off len : Nat} : doHeap c call h (.str b g off len) = strH h[b]? g off len h := rfl
theorem strH_some {k : Blk} {g off len : Nat} : strH (some k) g off len h = if k.gen = g ∧ off + len ≤ k.cells.length then (unbytes ((k.cells.drop off).take len)).map fun l => .val (.val (.string ⟨l.toArray⟩)) h none else none := rfl
def clH (r : Option (Out × H × Option Nat)) : Option HRes := match r with
  | some (.ret v, h', lw) => some (.val v h' lw)
  | some (.pan v, h', lw) => some (.pan v h' lw)
  | none => none
theorem dh_call {f : FuncId} {args : List AV} : doHeap c call h (.call f args) = clH (call f args h) := rfl
theorem cl_ret {v : AV} {h' : H} {lw : Option Nat} : clH (some (.ret v, h', lw)) = some (.val v h' lw) := rfl
theorem cl_pan {v : AV} {h' : H} {lw : Option Nat} : clH (some (.pan v, h', lw)) = some (.pan v h' lw) := rfl
theorem lw_l {a : Option Nat} : lwMin none a = a := rfl
theorem lw_r {a : Option Nat} : lwMin a none = a := by cases a <;> rfl
theorem lwo_none {n : Nat} : lwOver none n = true := rfl
theorem lwo_some {l n : Nat} : lwOver (some l) n = decide (n ≤ l) := rfl
end
theorem skol {α β : Type} [Nonempty β] {P : α → Prop} {Q : α → β → Prop} (h : ∀ a, P a → ∃ b, Q a b) : ∃ g : α → β, ∀ a, P a → Q a (g a) := by
  classical
  refine ⟨fun a => if k : ∃ b, Q a b then k.choose else Classical.choice inferInstance, fun a ha => ?_⟩
  have k := h a ha
  show Q a (if k : ∃ b, Q a b then k.choose else _)
  rw [dif_pos k]
  exact k.choose_spec
/-! ### loops of a function's code, in the text's order -/
def loopsOf : Code → List Code
  | .seq a b => loopsOf a ++ loopsOf b
  | .cond _ a b => loopsOf a ++ loopsOf b
  | .block _ b => loopsOf b
  | .loop b => b :: loopsOf b
  | _ => []
def lp (fn : Func) (k : Nat) : Code := ((loopsOf (fn.body.getD .skip))[k]?).getD .skip
end Go.Proofs.Ytmglahnoemgieaa.Ax
namespace Go.Proofs.Ytmglahnoemgieaa.Ax
open Go Go.RowKit
attribute [push_cast] I_skip I_label I_ret I_exit I_reg X_seq X_cond X_block cs_true cs_false then_normal then_ret then_exit then_pan blk_normal blk_ret blk_exit blk_pan er_normal
  er_ret er_pan isBoolA xops_nil xops_cons xt_none xt_some astep_none astep_some gs_true gs_false gval_some gtest_bool gtest_undef bempty eq_self opD_lit dst_zero dst_succ rs_done
  rs_pan rs_box rs_heap bs_some hs_val hs_pan re_normal re_pan re_draw re_drawpan a_move a_assign a_pick pickA_bool newB_box newB_heap a_alloc a_box a_load load_bx load_ptr load_lp
  load_val a_store a_field fld_bx fld_ptr fld_lp a_nil nil_bx nil_ptr nil_lp a_indexAddr a_unOp p1_not a_index a_extract ext_tup a_iface ifcA a_panic a_call a_len a_append non_slice
  non_str a_min a_max p2_min p2_max a_binOp a_sliceH slih_str slih_slice a_sliL sliL_str a_sliLH sliLH_str a_convert conv_int conv_bytes_lit conv_bytes_heap conv_sl conv_lit a_range
  rng_str a_next nxt_bx a_buildSlice a_bld bld_some wrap_i64 ev norm1 norm fl_get fl_set upd_at ini putT c_agg c_vagg c_int c_bool c_str c_slice c_pointer c_sl c_ptr c_bx c_lit
  c_ifc one_int one_bool one_str one_slice one_pointer one_sl one_ptr one_bx one_lit noBx noBxs doBox dh_new dh_load ldH_some dh_store stH_some dh_str strH_some dh_call cl_ret
  cl_pan takeA overA BReq.dom HReq.dom lw_l lw_r resultsA resultA leave tupA outV belowA belowAs lwo_none lwo_some lwOver_min fillA unbytes intOfA nilSlice cfg_P cfg_hb cfg_un
  cfg_w0 Option.bind_some Option.map_some Option.getD_some List.map_cons List.map_nil List.cons_append List.nil_append List.append_nil List.length_cons List.length_nil
  List.toList_toArray List.all_cons List.all_nil List.getElem?_cons_zero List.getElem?_cons_succ List.getElem?_nil List.getElem?_toArray List.take_succ_cons List.take_zero
  List.take_nil List.drop_succ_cons List.drop_zero List.drop_nil List.append_assoc Array.toList_empty List.reverse_cons List.reverse_nil Bool.and_true Bool.true_and Bool.and_self
  Bool.not_true Bool.not_false Bool.and_false Bool.false_and BEq.rfl beq_self_eq_true Bool.true_beq Bool.false_beq Nat.add_zero Nat.zero_add Nat.le_refl and_self and_true true_and
  and_false false_and decide_true decide_false decide_eq_true_eq Option.some.injEq Bool.false_eq_true store_bx store_ptr Dom.meets List.getD_cons_zero List.getD_cons_succ
  List.getD_nil Bool.or_false Bool.or_true Bool.false_or Bool.true_or eql31 eql36 eql40 eql41 eql55 eql57 neq57 List.contains_nil List.contains_cons Int.cast_ofNat_Int Nat.zero_mul
  Int.zero_add Int.toNat_natCast
attribute [push_cast] Try.underlying2 Try.underlying3 Try.underlying4 Try.underlying5 Try.underlying9 Try.underlying20 Try.underlying21 Try.underlying23 Try.underlying25
  Try.underlying26 Try.underlying28 Try.underlying29 Try.underlying31 Try.underlying32 Try.underlying33 Try.underlying34 Try.underlying36 Try.underlying37 Try.underlying39
  Try.underlying40 Try.underlying41 Try.underlying42 Try.underlying44 Try.underlying47 Try.underlying52 Try.underlying53 Try.underlying55 Try.underlying57 Try.underlying61
  Try.underlying62 Try.underlying73 Try.underlying74 Try.underlying80 Try.underlying82 Try.underlying83 Try.underlying85 Try.underlying86 Try.underlying88 Try.underlying90
  Try.underlying91 Try.underlying93 Try.underlying107 Try.underlying108 Try.underlying110 Try.underlying123 Try.underlying150 elemSize_26 elemSize_37 elemSize_42 elemSize_52
  elemSize_53 elemSize_62 elemSize_80 elemSize_83 elemSize_86 elemSize_150 fieldOff_23_0 fieldOff_23_1 fieldOff_23_2 fieldOff_23_3 fieldOff_25_0 fieldOff_25_1 fieldOff_25_2
  fieldOff_25_3 fieldOff_25_4 fieldOff_28_0 fieldOff_28_1 fieldOff_28_2 fieldOff_28_3 fieldOff_28_4 fieldOff_28_5 fieldOff_31_0 fieldOff_31_1 fieldOff_36_0 fieldOff_36_1
  fieldOff_36_2 fieldOff_36_3 fieldOff_36_4 fieldOff_39_0 fieldOff_39_1 fieldOff_39_2 fieldOff_39_3 fieldOff_39_4 fieldOff_39_5 fieldOff_39_6 fieldOff_40_0 fieldOff_40_1
  fieldOff_40_2 fieldOff_40_3 fieldOff_41_0 fieldOff_41_1 fieldOff_41_2 fieldOff_41_3 fieldOff_41_4 fieldOff_44_0 fieldOff_44_1 fieldOff_44_2 fieldOff_44_3 fieldOff_44_4
  fieldOff_44_5 fieldOff_55_0 fieldOff_55_1 fieldOff_55_2 fieldOff_55_3 fieldOff_57_0 fieldOff_57_1 fieldOff_57_2 fieldOff_57_3 fieldOff_82_0 fieldOff_82_1 fieldOff_85_0
  fieldOff_85_1 fieldOff_85_2 fieldOff_88_0 fieldOff_88_1 fieldOff_90_0 fieldOff_90_1 fieldOff_90_2 fieldOff_93_0 fieldOff_110_0 fieldOff_110_1 hb_3_3 hb_3_7 hb_3_8 hb_3_36 hb_3_43
  hb_4_3 hb_4_5 hb_4_7 hb_4_8 hb_4_14 hb_4_16 hb_4_18 hb_4_20 hb_4_39 hb_4_66 hb_4_76 hb_5_3 hb_5_4 hb_5_9 hb_5_10 hb_5_13 hb_5_15 hb_5_17 hb_5_21 hb_5_56 hb_5_57 hb_6_2 hb_6_3
  hb_6_5 hb_6_6 hb_6_7 hb_6_8 hb_7_1 hb_7_2 hb_7_3 hb_7_4 hb_7_5 hb_7_6 hb_7_7 hb_7_9 hb_7_10 hb_7_11 hb_7_13 hb_7_124 hb_7_130 hb_7_137 hb_7_142 hb_8_1 hb_8_8 hb_8_13 hb_8_86
  hb_9_1 hb_9_17 hb_10_1 hb_10_9 hb_10_28 hb_11_1 hb_12_3 hb_12_7 hb_13_1 hb_13_5 hb_14_1 hb_14_11 hb_15_2 hb_15_3 hb_15_7 hb_16_2 hb_16_7 hb_16_8 hb_16_12 hb_17_2 hb_17_16 hb_18_2
  hb_18_8 hb_19_2 hb_19_3 hb_19_6 hb_19_7 hb_19_9 hb_19_10 hb_20_1 hb_20_2 hb_20_3 hb_21_1 hb_21_2 hb_22_23 hb_23_5 hb_24_1 hb_24_12 hb_24_29 hb_24_38 hb_24_50 hb_24_58 hb_24_61
  hb_25_3 hb_25_5 hb_26_29 hb_26_32 hb_27_1 hb_28_1 hb_28_18 hb_28_36 hb_28_47 hb_28_61 hb_28_69 hb_28_77 hb_28_80 hb_30_1 hb_32_3 hb_33_1 hb_34_1 hb_35_1 hb_35_4 hb_36_1 hb_37_1
  hb_39_3 hb_40_2 hb_40_3 hb_40_50 hb_42_4 hb_43_4 hb_43_8 hb_44_10 hb_44_14 hb_44_18 hb_44_70 hb_44_76 hb_46_2 hb_46_3 hb_50_1 hb_51_2 hb_52_2 hb_53_2 hb_54_2 hb_59_3 hb_60_2
  hb_60_3 hb_61_2 hb_61_3 hb_61_4 hb_61_29 hb_68_4 hb_68_10 hb_72_2 hb_72_3 hb_73_5 placesOf_23 placesOf_25 placesOf_28 placesOf_31 placesOf_36 placesOf_39 placesOf_40 placesOf_41
  placesOf_44 placesOf_55 placesOf_57 placesOf_82 placesOf_85 placesOf_88 placesOf_90 placesOf_93 placesOf_107 placesOf_110 shapeT_2 shapeT_3 shapeT_4 shapeT_5 shapeT_9 shapeT_20
  shapeT_21 shapeT_23 shapeT_25 shapeT_26 shapeT_28 shapeT_29 shapeT_31 shapeT_32 shapeT_33 shapeT_34 shapeT_36 shapeT_37 shapeT_39 shapeT_40 shapeT_41 shapeT_42 shapeT_44 shapeT_47
  shapeT_52 shapeT_53 shapeT_55 shapeT_57 shapeT_61 shapeT_62 shapeT_73 shapeT_74 shapeT_80 shapeT_82 shapeT_83 shapeT_85 shapeT_86 shapeT_88 shapeT_90 shapeT_91 shapeT_93
  shapeT_107 shapeT_108 shapeT_110 shapeT_123 shapeT_150 sizeT_2 sizeT_3 sizeT_4 sizeT_5 sizeT_9 sizeT_20 sizeT_21 sizeT_23 sizeT_25 sizeT_26 sizeT_28 sizeT_29 sizeT_31 sizeT_32
  sizeT_33 sizeT_34 sizeT_36 sizeT_37 sizeT_39 sizeT_40 sizeT_41 sizeT_42 sizeT_44 sizeT_47 sizeT_52 sizeT_53 sizeT_55 sizeT_57 sizeT_61 sizeT_62 sizeT_73 sizeT_74 sizeT_80 sizeT_82
  sizeT_83 sizeT_85 sizeT_86 sizeT_88 sizeT_90 sizeT_91 sizeT_93 sizeT_107 sizeT_108 sizeT_110 sizeT_123 sizeT_150 un_3_16 un_4_5 un_4_6 un_5_1 un_7_18 un_7_20 un_10_9 un_18_5
  un_20_2 un_21_1 un_22_3 un_24_11 un_34_5 un_34_7 un_34_9 un_34_11 un_40_15 un_40_17 un_60_1 un_63_1 un_63_4 zeroT_2 zeroT_3 zeroT_4 zeroT_5 zeroT_9 zeroT_20 zeroT_21 zeroT_23
  zeroT_25 zeroT_26 zeroT_28 zeroT_29 zeroT_31 zeroT_32 zeroT_33 zeroT_34 zeroT_36 zeroT_37 zeroT_39 zeroT_40 zeroT_41 zeroT_42 zeroT_44 zeroT_47 zeroT_52 zeroT_53 zeroT_55 zeroT_57
  zeroT_61 zeroT_62 zeroT_73 zeroT_74 zeroT_80 zeroT_82 zeroT_83 zeroT_85 zeroT_86 zeroT_88 zeroT_90 zeroT_91 zeroT_93 zeroT_107 zeroT_108 zeroT_110 zeroT_123 zeroT_150
end Go.Proofs.Ytmglahnoemgieaa.Ax
