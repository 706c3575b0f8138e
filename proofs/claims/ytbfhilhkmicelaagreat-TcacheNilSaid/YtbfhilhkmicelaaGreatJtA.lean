/-
  The quick forms are right, too, where a function is not gone into.
-/
import Derived.Test.YtbfhilhkmicelaaGreatJt
import Derived.Test.YtbfhilhkmicelaaGreatAwk
import Derived.KernelRfl
namespace Go.Proofs.YtbfhilhkmicelaaGreat
open Go.Em

theorem ja10 (a : Nat) : JOk (withA cx a) 10 ft10 := ⟨[0, 1, 2, 3, 4, 6, 7, 8, 11, 12, 13, 14, 15, 17, 20, 21, 22, 23, 24, 26, 28, 29, 30, 31, 33, 35, 37, 38, 39], mkFn Tryz.f10, by kernel_rfl, by kernel_rfl, by kernel_rfl⟩
theorem ja14 (a : Nat) : JOk (withA cx a) 14 ft14 := ⟨[0, 1, 2, 3, 4, 5, 6, 9, 11, 7, 8, 12, 13], mkFn Tryz.f14, by kernel_rfl, by kernel_rfl, by kernel_rfl⟩
theorem ja19 (a : Nat) : JOk (withA cx a) 19 ft19 := ⟨[0, 1, 2, 3, 4, 5, 6, 7, 8, 11, 12, 13, 14, 15, 16, 17, 18, 19, 20, 21, 22], mkFn Tryz.f19, by kernel_rfl, by kernel_rfl, by kernel_rfl⟩
theorem ja28 (a : Nat) : JOk (withA cx a) 28 ft28 := ⟨[0, 1, 3, 5, 6, 8, 10, 13], mkFn Tryz.f28, by kernel_rfl, by kernel_rfl, by kernel_rfl⟩
theorem ja30 (a : Nat) : JOk (withA cx a) 30 ft30 := ⟨[0, 1, 2, 3, 4, 5, 7, 8], mkFn Tryz.f30, by kernel_rfl, by kernel_rfl, by kernel_rfl⟩
theorem ja31 (a : Nat) : JOk (withA cx a) 31 ft31 := ⟨[0, 1, 2, 3, 4, 5, 6, 7, 8, 9, 10, 11], mkFn Tryz.f31, by kernel_rfl, by kernel_rfl, by kernel_rfl⟩
theorem ja32 (a : Nat) : JOk (withA cx a) 32 ft32 := ⟨[0, 2, 3, 4], mkFn Tryz.f32, by kernel_rfl, by kernel_rfl, by kernel_rfl⟩
theorem ja34 (a : Nat) : JOk (withA cx a) 34 ft34 := ⟨[0, 5, 6, 7, 8, 9, 10, 11, 12, 13, 14, 15, 16, 17, 18, 19, 20, 21, 24, 25, 27], mkFn Tryz.f34, by kernel_rfl, by kernel_rfl, by kernel_rfl⟩
theorem ja36 (a : Nat) : JOk (withA cx a) 36 ft36 := ⟨[0, 1, 2, 3, 4, 6, 8, 9, 11, 12, 13, 10, 5, 16], mkFn Tryz.f36, by kernel_rfl, by kernel_rfl, by kernel_rfl⟩
theorem ja39 (a : Nat) : JOk (withA cx a) 39 ft39 := ⟨[0, 2, 3, 4, 6], mkFn Tryz.f39, by kernel_rfl, by kernel_rfl, by kernel_rfl⟩
theorem ja43 (a : Nat) : JOk (withA cx a) 43 ft43 := ⟨[0, 1, 2, 3, 4, 5, 7, 10, 12], mkFn Tryz.f43, by kernel_rfl, by kernel_rfl, by kernel_rfl⟩
theorem ja47 (a : Nat) : JOk (withA cx a) 47 ft47 := ⟨[0, 1, 2], mkFn Tryz.f47, by kernel_rfl, by kernel_rfl, by kernel_rfl⟩
theorem ja48 (a : Nat) : JOk (withA cx a) 48 ft48 := ⟨[0, 3, 4, 5, 6], mkFn Tryz.f48, by kernel_rfl, by kernel_rfl, by kernel_rfl⟩
theorem ja49 (a : Nat) : JOk (withA cx a) 49 ft49 := ⟨[0, 4, 5, 6, 7, 8, 10, 14, 15, 16, 17, 18, 19], mkFn Tryz.f49, by kernel_rfl, by kernel_rfl, by kernel_rfl⟩
theorem ja52 (a : Nat) : JOk (withA cx a) 52 ft52 := ⟨[0, 2, 3, 5, 4, 6], mkFn Tryz.f52, by kernel_rfl, by kernel_rfl, by kernel_rfl⟩
theorem ja59 (a : Nat) : JOk (withA cx a) 59 ft59 := ⟨[0, 1, 2, 3, 4, 5], mkFn Tryz.f59, by kernel_rfl, by kernel_rfl, by kernel_rfl⟩
theorem ja61 (a : Nat) : JOk (withA cx a) 61 ft61 := ⟨[0, 1], mkFn Tryz.f61, by kernel_rfl, by kernel_rfl, by kernel_rfl⟩
theorem ja63 (a : Nat) : JOk (withA cx a) 63 ft63 := ⟨[0, 1, 2, 3, 4, 5, 6, 7], mkFn Tryz.f63, by kernel_rfl, by kernel_rfl, by kernel_rfl⟩
theorem ja67 (a : Nat) : JOk (withA cx a) 67 ft67 := ⟨[0, 1, 3, 5, 6], mkFn Tryz.f67, by kernel_rfl, by kernel_rfl, by kernel_rfl⟩
theorem ja68 (a : Nat) : JOk (withA cx a) 68 ft68 := ⟨[0, 2, 3, 5, 7, 8], mkFn Tryz.f68, by kernel_rfl, by kernel_rfl, by kernel_rfl⟩
theorem ja73 (a : Nat) : JOk (withA cx a) 73 ft73 := ⟨[0, 1, 2, 3, 4, 5, 6, 7, 8, 10, 11, 9, 12, 13, 15, 16, 14, 17], mkFn Tryz.f73, by kernel_rfl, by kernel_rfl, by kernel_rfl⟩
theorem ja76 (a : Nat) : JOk (withA cx a) 76 ft76 := ⟨[0, 1, 4, 5, 7, 6, 8], mkFn Tryz.f76, by kernel_rfl, by kernel_rfl, by kernel_rfl⟩
theorem ja81 (a : Nat) : JOk (withA cx a) 81 ft81 := ⟨[0, 1], mkFn Tryz.f81, by kernel_rfl, by kernel_rfl, by kernel_rfl⟩
theorem ja82 (a : Nat) : JOk (withA cx a) 82 ft82 := ⟨[0, 1, 2, 3, 4, 5, 6], mkFn Tryz.f82, by kernel_rfl, by kernel_rfl, by kernel_rfl⟩
theorem ja85 (a : Nat) : JOk (withA cx a) 85 ft85 := ⟨[0, 1, 2, 6, 7, 9, 11], mkFn Tryz.f85, by kernel_rfl, by kernel_rfl, by kernel_rfl⟩
theorem ja90 (a : Nat) : JOk (withA cx a) 90 ft90 := ⟨[0, 1], mkFn Tryz.f90, by kernel_rfl, by kernel_rfl, by kernel_rfl⟩
theorem ja92 (a : Nat) : JOk (withA cx a) 92 ft92 := ⟨[0, 3, 5, 6, 7, 8, 9, 11, 13, 14], mkFn Tryz.f92, by kernel_rfl, by kernel_rfl, by kernel_rfl⟩
theorem ja93 (a : Nat) : JOk (withA cx a) 93 ft93 := ⟨[0, 1], mkFn Tryz.f93, by kernel_rfl, by kernel_rfl, by kernel_rfl⟩
theorem ja94 (a : Nat) : JOk (withA cx a) 94 ft94 := ⟨[0, 1, 2, 3, 5, 6, 7, 8, 9, 10, 11, 12, 13], mkFn Tryz.f94, by kernel_rfl, by kernel_rfl, by kernel_rfl⟩
theorem ja102 (a : Nat) : JOk (withA cx a) 102 ft102 := ⟨[0, 1, 2, 3], mkFn Tryz.f102, by kernel_rfl, by kernel_rfl, by kernel_rfl⟩
theorem ja104 (a : Nat) : JOk (withA cx a) 104 ft104 := ⟨[0, 1, 2, 3, 6, 7, 8], mkFn Tryz.f104, by kernel_rfl, by kernel_rfl, by kernel_rfl⟩
theorem ja105 (a : Nat) : JOk (withA cx a) 105 ft105 := ⟨[0, 1, 2, 3, 4, 5], mkFn Tryz.f105, by kernel_rfl, by kernel_rfl, by kernel_rfl⟩
theorem ja106 (a : Nat) : JOk (withA cx a) 106 ft106 := ⟨[0, 2, 3, 4, 5, 7, 8, 9, 10, 11], mkFn Tryz.f106, by kernel_rfl, by kernel_rfl, by kernel_rfl⟩
theorem ja107 (a : Nat) : JOk (withA cx a) 107 ft107 := ⟨[0, 1, 2], mkFn Tryz.f107, by kernel_rfl, by kernel_rfl, by kernel_rfl⟩
theorem ja117 (a : Nat) : JOk (withA cx a) 117 ft117 := ⟨[0, 2, 3, 6], mkFn Tryz.f117, by kernel_rfl, by kernel_rfl, by kernel_rfl⟩
theorem ja129 (a : Nat) : JOk (withA cx a) 129 ft129 := ⟨[0, 1, 2, 3, 4, 5, 6, 7], mkFn Tryz.f129, by kernel_rfl, by kernel_rfl, by kernel_rfl⟩
theorem ja136 (a : Nat) : JOk (withA cx a) 136 ft136 := ⟨[0, 1, 3, 6, 5, 2], mkFn Tryz.f136, by kernel_rfl, by kernel_rfl, by kernel_rfl⟩
theorem ja148 (a : Nat) : JOk (withA cx a) 148 ft148 := ⟨[0, 1, 2, 3, 4, 5, 6, 7, 8, 9, 10, 11, 12], mkFn Tryz.f148, by kernel_rfl, by kernel_rfl, by kernel_rfl⟩
theorem ja149 (a : Nat) : JOk (withA cx a) 149 ft149 := ⟨[0, 1, 2, 3, 4, 6, 5, 7], mkFn Tryz.f149, by kernel_rfl, by kernel_rfl, by kernel_rfl⟩
theorem ja158 (a : Nat) : JOk (withA cx a) 158 ft158 := ⟨[0, 1, 2, 4], mkFn Tryz.f158, by kernel_rfl, by kernel_rfl, by kernel_rfl⟩
theorem ja179 (a : Nat) : JOk (withA cx a) 179 ft179 := ⟨[0, 1, 2, 3, 6, 7, 8, 9, 4, 5, 10], mkFn Tryz.f179, by kernel_rfl, by kernel_rfl, by kernel_rfl⟩
theorem ja180 (a : Nat) : JOk (withA cx a) 180 ft180 := ⟨[0, 1, 2, 3, 4, 5], mkFn Tryz.f180, by kernel_rfl, by kernel_rfl, by kernel_rfl⟩
theorem ja182 (a : Nat) : JOk (withA cx a) 182 ft182 := ⟨[0, 1], mkFn Tryz.f182, by kernel_rfl, by kernel_rfl, by kernel_rfl⟩
theorem ja183 (a : Nat) : JOk (withA cx a) 183 ft183 := ⟨[0, 1, 2, 3, 4], mkFn Tryz.f183, by kernel_rfl, by kernel_rfl, by kernel_rfl⟩
theorem ja185 (a : Nat) : JOk (withA cx a) 185 ft185 := ⟨[0, 1, 3, 4, 2], mkFn Tryz.f185, by kernel_rfl, by kernel_rfl, by kernel_rfl⟩
theorem ja198 (a : Nat) : JOk (withA cx a) 198 ft198 := ⟨[0, 1, 5, 7], mkFn Tryz.f198, by kernel_rfl, by kernel_rfl, by kernel_rfl⟩
theorem ja203 (a : Nat) : JOk (withA cx a) 203 ft203 := ⟨[0, 1, 2, 3], mkFn Tryz.f203, by kernel_rfl, by kernel_rfl, by kernel_rfl⟩
theorem ja263 (a : Nat) : JOk (withA cx a) 263 ft263 := ⟨[0, 1, 2, 3, 4, 6, 7, 8, 9, 10, 12], mkFn Tryz.f263, by kernel_rfl, by kernel_rfl, by kernel_rfl⟩
theorem ja272 (a : Nat) : JOk (withA cx a) 272 ft272 := ⟨[0, 1], mkFn Tryz.f272, by kernel_rfl, by kernel_rfl, by kernel_rfl⟩
theorem ja273 (a : Nat) : JOk (withA cx a) 273 ft273 := ⟨[0, 2, 3, 4, 5], mkFn Tryz.f273, by kernel_rfl, by kernel_rfl, by kernel_rfl⟩
theorem ja283 (a : Nat) : JOk (withA cx a) 283 ft283 := ⟨[0, 1], mkFn Tryz.f283, by kernel_rfl, by kernel_rfl, by kernel_rfl⟩
theorem ja284 (a : Nat) : JOk (withA cx a) 284 ft284 := ⟨[0, 3, 4], mkFn Tryz.f284, by kernel_rfl, by kernel_rfl, by kernel_rfl⟩
theorem ja286 (a : Nat) : JOk (withA cx a) 286 ft286 := ⟨[0, 2, 3, 5, 6, 7, 8], mkFn Tryz.f286, by kernel_rfl, by kernel_rfl, by kernel_rfl⟩
theorem ja305 (a : Nat) : JOk (withA cx a) 305 ft305 := ⟨[0, 1, 2, 3, 4, 5, 6, 7], mkFn Tryz.f305, by kernel_rfl, by kernel_rfl, by kernel_rfl⟩
theorem ja316 (a : Nat) : JOk (withA cx a) 316 ft316 := ⟨[0], mkFn Tryz.f316, by kernel_rfl, by kernel_rfl, by kernel_rfl⟩
theorem ja341 (a : Nat) : JOk (withA cx a) 341 ft341 := ⟨[0, 1, 2, 3, 4], mkFn Tryz.f341, by kernel_rfl, by kernel_rfl, by kernel_rfl⟩
theorem ja422 (a : Nat) : JOk (withA cx a) 422 ft422 := ⟨[0, 1], mkFn Tryz.f422, by kernel_rfl, by kernel_rfl, by kernel_rfl⟩
theorem ja424 (a : Nat) : JOk (withA cx a) 424 ft424 := ⟨[0, 1], mkFn Tryz.f424, by kernel_rfl, by kernel_rfl, by kernel_rfl⟩
theorem jt_alla (a : Nat) : AllT (JOk (withA cx a)) 1 0 jt := (AllT.mk (AllT.zero _) (AllT.mk (AllT.zero _) (AllT.mk (AllT.zero _) (AllT.mk (AllT.zero _) (AllT.mk (AllT.zero _) (AllT.mk (AllT.one (ja31 a)) (AllT.mk (AllT.one (ja63 a)) (.none _ _) (.none _ _)) (.none _ _)) (AllT.mk (AllT.one (ja47 a)) (.none _ _) (.none _ _))) (AllT.mk (AllT.zero _) (AllT.mk (AllT.one (ja39 a)) (AllT.mk (AllT.zero _) (AllT.mk (AllT.zero _) (AllT.mk (AllT.one (ja263 a)) (.none _ _) (.none _ _)) (.none _ _)) (.none _ _)) (.none _ _)) (AllT.mk (AllT.zero _) (.none _ _) (AllT.mk (AllT.zero _) (AllT.mk (AllT.one (ja183 a)) (.none _ _) (.none _ _)) (.none _ _))))) (AllT.mk (AllT.zero _) (AllT.mk (AllT.one (ja19 a)) (AllT.mk (AllT.zero _) (AllT.mk (AllT.one (ja67 a)) (.none _ _) (.none _ _)) (.none _ _)) (AllT.mk (AllT.zero _) (.none _ _) (AllT.mk (AllT.zero _) (AllT.mk (AllT.one (ja179 a)) (.none _ _) (.none _ _)) (.none _ _)))) (AllT.mk (AllT.zero _) (AllT.mk (AllT.one (ja43 a)) (AllT.mk (AllT.zero _) (.none _ _) (AllT.mk (AllT.one (ja203 a)) (.none _ _) (.none _ _))) (AllT.mk (AllT.one (ja107 a)) (.none _ _) (.none _ _))) (AllT.mk (AllT.one (ja59 a)) (AllT.mk (AllT.zero _) (AllT.mk (AllT.zero _) (AllT.mk (AllT.one (ja283 a)) (.none _ _) (.none _ _)) (.none _ _)) (.none _ _)) (.none _ _))))) (AllT.mk (AllT.zero _) (AllT.mk (AllT.zero _) (AllT.mk (AllT.zero _) (AllT.mk (AllT.zero _) (AllT.mk (AllT.zero _) (AllT.mk (AllT.one (ja129 a)) (.none _ _) (.none _ _)) (.none _ _)) (.none _ _)) (AllT.mk (AllT.one (ja49 a)) (AllT.mk (AllT.one (ja81 a)) (AllT.mk (AllT.zero _) (AllT.mk (AllT.one (ja273 a)) (.none _ _) (.none _ _)) (.none _ _)) (.none _ _)) (AllT.mk (AllT.zero _) (AllT.mk (AllT.zero _) (AllT.mk (AllT.one (ja305 a)) (.none _ _) (.none _ _)) (.none _ _)) (.none _ _)))) (AllT.mk (AllT.zero _) (AllT.mk (AllT.zero _) (AllT.mk (AllT.one (ja73 a)) (.none _ _) (.none _ _)) (AllT.mk (AllT.one (ja105 a)) (.none _ _) (.none _ _))) (AllT.mk (AllT.zero _) (.none _ _) (AllT.mk (AllT.zero _) (AllT.mk (AllT.one (ja185 a)) (.none _ _) (.none _ _)) (.none _ _))))) (AllT.mk (AllT.zero _) (AllT.mk (AllT.zero _) (.none _ _) (AllT.mk (AllT.zero _) (AllT.mk (AllT.one (ja85 a)) (AllT.mk (AllT.one (ja149 a)) (.none _ _) (.none _ _)) (AllT.mk (AllT.zero _) (AllT.mk (AllT.one (ja341 a)) (.none _ _) (.none _ _)) (.none _ _))) (AllT.mk (AllT.one (ja117 a)) (.none _ _) (.none _ _)))) (AllT.mk (AllT.zero _) (.none _ _) (AllT.mk (AllT.one (ja61 a)) (AllT.mk (AllT.one (ja93 a)) (.none _ _) (.none _ _)) (.none _ _)))))) (AllT.mk (AllT.zero _) (AllT.mk (AllT.zero _) (AllT.mk (AllT.zero _) (AllT.mk (AllT.zero _) (AllT.mk (AllT.one (ja32 a)) (.none _ _) (.none _ _)) (AllT.mk (AllT.one (ja48 a)) (AllT.mk (AllT.zero _) (AllT.mk (AllT.zero _) (AllT.mk (AllT.one (ja272 a)) (.none _ _) (.none _ _)) (.none _ _)) (.none _ _)) (.none _ _))) (AllT.mk (AllT.zero _) (AllT.mk (AllT.zero _) (AllT.mk (AllT.zero _) (AllT.mk (AllT.one (ja136 a)) (.none _ _) (.none _ _)) (.none _ _)) (AllT.mk (AllT.one (ja104 a)) (AllT.mk (AllT.zero _) (.none _ _) (AllT.mk (AllT.one (ja424 a)) (.none _ _) (.none _ _))) (.none _ _))) (.none _ _))) (AllT.mk (AllT.zero _) (AllT.mk (AllT.zero _) (AllT.mk (AllT.one (ja36 a)) (AllT.mk (AllT.one (ja68 a)) (.none _ _) (.none _ _)) (.none _ _)) (AllT.mk (AllT.one (ja52 a)) (AllT.mk (AllT.zero _) (AllT.mk (AllT.one (ja148 a)) (.none _ _) (.none _ _)) (.none _ _)) (AllT.mk (AllT.zero _) (AllT.mk (AllT.one (ja180 a)) (.none _ _) (.none _ _)) (.none _ _)))) (AllT.mk (AllT.one (ja28 a)) (AllT.mk (AllT.zero _) (AllT.mk (AllT.one (ja76 a)) (.none _ _) (.none _ _)) (.none _ _)) (AllT.mk (AllT.zero _) (AllT.mk (AllT.one (ja92 a)) (AllT.mk (AllT.zero _) (AllT.mk (AllT.one (ja284 a)) (.none _ _) (.none _ _)) (.none _ _)) (.none _ _)) (AllT.mk (AllT.zero _) (AllT.mk (AllT.zero _) (AllT.mk (AllT.one (ja316 a)) (.none _ _) (.none _ _)) (.none _ _)) (.none _ _)))))) (AllT.mk (AllT.zero _) (AllT.mk (AllT.one (ja10 a)) (AllT.mk (AllT.zero _) (AllT.mk (AllT.one (ja34 a)) (.none _ _) (.none _ _)) (AllT.mk (AllT.zero _) (AllT.mk (AllT.one (ja82 a)) (.none _ _) (.none _ _)) (.none _ _))) (AllT.mk (AllT.zero _) (AllT.mk (AllT.zero _) (.none _ _) (AllT.mk (AllT.one (ja106 a)) (.none _ _) (.none _ _))) (AllT.mk (AllT.zero _) (AllT.mk (AllT.one (ja90 a)) (.none _ _) (.none _ _)) (.none _ _)))) (AllT.mk (AllT.one (ja14 a)) (AllT.mk (AllT.zero _) (AllT.mk (AllT.zero _) (AllT.mk (AllT.zero _) (.none _ _) (AllT.mk (AllT.one (ja198 a)) (.none _ _) (.none _ _))) (AllT.mk (AllT.one (ja102 a)) (AllT.mk (AllT.zero _) (.none _ _) (AllT.mk (AllT.one (ja422 a)) (.none _ _) (.none _ _))) (.none _ _))) (AllT.mk (AllT.zero _) (.none _ _) (AllT.mk (AllT.zero _) (AllT.mk (AllT.one (ja182 a)) (.none _ _) (.none _ _)) (.none _ _)))) (AllT.mk (AllT.one (ja30 a)) (.none _ _) (AllT.mk (AllT.zero _) (AllT.mk (AllT.one (ja94 a)) (AllT.mk (AllT.one (ja158 a)) (AllT.mk (AllT.one (ja286 a)) (.none _ _) (.none _ _)) (.none _ _)) (.none _ _)) (.none _ _)))))))
theorem jt_oka (a f : Nat) (R : FT) (h : jt.get f = some R) : JOk (withA cx a) f R := by
  have := AllT.get jt 1 0 (jt_alla a) f R h
  rwa [Nat.one_mul, Nat.add_zero] at this

end Go.Proofs.YtbfhilhkmicelaaGreat
