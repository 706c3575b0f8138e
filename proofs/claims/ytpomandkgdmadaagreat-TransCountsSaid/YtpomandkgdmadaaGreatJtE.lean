/-
  The quick forms are right, too, where functions are not gone into.
-/
import Derived.Test.YtpomandkgdmadaaGreatJt
import Derived.Test.YtpomandkgdmadaaGreatUaB
import Derived.KernelRfl
namespace Go.Proofs.YtpomandkgdmadaaGreat
open Go.Em

theorem je31 (s : ExtF) : JOk (withE cx s) 31 ft31 := ⟨[0, 1, 4, 5, 7, 6, 8], mkFn Tryz.f31, by kernel_rfl, by kernel_rfl, by kernel_rfl⟩
theorem je58 (s : ExtF) : JOk (withE cx s) 58 ft58 := ⟨[0, 1, 2, 3, 4, 5, 6, 7, 8, 9, 10, 11, 12], mkFn Tryz.f58, by kernel_rfl, by kernel_rfl, by kernel_rfl⟩
theorem je37 (s : ExtF) : JOk (withE cx s) 37 ft37 := ⟨[0, 1, 2, 3, 4, 5], mkFn Tryz.f37, by kernel_rfl, by kernel_rfl, by kernel_rfl⟩
theorem je36 (s : ExtF) : JOk (withE cx s) 36 ft36 := ⟨[0, 1, 2, 3, 6, 7, 8], mkFn Tryz.f36, by kernel_rfl, by kernel_rfl, by kernel_rfl⟩
theorem je93 (s : ExtF) : JOk (withE cx s) 93 ft93 := ⟨[0, 1, 2, 3], mkFn Tryz.f93, by kernel_rfl, by kernel_rfl, by kernel_rfl⟩
theorem je94 (s : ExtF) : JOk (withE cx s) 94 ft94 := ⟨[0, 1, 2, 3], mkFn Tryz.f94, by kernel_rfl, by kernel_rfl, by kernel_rfl⟩
theorem je59 (s : ExtF) : JOk (withE cx s) 59 ft59 := ⟨[0, 1, 2, 3, 4, 6, 5, 7], mkFn Tryz.f59, by kernel_rfl, by kernel_rfl, by kernel_rfl⟩
theorem je28 (s : ExtF) : JOk (withE cx s) 28 ft28 := ⟨[0, 1, 2, 3, 4, 5, 6, 7, 8, 10, 11, 9, 12, 13, 15, 16, 14, 17], mkFn Tryz.f28, by kernel_rfl, by kernel_rfl, by kernel_rfl⟩
theorem je13 (s : ExtF) : JOk (withE cx s) 13 ft13 := ⟨[0, 2, 3, 4, 6], mkFn Tryz.f13, by kernel_rfl, by kernel_rfl, by kernel_rfl⟩
theorem je20 (s : ExtF) : JOk (withE cx s) 20 ft20 := ⟨[0, 1, 2, 3, 4, 5, 6, 7, 8, 9, 10, 11], mkFn Tryz.f20, by kernel_rfl, by kernel_rfl, by kernel_rfl⟩
theorem je41 (s : ExtF) : JOk (withE cx s) 41 ft41 := ⟨[0, 1, 2, 3, 4, 5, 6, 7], mkFn Tryz.f41, by kernel_rfl, by kernel_rfl, by kernel_rfl⟩
theorem je8 (s : ExtF) : JOk (withE cx s) 8 ft8 := ⟨[0, 1, 2, 3, 4, 6, 7, 8, 11, 12, 13, 14, 15, 17, 20, 21, 22, 23, 24, 26, 28, 29, 30, 31, 33, 35, 37, 38, 39], mkFn Tryz.f8, by kernel_rfl, by kernel_rfl, by kernel_rfl⟩
theorem je19 (s : ExtF) : JOk (withE cx s) 19 ft19 := ⟨[0, 1, 2, 3, 4, 5, 7, 8], mkFn Tryz.f19, by kernel_rfl, by kernel_rfl, by kernel_rfl⟩
theorem je68 (s : ExtF) : JOk (withE cx s) 68 ft68 := ⟨[0, 1, 2, 4], mkFn Tryz.f68, by kernel_rfl, by kernel_rfl, by kernel_rfl⟩
theorem je23 (s : ExtF) : JOk (withE cx s) 23 ft23 := ⟨[0, 5, 6, 7, 8, 9, 10, 11, 12, 13, 14, 15, 16, 17, 18, 19, 20, 21, 24, 25, 27], mkFn Tryz.f23, by kernel_rfl, by kernel_rfl, by kernel_rfl⟩
theorem je89 (s : ExtF) : JOk (withE cx s) 89 ft89 := ⟨[0, 1, 2, 3, 6, 7, 8, 9, 4, 5, 10], mkFn Tryz.f89, by kernel_rfl, by kernel_rfl, by kernel_rfl⟩
theorem je45 (s : ExtF) : JOk (withE cx s) 45 ft45 := ⟨[0, 1, 3, 5, 6], mkFn Tryz.f45, by kernel_rfl, by kernel_rfl, by kernel_rfl⟩
theorem je112 (s : ExtF) : JOk (withE cx s) 112 ft112 := ⟨[0, 2, 3, 6], mkFn Tryz.f112, by kernel_rfl, by kernel_rfl, by kernel_rfl⟩
theorem je46 (s : ExtF) : JOk (withE cx s) 46 ft46 := ⟨[0, 2, 3, 5, 7, 8], mkFn Tryz.f46, by kernel_rfl, by kernel_rfl, by kernel_rfl⟩
theorem je168 (s : ExtF) : JOk (withE cx s) 168 ft168 := ⟨[0, 1, 2, 3, 4, 6, 7, 8, 9, 10, 12], mkFn Tryz.f168, by kernel_rfl, by kernel_rfl, by kernel_rfl⟩
theorem je100 (s : ExtF) : JOk (withE cx s) 100 ft100 := ⟨[0, 1, 2, 3, 5, 6, 7, 8, 9, 10, 11, 12, 13], mkFn Tryz.f100, by kernel_rfl, by kernel_rfl, by kernel_rfl⟩
theorem je90 (s : ExtF) : JOk (withE cx s) 90 ft90 := ⟨[0, 1, 2, 3, 4, 5], mkFn Tryz.f90, by kernel_rfl, by kernel_rfl, by kernel_rfl⟩
theorem je18 (s : ExtF) : JOk (withE cx s) 18 ft18 := ⟨[0, 1, 3, 5, 6, 8, 10, 13], mkFn Tryz.f18, by kernel_rfl, by kernel_rfl, by kernel_rfl⟩
theorem je11 (s : ExtF) : JOk (withE cx s) 11 ft11 := ⟨[0, 1, 2, 5, 6, 7, 10, 11], mkFn Tryz.f11, by kernel_rfl, by kernel_rfl, by kernel_rfl⟩
theorem je21 (s : ExtF) : JOk (withE cx s) 21 ft21 := ⟨[0, 2, 3, 4], mkFn Tryz.f21, by kernel_rfl, by kernel_rfl, by kernel_rfl⟩
theorem je40 (s : ExtF) : JOk (withE cx s) 40 ft40 := ⟨[0, 3, 4, 5, 6], mkFn Tryz.f40, by kernel_rfl, by kernel_rfl, by kernel_rfl⟩
theorem je178 (s : ExtF) : JOk (withE cx s) 178 ft178 := ⟨[0, 2, 3, 4, 5], mkFn Tryz.f178, by kernel_rfl, by kernel_rfl, by kernel_rfl⟩
theorem je271 (s : ExtF) : JOk (withE cx s) 271 ft271 := ⟨[], mkFn Tryz.f271, by kernel_rfl, by kernel_rfl, by kernel_rfl⟩
theorem je9 (s : ExtF) : JOk (withE cx s) 9 ft9 := ⟨[0, 1, 2, 3, 4, 5, 6, 9, 11, 7, 8, 12, 13], mkFn Tryz.f9, by kernel_rfl, by kernel_rfl, by kernel_rfl⟩
theorem je30 (s : ExtF) : JOk (withE cx s) 30 ft30 := ⟨[0, 1, 2, 3, 4, 5, 7, 16, 17], mkFn Tryz.f30, by kernel_rfl, by kernel_rfl, by kernel_rfl⟩
theorem je131 (s : ExtF) : JOk (withE cx s) 131 ft131 := ⟨[0, 1, 3, 6, 5, 2], mkFn Tryz.f131, by kernel_rfl, by kernel_rfl, by kernel_rfl⟩
theorem je157 (s : ExtF) : JOk (withE cx s) 157 ft157 := ⟨[0, 1, 5, 7], mkFn Tryz.f157, by kernel_rfl, by kernel_rfl, by kernel_rfl⟩
theorem je25 (s : ExtF) : JOk (withE cx s) 25 ft25 := ⟨[0, 1, 2, 3, 4, 6, 8, 9, 11, 12, 13, 10, 5, 16], mkFn Tryz.f25, by kernel_rfl, by kernel_rfl, by kernel_rfl⟩
theorem je101 (s : ExtF) : JOk (withE cx s) 101 ft101 := ⟨[0, 2, 3, 4, 5, 7, 8, 9, 10, 11], mkFn Tryz.f101, by kernel_rfl, by kernel_rfl, by kernel_rfl⟩
theorem je12 (s : ExtF) : JOk (withE cx s) 12 ft12 := ⟨[0, 1, 2, 3, 4, 5, 6], mkFn Tryz.f12, by kernel_rfl, by kernel_rfl, by kernel_rfl⟩
theorem je16 (s : ExtF) : JOk (withE cx s) 16 ft16 := ⟨[0, 1, 2, 3, 4, 5], mkFn Tryz.f16, by kernel_rfl, by kernel_rfl, by kernel_rfl⟩
theorem je98 (s : ExtF) : JOk (withE cx s) 98 ft98 := ⟨[0, 3, 5, 6, 7, 8, 9, 11, 13, 14], mkFn Tryz.f98, by kernel_rfl, by kernel_rfl, by kernel_rfl⟩
theorem je92 (s : ExtF) : JOk (withE cx s) 92 ft92 := ⟨[0, 1], mkFn Tryz.f92, by kernel_rfl, by kernel_rfl, by kernel_rfl⟩
theorem je218 (s : ExtF) : JOk (withE cx s) 218 ft218 := ⟨[0, 1, 2], mkFn Tryz.f218, by kernel_rfl, by kernel_rfl, by kernel_rfl⟩
theorem je14 (s : ExtF) : JOk (withE cx s) 14 ft14 := ⟨[0, 1, 2, 3, 4, 5, 6, 7, 8, 9, 11, 13, 14, 15], mkFn Tryz.f14, by kernel_rfl, by kernel_rfl, by kernel_rfl⟩
theorem je81 (s : ExtF) : JOk (withE cx s) 81 ft81 := ⟨[0, 2, 3, 4, 6], mkFn Tryz.f81, by kernel_rfl, by kernel_rfl, by kernel_rfl⟩
theorem je22 (s : ExtF) : JOk (withE cx s) 22 ft22 := ⟨[0, 1, 2, 3, 4, 5, 6, 7, 8, 9, 10], mkFn Tryz.f22, by kernel_rfl, by kernel_rfl, by kernel_rfl⟩
theorem je65 (s : ExtF) : JOk (withE cx s) 65 ft65 := ⟨[0, 2, 3, 4, 6, 7], mkFn Tryz.f65, by kernel_rfl, by kernel_rfl, by kernel_rfl⟩
theorem je124 (s : ExtF) : JOk (withE cx s) 124 ft124 := ⟨[0, 1, 2, 3, 4, 5, 6, 7], mkFn Tryz.f124, by kernel_rfl, by kernel_rfl, by kernel_rfl⟩
theorem je137 (s : ExtF) : JOk (withE cx s) 137 ft137 := ⟨[0, 1], mkFn Tryz.f137, by kernel_rfl, by kernel_rfl, by kernel_rfl⟩
theorem je248 (s : ExtF) : JOk (withE cx s) 248 ft248 := ⟨[6, 8, 9, 10, 11, 12, 13, 14, 15, 16, 17, 0, 1, 2, 3, 4, 5], mkFn Tryz.f248, by kernel_rfl, by kernel_rfl, by kernel_rfl⟩
theorem je177 (s : ExtF) : JOk (withE cx s) 177 ft177 := ⟨[0, 1], mkFn Tryz.f177, by kernel_rfl, by kernel_rfl, by kernel_rfl⟩
theorem je55 (s : ExtF) : JOk (withE cx s) 55 ft55 := ⟨[0, 1, 2, 6, 7, 9, 11], mkFn Tryz.f55, by kernel_rfl, by kernel_rfl, by kernel_rfl⟩
theorem je251 (s : ExtF) : JOk (withE cx s) 251 ft251 := ⟨[0, 1, 2, 3, 4, 5, 6, 7], mkFn Tryz.f251, by kernel_rfl, by kernel_rfl, by kernel_rfl⟩
theorem je38 (s : ExtF) : JOk (withE cx s) 38 ft38 := ⟨[0, 1], mkFn Tryz.f38, by kernel_rfl, by kernel_rfl, by kernel_rfl⟩
theorem je96 (s : ExtF) : JOk (withE cx s) 96 ft96 := ⟨[0, 1], mkFn Tryz.f96, by kernel_rfl, by kernel_rfl, by kernel_rfl⟩
theorem je382 (s : ExtF) : JOk (withE cx s) 382 ft382 := ⟨[0, 1], mkFn Tryz.f382, by kernel_rfl, by kernel_rfl, by kernel_rfl⟩
theorem jt_alle (s : ExtF) : AllT (JOk (withE cx s)) 1 0 jt := (AllT.mk (AllT.zero _) (AllT.mk (AllT.zero _) (AllT.mk (AllT.zero _) (AllT.mk (AllT.zero _) (AllT.mk (AllT.zero _) (AllT.mk (AllT.one (je31 s)) (.none _ _) (.none _ _)) (AllT.mk (AllT.zero _) (AllT.mk (AllT.zero _) (AllT.mk (AllT.zero _) (AllT.mk (AllT.one (je271 s)) (.none _ _) (.none _ _)) (.none _ _)) (.none _ _)) (.none _ _))) (AllT.mk (AllT.one (je23 s)) (.none _ _) (AllT.mk (AllT.one (je55 s)) (.none _ _) (.none _ _)))) (AllT.mk (AllT.one (je11 s)) (AllT.mk (AllT.one (je19 s)) (AllT.mk (AllT.zero _) (AllT.mk (AllT.zero _) (AllT.mk (AllT.one (je131 s)) (.none _ _) (.none _ _)) (.none _ _)) (.none _ _)) (.none _ _)) (AllT.mk (AllT.zero _) (.none _ _) (AllT.mk (AllT.one (je59 s)) (.none _ _) (AllT.mk (AllT.zero _) (.none _ _) (AllT.mk (AllT.one (je251 s)) (.none _ _) (.none _ _))))))) (AllT.mk (AllT.zero _) (AllT.mk (AllT.one (je9 s)) (AllT.mk (AllT.zero _) (AllT.mk (AllT.zero _) (AllT.mk (AllT.one (je65 s)) (.none _ _) (.none _ _)) (.none _ _)) (AllT.mk (AllT.zero _) (AllT.mk (AllT.one (je81 s)) (.none _ _) (.none _ _)) (AllT.mk (AllT.zero _) (AllT.mk (AllT.one (je177 s)) (.none _ _) (.none _ _)) (.none _ _)))) (AllT.mk (AllT.one (je25 s)) (AllT.mk (AllT.one (je41 s)) (AllT.mk (AllT.zero _) (AllT.mk (AllT.one (je137 s)) (.none _ _) (.none _ _)) (.none _ _)) (.none _ _)) (AllT.mk (AllT.zero _) (AllT.mk (AllT.one (je89 s)) (.none _ _) (.none _ _)) (.none _ _)))) (AllT.mk (AllT.one (je13 s)) (AllT.mk (AllT.one (je21 s)) (AllT.mk (AllT.one (je37 s)) (.none _ _) (AllT.mk (AllT.one (je101 s)) (.none _ _) (.none _ _))) (.none _ _)) (AllT.mk (AllT.zero _) (AllT.mk (AllT.one (je45 s)) (.none _ _) (.none _ _)) (AllT.mk (AllT.zero _) (AllT.mk (AllT.one (je93 s)) (AllT.mk (AllT.one (je157 s)) (.none _ _) (.none _ _)) (.none _ _)) (.none _ _)))))) (AllT.mk (AllT.zero _) (AllT.mk (AllT.zero _) (AllT.mk (AllT.one (je8 s)) (AllT.mk (AllT.one (je16 s)) (AllT.mk (AllT.zero _) (.none _ _) (AllT.mk (AllT.one (je96 s)) (.none _ _) (.none _ _))) (AllT.mk (AllT.zero _) (.none _ _) (AllT.mk (AllT.one (je112 s)) (.none _ _) (.none _ _)))) (AllT.mk (AllT.zero _) (AllT.mk (AllT.one (je40 s)) (.none _ _) (AllT.mk (AllT.zero _) (AllT.mk (AllT.one (je168 s)) (.none _ _) (.none _ _)) (.none _ _))) (AllT.mk (AllT.zero _) (.none _ _) (AllT.mk (AllT.zero _) (.none _ _) (AllT.mk (AllT.one (je248 s)) (.none _ _) (.none _ _)))))) (AllT.mk (AllT.one (je12 s)) (AllT.mk (AllT.one (je20 s)) (AllT.mk (AllT.one (je36 s)) (AllT.mk (AllT.one (je68 s)) (.none _ _) (.none _ _)) (AllT.mk (AllT.one (je100 s)) (.none _ _) (.none _ _))) (.none _ _)) (AllT.mk (AllT.one (je28 s)) (.none _ _) (AllT.mk (AllT.zero _) (AllT.mk (AllT.one (je92 s)) (.none _ _) (.none _ _)) (AllT.mk (AllT.one (je124 s)) (.none _ _) (.none _ _)))))) (AllT.mk (AllT.zero _) (AllT.mk (AllT.zero _) (AllT.mk (AllT.one (je18 s)) (AllT.mk (AllT.zero _) (.none _ _) (AllT.mk (AllT.one (je98 s)) (.none _ _) (.none _ _))) (AllT.mk (AllT.zero _) (.none _ _) (AllT.mk (AllT.zero _) (AllT.mk (AllT.one (je178 s)) (.none _ _) (.none _ _)) (.none _ _)))) (AllT.mk (AllT.zero _) (.none _ _) (AllT.mk (AllT.one (je58 s)) (AllT.mk (AllT.one (je90 s)) (.none _ _) (AllT.mk (AllT.one (je218 s)) (.none _ _) (.none _ _))) (.none _ _)))) (AllT.mk (AllT.one (je14 s)) (AllT.mk (AllT.one (je22 s)) (AllT.mk (AllT.one (je38 s)) (.none _ _) (.none _ _)) (.none _ _)) (AllT.mk (AllT.one (je30 s)) (AllT.mk (AllT.one (je46 s)) (.none _ _) (.none _ _)) (AllT.mk (AllT.zero _) (AllT.mk (AllT.one (je94 s)) (.none _ _) (.none _ _)) (AllT.mk (AllT.zero _) (.none _ _) (AllT.mk (AllT.zero _) (AllT.mk (AllT.one (je382 s)) (.none _ _) (.none _ _)) (.none _ _)))))))))
theorem jt_oke (s : ExtF) (f : Nat) (R : FT) (h : jt.get f = some R) : JOk (withE cx s) f R := by
  have := AllT.get jt 1 0 (jt_alle s) f R h
  rwa [Nat.one_mul, Nat.add_zero] at this

end Go.Proofs.YtpomandkgdmadaaGreat
