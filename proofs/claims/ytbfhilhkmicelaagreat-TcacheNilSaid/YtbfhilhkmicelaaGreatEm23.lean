/-
  What looks at a part of a block.
-/
import Derived.Test.YtbfhilhkmicelaaGreatEm22
namespace Go.Em
section
variable {cx : Cx} {tm : Tr Value}

theorem loadN_agree {nx : Nat} {a : Addr} {l size : Nat} {base base' : Nat → Value} {tr tr' : Tr Value} {elem esz : Nat} {ro : Bool} (h : ∀ i, a.off ≤ i → i < a.off + l → rowAt base tr i = rowAt base' tr' i) :
    loadN (only nx a.block (.row size base tr elem esz ro)) a l = loadN (only nx a.block (.row size base' tr' elem esz ro)) a l := by
  unfold loadN
  cases a.spot with
  | some s => rfl
  | none =>
    simp only [only_get, if_true]
    rw [cellsFrom_congr l a.off h]

theorem blockOf_map {v : Value} {n : Nat} {es : List MapEntry} {nx : Nat} {size : Nat} {base : Nat → Value} {tr : Tr Value} {elem esz : Nat} {ro : Bool} (hb : blockOf v = some n) (hg : getMap (only nx n (.row size base tr elem esz ro)) v = some es) : False := by
  unfold getMap at hg
  split at hg
  · cases hb
  · cases hb
    rw [only_get, if_pos rfl] at hg
    cases hg
  · cases hg

theorem sliceE_agree {nx n : Nat} {size : Nat} {base base' : Nat → Value} {tr tr' : Tr Value} {elem esz : Nat} {ro : Bool} (t : Nat) (x : Value) (lo hi mx : Option Value) :
    sliceE cx (only nx n (.row size base tr elem esz ro)) t x lo hi mx = sliceE cx (only nx n (.row size base' tr' elem esz ro)) t x lo hi mx := by
  cases hd : cx.ty t with
  | none => simp only [sliceE, hd]
  | some i =>
    simp only [sliceE, hd]
    split
    · rfl
    · rename_i e b len cap hde
      cases he : cx.ty e with
      | none => rfl
      | some j =>
        cases hu : Nat.beq cap unk with
        | false => rfl
        | true =>
          cases b with
          | none => rfl
          | some a =>
            cases mx with
            | some m => rfl
            | none =>
              simp only [only_get]
              by_cases hn : a.block = n
              · simp only [if_pos hn]
                cases a.spot <;> rfl
              · simp only [if_neg hn]
    · rfl

theorem convertE_agree {nx : Nat} {a : Addr} {k c : Nat} {size : Nat} {base base' : Nat → Value} {tr tr' : Tr Value} {elem esz : Nat} {ro : Bool} (h : ∀ i, a.off ≤ i → i < a.off + k → rowAt base tr i = rowAt base' tr' i) (s d : Nat) :
    convertE cx (only nx a.block (.row size base tr elem esz ro)) s d (.slice (some a) k c) = convertE cx (only nx a.block (.row size base' tr' elem esz ro)) s d (.slice (some a) k c) := by
  have hl := loadN_agree (nx := nx) (size := size) (elem := elem) (esz := esz) (ro := ro) (l := k) h
  unfold convertE
  cases cx.ty s with
  | none => rfl
  | some si =>
    cases cx.ty d with
    | none => rfl
    | some di =>
      obtain ⟨sd, _, _, _⟩ := si
      obtain ⟨dd, _, _, _⟩ := di
      cases sd <;> cases dd <;> first | rfl | simp only [hl]

theorem lenOp_agree {nx n : Nat} {size : Nat} {base base' : Nat → Value} {tr tr' : Tr Value} {elem esz : Nat} {ro : Bool} (t : Nat) (x : Value) :
    lenOp cx (only nx n (.row size base tr elem esz ro)) t x = lenOp cx (only nx n (.row size base' tr' elem esz ro)) t x := by
  have hg : ∀ r, ((only nx n (.row size base tr elem esz ro)).get r = none ∧ (only nx n (.row size base' tr' elem esz ro)).get r = none) ∨
      ((only nx n (.row size base tr elem esz ro)).get r = some (.row size base tr elem esz ro) ∧ (only nx n (.row size base' tr' elem esz ro)).get r = some (.row size base' tr' elem esz ro)) := fun r => by
    simp only [only_get]
    by_cases hn : r = n
    · simp [hn]
    · simp [hn]
  cases hd : cx.ty t with
  | none => simp only [lenOp, hd]
  | some i =>
    simp only [lenOp, hd]
    split <;> first
      | rfl
      | (rename_i r _
         rcases hg r with ⟨a, b⟩ | ⟨a, b⟩ <;> rw [a, b])

theorem lod_congr {nx : Nat} {t : Part} {b b' : Obj} {op : Op} {v : Value} {h1 : Heap} (hm : isMake op = false) (he : isEff op = false) (ho : isOdd op = false) (ht : targetE cx tm op = some t)
    (hr : opE cx noCall tm (only nx t.n b) op = some (.val v, h1)) (ha : AgreeO t (some b) (some b')) : ∃ h2, opE cx noCall tm (only nx t.n b') op = some (.val v, h2) := by
  rcases ha with h | ⟨size, base, tr, base', tr', elem, esz, ro, hb, hb', hi⟩
  · cases h; exact ⟨_, hr⟩
  · cases hb
    cases hb'
    cases op <;> simp only [targetE] at ht <;> try (cases ht; done)
    case load t0 x =>
      split at ht
      · rename_i i a hti hx
        cases ht
        simp only [opE, hx] at hr ⊢
        have hl := loadN_agree (nx := nx) (size := size) (elem := elem) (esz := esz) (ro := ro) hi
        obtain ⟨u, h1, h2, _⟩ := val_some hr
        cases h2
        refine ⟨only nx a.block (.row size base' tr' elem esz ro), ?_⟩
        have : loadT cx (only nx a.block (.row size base' tr' elem esz ro)) t0 a = some v := by
          simp only [loadT, hti] at h1 ⊢
          cases hag : aggD i.d with
          | true => rw [hag] at h1 hl; simp only at h1 hl ⊢; rw [← hl]; exact h1
          | false => rw [hag] at h1 hl; simp only at h1 hl ⊢; rw [← hl]; exact h1
        simp only [this, Em.val]
      · cases ht
    case lookup t0 x k ok =>
      unfold wholeOf at ht
      split at ht
      · rename_i xv hx
        split at ht
        · rename_i n hn
          cases ht
          exfalso
          simp only [opE, hx] at hr
          split at hr
          · rename_i a _ h1 _
            cases h1
            obtain ⟨u, h1, _⟩ := val_some hr
            unfold lookupE at h1
            split at h1
            · split at h1
              · split at h1
                · rename_i hg _ _
                  exact blockOf_map hn hg
                · cases h1
              · cases h1
            · cases h1
          · cases hr
        · cases ht
      · cases ht
    case slice t0 x lo hi2 mx =>
      simp only [opE] at hr ⊢
      split at hr
      · rename_i x0 lo0 hi0 mx0 e1 e2 e3 e4
        obtain ⟨u, h1, h2, _⟩ := val_some hr
        cases h2
        rw [sliceE_agree (base' := base') (tr' := tr')] at h1
        exact ⟨_, by rw [h1]; rfl⟩
      · cases hr
    case convert s d x =>
      split at ht
      · rename_i a n c hx
        cases ht
        simp only [opE, hx] at hr ⊢
        obtain ⟨u, h1, h2, _⟩ := val_some hr
        cases h2
        rw [convertE_agree (base' := base') (tr' := tr') hi] at h1
        exact ⟨_, by rw [h1]; rfl⟩
      · cases ht
    case call c =>
      obtain ⟨cal, args, ats⟩ := c
      cases cal with
      | value f => cases he
      | invoke r n => cases he
      | builtin bt =>
        simp only [opE] at hr ⊢
        split at hr
        · rename_i av hav
          unfold builtinE at hr ⊢
          split at hr
          · split at hr
            · obtain ⟨u, h1, h2, _⟩ := val_some hr
              cases h2
              rw [lenOp_agree (base' := base') (tr' := tr')] at h1
              exact ⟨_, by rw [h1]; rfl⟩
            · cases hr
          all_goals first
            | (cases he; done)
            | (cases ho; done)
            | (cases hr; done)
            | (obtain ⟨u, h1, h2, _⟩ := val_some hr
               cases h2
               exact ⟨_, by rw [h1]; rfl⟩)
        · cases hr

end
end Go.Em
