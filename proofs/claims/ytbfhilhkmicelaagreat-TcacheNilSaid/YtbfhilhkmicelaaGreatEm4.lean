/-
  Operations that make no block: what the evaluator tells is what the model does.
-/
import Derived.Test.YtbfhilhkmicelaaGreatEm3
namespace Go.Em

/-- What is told of a program is so. -/
structure Ok (cx : Cx) : Prop where
  under : ∀ t i, cx.ty t = some i → cx.P.underlying t = some i.d
  info : ∀ t i, cx.ty t = some i → ∃ x, cx.P.info? t = some x ∧ x.size = i.size ∧ x.bytes = i.bytes ∧ x.zero = some i.zero
  zero : ∀ t i, cx.ty t = some i → (∀ v ∈ i.zero.cells.toList, flat v = true) ∧ (flat i.zero = true ∨ ∃ c, i.zero = .agg c)
  zsize : ∀ t i, cx.ty t = some i → i.zero.cells.size = i.size
  fields : ∀ t i fs, cx.ty t = some i → i.d = .struct fs → ∀ f ∈ fs.toList, (cx.P.info? f.type).isSome = true
  named : ∀ t i fs, cx.ty t = some i → i.d = .struct fs → ∀ f ∈ fs.toList, f.name ≠ "_"
  held : ∀ t i, cx.ty t = some i → cx.P.stoodInHeld t = false
  guard : ∀ t i, cx.ty t = some i → aggD i.d = true → cx.P.eqGuardType cx.P.depth t = false
  func : ∀ f x, cx.fn f = some x → cx.P.funcs[f]? = some x.1 ∧ x.1.body = some x.2 ∧ (x.1.name == "runtime.NumGoroutine") = false

section
variable {cx : Cx}

theorem Ok.run_under (O : Ok cx) {t : Nat} {i : Ty} (h : cx.ty t = some i) (w : World) : (underlying t).run cx.P w = .ok i.d w := by
  simp [underlying, O.under t i h]

theorem Ok.run_size (O : Ok cx) {t : Nat} {i : Ty} (h : cx.ty t = some i) (w : World) : (sizeOf t).run cx.P w = .ok i.size w := by
  obtain ⟨x, hx, h1, _⟩ := O.info t i h
  simp [sizeOf, typeInfo, hx, h1]

theorem Ok.run_isAgg (O : Ok cx) {t : Nat} {i : Ty} (h : cx.ty t = some i) (w : World) : (isAgg t).run cx.P w = .ok (aggD i.d) w := by
  simp only [isAgg, Sem.run_bind, O.run_under h, Result.andThen_ok]
  cases i.d <;> rfl

theorem Ok.run_zero (O : Ok cx) {t : Nat} {i : Ty} (h : cx.ty t = some i) (w : World) : (zeroValue t).run cx.P w = .ok i.zero w := by
  obtain ⟨x, hx, _, _, h3⟩ := O.info t i h
  simp [zeroValue, typeInfo, hx, h3]

theorem Vs.of_flat {m : Pm} : ∀ {l : List Value}, (∀ v ∈ l, flat v = true) → Vs m l l
  | [], _ => .nil
  | v :: l, h => .cons (.flat (h v (by simp))) (Vs.of_flat fun x hx => h x (by simp [hx]))

theorem Ok.zeroV (O : Ok cx) {t : Nat} {i : Ty} (h : cx.ty t = some i) (m : Pm) : V m i.zero i.zero := by
  obtain ⟨h1, h2⟩ := O.zero t i h
  rcases h2 with h2 | ⟨c, h2⟩
  · exact .flat h2
  · rw [h2] at h1 ⊢
    exact agg_iff.2 (Vs.of_flat h1)

/-- A reading run. -/
def Rd (cx : Cx) (s : Sem Value) (w : World) (m : Pm) (v : Value) : Prop := ∃ v', s.run cx.P w = .ok v' w ∧ V m v v'

theorem ev_V {m : Pm} {tm : Tr Value} {a : Act} (T : Tm m tm a.tmps) {x : Operand} {v : Value} (h : ev tm x = some v) : V m v (a.eval x) := by
  cases x with
  | tmp t => exact T t v h
  | const c =>
    simp only [ev] at h
    split at h
    · cases h; exact .flat ‹_›
    · cases h
  | global g => cases h
  | func f => cases h; exact func_mk .nil .nil

theorem evs_V {m : Pm} {tm : Tr Value} {a : Act} (T : Tm m tm a.tmps) : ∀ {l : List Operand} {vs : List Value}, evs tm l = some vs → Vs m vs (l.map a.eval)
  | [], _, h => by cases h; exact .nil
  | x :: l, vs, h => by
    simp only [evs] at h
    split at h
    · rename_i v hv
      split at h
      · rename_i vs' hvs
        cases h
        exact .cons (ev_V T hv) (evs_V T hvs)
      · cases h
    · cases h

/-- Parts with their places. -/
inductive Ps (m : Pm) : List (Nat × Value) → List (Nat × Value) → Prop
  | nil : Ps m [] []
  | cons {i : Nat} {v v' : Value} {l l' : List (Nat × Value)} : V m v v' → Ps m l l' → Ps m ((i, v) :: l) ((i, v') :: l')

theorem evParts_V {m : Pm} {tm : Tr Value} {a : Act} (T : Tm m tm a.tmps) : ∀ {l : List (Nat × Operand)} {vs : List (Nat × Value)}, evParts tm l = some vs →
    Ps m vs (l.map fun (i, x) => (i, a.eval x))
  | [], _, h => by cases h; exact .nil
  | (i, x) :: l, vs, h => by
    simp only [evParts] at h
    split at h
    · rename_i v hv
      split at h
      · rename_i vs' hvs
        cases h
        exact .cons (ev_V T hv) (evParts_V T hvs)
      · cases h
    · cases h

theorem loadT_run (O : Ok cx) {m : Pm} {h : Heap} {w : World} (S : Sim m h w) {t : Nat} {a : Addr} {v : Value} (hl : loadT cx h t a = some v) :
    ∃ p, m a.block = some p ∧ a.spot = none ∧ Rd cx (loadVar t ⟨p.blk, p.base + a.off, none⟩) w m v := by
  unfold loadT at hl
  split at hl
  · rename_i i hi
    split at hl
    · rename_i hag
      split at hl
      · rename_i l hl'
        cases hl
        obtain ⟨p, hp, hs, l', hr, hV⟩ := loadN_run (P := cx.P) S hl'
        refine ⟨p, hp, hs, .agg l', ?_, agg_iff.2 (by simpa using hV)⟩
        simp [loadVar, O.run_isAgg hi, hag, O.run_size hi, hr]
      · cases hl
    · rename_i hag
      split at hl
      · rename_i x hl'
        cases hl
        obtain ⟨p, hp, hs, l', hr, hV⟩ := loadN_run (P := cx.P) S hl'
        obtain ⟨l'⟩ := l'
        cases hV with
        | cons hv hn =>
          cases hn
          rename_i y
          refine ⟨p, hp, hs, y, ?_, hv⟩
          have : (load ⟨p.blk, p.base + a.off, none⟩).run cx.P w = .ok y w := by
            simp only [loadCells, loadCellsFrom, Sem.run_bind, addr_add, Nat.add_zero] at hr
            generalize (load ⟨p.blk, p.base + a.off, none⟩).run cx.P w = r at hr ⊢
            cases r with
            | ok z w2 => simp at hr; obtain ⟨rfl, rfl⟩ := hr; rfl
            | halt z w2 => simp at hr
          simp [-run_load, loadVar, O.run_isAgg hi, hag, this]
      · cases hl
  · cases hl

theorem storeT_run (O : Ok cx) {m : Pm} {h h' : Heap} {w : World} (S : Sim m h w) {t : Nat} {a : Addr} {v v' : Value} (hv : V m v v') (hs : storeT cx h t a v = some h') :
    ∃ p, m a.block = some p ∧ a.spot = none ∧ ∃ w', (storeVar t ⟨p.blk, p.base + a.off, none⟩ v').run cx.P w = .ok () w' ∧ Sim m h' w' ∧ Stp m h w m h' w' := by
  unfold storeT at hs
  split at hs
  · rename_i i hi
    split at hs
    · rename_i hsz
      obtain ⟨p, hp, hsp, w', hr, h1, h2⟩ := storeN_run (P := cx.P) S hv.cells hs
      refine ⟨p, hp, hsp, w', ?_, h1, h2⟩
      have e1 : v'.cells.size = i.size := by
        have := hv.cells.length
        have h0 := Nat.eq_of_beq_eq_true hsz
        simp only [Array.length_toList] at this
        omega
      simp [storeVar, O.run_size hi, e1, hr]
    · cases hs
  · cases hs

theorem intOp_run {op : BinOp} {k : IntKind} {a b : Int} {v : Value} (h : intOp op k a b = some v) (P : Program) (t : Nat) (w : World) :
    (binOp op t (.int k a) (.int k b)).run P w = .ok v w ∧ flat v = true := by
  cases op <;> simp only [intOp] at h <;> (try split at h) <;> (try cases h) <;> refine ⟨?_, rfl⟩ <;>
    first
      | (simp only [binOp, ne_eq, not_true_eq_false, if_false, Op.intArith, Op.intBits, Op.intCmp, Sem.run_pure]; done)
      | (rename_i hz _; simp only [binOp, ne_eq, not_true_eq_false, if_false, Op.intDiv, if_neg hz, Sem.run_pure]; done)

theorem shiftOp_run {op : BinOp} {k k' : IntKind} {a b : Int} {v : Value} (h : shiftOp op k a b = some v) (ho : op = .shl ∨ op = .shr) (P : Program) (t : Nat) (w : World) :
    (binOp op t (.int k a) (.int k' b)).run P w = .ok v w ∧ flat v = true := by
  unfold shiftOp at h
  split at h
  · cases h
  · rename_i hb
    have hb' : ¬ b < 0 := by simpa using hb
    rcases ho with rfl | rfl <;> (cases h; exact ⟨by simp [binOp, Op.shift, hb'], rfl⟩)

end
end Go.Em
