/-
  Calls whose arguments lead into memory that is not looked at; and how such arguments read behind the call.
-/
import Derived.Test.YtbfhilhkmicelaaGreatEnd
import Derived.Carry
namespace Go.Em
open Go.ChangeShapes Go.WideShapes Go.ChangeAt Go.RowKit

/-- A call from memory that nothing is known of. -/
theorem open_call {cx : Cx} (O : Ok cx ∧ Bd cx) (hx : cx.ext = fun _ => none) {n f k : Nat} {args : List Value} {r : Fin} {H : Heap} (hc : callG cx n f args ⟨.nil, k, []⟩ = some (r, H))
    {m : Pm} (hm : ∀ i, k ≤ i → m i = none) {args' : Array Value} (hA : Vs m args args'.toList) (w : World) :
    Calls cx.P f args' w fun e w' => (∃ m', Sim m' H w' ∧ FinR m' r e) ∧ Go.RowKit.Below w.heap.size w w' := by
  rw [callG_eq] at hc
  have hS : Sim m ⟨.nil, k, []⟩ w := by
    refine ⟨hm, ?_, ?_⟩
    · intro i o h; cases h
    · intro i j oi oj pi pj h; cases h
  refine ((call_sound O.1 O.2 (ext_none hx).1 (ext_none hx).2 n f args _ r H hc).2 m w args' hS hA).mono ?_
  rintro e w' ⟨m', hS, hP, hF⟩
  refine ⟨⟨m', hS, hF⟩, hP.os, hP.tape, hP.output, hP.size, fun b hb => hP.keep b hb ?_⟩
  rintro ⟨i, o, p, h, _⟩
  cases h

theorem Same.of_below {w w' : World} (h : Go.RowKit.Below w.heap.size w w') : Same w w' := ⟨h.os, h.output, h.size, h.block⟩

/-- What a slice that is handed in looks like. -/
theorem slice_forms {P : Program} {W : World} {r : Reach} {base : Nat} {t e : TypeId} {v : Value} (ht : P.underlying t = some (.slice e)) (h : Value.okWide P W r base t v) :
    v = .slice none 0 0 ∨ ∃ b off len cap, v = .slice (some ⟨b, off, none⟩) len cap ∧ cap ≠ unk := by
  unfold Value.okWide at h
  rw [ht] at h
  simp only at h
  unfold Cell.okWide at h
  rw [ht] at h
  have h : Cell.ok P W r base t v := by
    cases v <;> first | exact h | exact h.elim
  unfold Cell.ok at h
  rw [ht] at h
  cases v with
  | slice a len cap =>
    cases a with
    | none =>
      cases len <;> cases cap <;> first | exact .inl rfl | exact h.elim
    | some a =>
      obtain ⟨_, h2, h3⟩ := h
      obtain ⟨_, h4, _⟩ := h3
      obtain ⟨b, off, spot⟩ := a
      cases h4
      refine .inr ⟨b, off, len, cap, rfl, ?_⟩
      intro e
      rw [e] at h2
      revert h2
      decide
  | _ => exact h.elim

/-- One block that nothing is known of. -/
def oneMem (b off : Nat) : Pm := fun i => if i = 0 then some ⟨b, off, 0, 0⟩ else none
theorem oneMem_none (b off : Nat) : ∀ i, 1 ≤ i → oneMem b off i = none := fun i hi => by
  unfold oneMem
  rw [if_neg (by omega)]

theorem oneMem_slice (b off len cap : Nat) (h : cap ≠ unk) : V (oneMem b off) (.slice (some ⟨0, 0, none⟩) len cap) (.slice (some ⟨b, off, none⟩) len cap) := by
  have := V.sl (m := oneMem b off) (b := 0) (o := 0) (n := len) (c := cap) (p := ⟨b, off, 0, 0⟩) rfl h
  simpa using this

end Go.Em
