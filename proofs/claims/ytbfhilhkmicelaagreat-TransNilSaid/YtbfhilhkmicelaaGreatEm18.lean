/-
  Orders: what is left behind.
-/
import Derived.Test.YtbfhilhkmicelaaGreatEm17
namespace Go.Em

theorem emask_spec (md : Region.Mode) : ∀ (l : List Edge) (e : Edge), e ∈ l → Region.binds md e = true → (emask md l).testBit e.on = true
  | [], e, h, _ => by cases h
  | x :: l, e, h, hb => by
    simp only [emask]
    rcases List.mem_cons.1 h with rfl | h
    · rw [hb]
      show (2 ^ e.on ||| emask md l).testBit e.on = true
      rw [Nat.testBit_or, Nat.testBit_two_pow_self]
      rfl
    · have := emask_spec md l e h hb
      split
      · show (2 ^ x.on ||| emask md l).testBit e.on = true
        rw [Nat.testBit_or, this, Bool.or_true]
      · exact this

theorem land_sub {a b : Nat} (h : Nat.beq (Nat.land a b) a = true) {k : Nat} (hk : a.testBit k = true) : b.testBit k = true := by
  have e : a &&& b = a := Nat.eq_of_beq_eq_true h
  have : (a &&& b).testBit k = true := by rw [e]; exact hk
  rw [Nat.testBit_and] at this
  simp only [Bool.and_eq_true] at this
  exact this.2

theorem drainPass_sound {md : Region.Mode} {ops : Array Oper} {listed : Array Bool} (hs : listed.size = ops.size) (hr : Region.ready md ops listed = []) : ∀ (l : List Oper) (i done : Nat), ops.toList.drop i = l →
    (∀ k, done.testBit k = true → listed.getD k false = true) → ∀ k, (drainPass md i l done).testBit k = true → listed.getD k false = true
  | [], i, done, hi, hd => hd
  | o :: l, i, done, hi, hd => by
    obtain ⟨ho, hi'⟩ := range'_drop hi
    simp only [drainPass]
    split
    · rename_i hb
      refine drainPass_sound hs hr l (i + 1) _ hi' fun k hk => ?_
      have hk : (done ||| 2 ^ i).testBit k = true := hk
      rw [Nat.testBit_or, Bool.or_eq_true] at hk
      rcases hk with hk | hk
      · exact hd k hk
      · rw [Nat.testBit_two_pow] at hk
        have e : i = k := by simpa using hk
        subst e
        have hlt : i < ops.size := (Array.getElem?_eq_some_iff.1 ho).1
        cases hl : listed.getD i false with
        | true => rfl
        | false =>
          have hl' : listed.getD i true = false := by
            have : i < listed.size := by omega
            simpa [this] using hl
          have : i ∈ Region.ready md ops listed := mem_ready.2 ⟨hl', o, ho, fun e he hbn => hd _ (land_sub hb (emask_spec md _ e (by simpa using he) hbn))⟩
          rw [hr] at this
          cases this
    · exact drainPass_sound hs hr l (i + 1) _ hi' hd

theorem drain_sound {md : Region.Mode} {ops : Array Oper} {listed : Array Bool} (hs : listed.size = ops.size) (hr : Region.ready md ops listed = []) : ∀ (f done : Nat), drain md ops.toList (Nat.pow 2 ops.toList.length - 1) f done = true →
    (∀ k, done.testBit k = true → listed.getD k false = true) → ∀ k, k < ops.size → listed.getD k false = true := by
  have full : ∀ done, Nat.beq done (Nat.pow 2 ops.toList.length - 1) = true → (∀ k, done.testBit k = true → listed.getD k false = true) → ∀ k, k < ops.size → listed.getD k false = true := fun done hb hd k hk => by
    have e : done = 2 ^ ops.size - 1 := by
      have := Nat.eq_of_beq_eq_true hb
      simpa using this
    refine hd k ?_
    rw [e, Nat.testBit_two_pow_sub_one]
    simpa using hk
  intro f
  induction f with
  | zero => intro done h hd; exact full done h hd
  | succ f ih =>
    intro done h hd
    simp only [drain] at h
    split at h
    · rename_i hb; exact full done hb hd
    · exact ih _ h (drainPass_sound hs hr _ 0 done rfl hd)

/-- Where nothing may be done, all is done. -/
theorem drainsB_sound {ops : Array Oper} (h : drainsB ops.toList = true) (md : Region.Mode) {listed : Array Bool} (hs : listed.size = ops.size) (hr : Region.ready md ops listed = []) : ∀ k, k < ops.size → listed.getD k false = true := by
  have z : ∀ k, (0 : Nat).testBit k = true → listed.getD k false = true := fun k hk => by simp at hk
  unfold drainsB at h
  split at h
  · rename_i h1
    split at h
    · rename_i h2
      cases md with
      | text => exact drain_sound hs hr _ 0 h2 z
      | gc => exact drain_sound hs hr _ 0 h1 z
      | any => exact drain_sound hs hr _ 0 h z
    · cases h
  · cases h

end Go.Em
