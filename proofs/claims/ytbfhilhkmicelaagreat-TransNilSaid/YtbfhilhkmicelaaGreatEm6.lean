/-
  Maps that are written to; lengths; what is cleared and copied.
-/
import Derived.Test.YtbfhilhkmicelaaGreatEm5
namespace Go.Em
section
variable {cx : Cx}

theorem run_setObj {P : Program} {w : World} {r : Nat} {o o' : Go.Obj} (h : w.heap[r]? = some o') (hc : ∀ c e f, o' ≠ .cells c e f) :
    (setObj r o).run P w = .ok () { w with heap := w.heap.setIfInBounds r o } := by
  cases o' <;> first
    | exact absurd rfl (hc _ _ _)
    | simp only [setObj, Sem.run, h]

/-- A map is turned. -/
theorem turn_map {m : Pm} {h : Heap} {w : World} (S : Sim m h w) {r : Nat} {es es2 : List MapEntry} {clock clock2 : Nat} {p : Pl} {es' es2' : Array MapEntry} (hg : h.get r = some (.map es clock)) (hp : m r = some p)
    (hw : w.heap[p.blk]? = some (.map es' clock)) (he : Es m es2 es2'.toList) :
    Sim m (h.put r (some (.map es2 clock2))) { w with heap := w.heap.setIfInBounds p.blk (.map es2' clock2) } ∧ Stp m h w m (h.put r (some (.map es2 clock2))) { w with heap := w.heap.setIfInBounds p.blk (.map es2' clock2) } := by
  have hlt : p.blk < w.heap.size := by
    rcases Nat.lt_or_ge p.blk w.heap.size with q | q
    · exact q
    · simp [Array.getElem?_eq_none q] at hw
  refine S.turn hg rfl rfl hp (Heap.get_put _ _ _) rfl ⟨es2', ?_, he⟩ (fun k hk => ?_) (by simp) rfl rfl rfl
  · simp [hlt]
  · simp [Ne.symm hk]

theorem updateE_run (O : Ok cx) {m : Pm} {h h' : Heap} {w : World} (S : Sim m h w) {t : Nat} {x x' k k' v v' : Value} (hx : V m x x') (hk : V m k k') (hv : V m v v') (hu : updateE cx h t x k v = some h') :
    ∃ w', (Instr.mapUpdate t x' k' v').run cx.P w = .ok () w' ∧ Sim m h' w' ∧ Stp m h w m h' w' := by
  unfold updateE at hu
  split at hu
  · rename_i i r hi
    have hun := O.run_under hi w
    split at hu
    · rename_i kt et es clock hd hg
      rw [hd] at hun
      obtain ⟨p, hp, es', hw, he⟩ := S.live _ _ hg
      obtain ⟨r', rfl, _, hm⟩ := map_inv hx
      obtain ⟨q, hq, rfl⟩ := hm _ rfl
      rw [hp] at hq; cases hq
      have keyty : keyOk cx 60 kt k = true → ∃ ki, cx.ty kt = some ki := fun hko => by
        unfold keyOk at hko
        cases hc : cx.ty kt with
        | none => rw [hc] at hko; cases hko
        | some ki => exact ⟨ki, rfl⟩
      split at hu
      · rename_i j y hko hf
        split at hu
        · rename_i hsb
          cases hu
          obtain ⟨ki, hki⟩ := keyty hko
          have hchk := keyOk_run (w := w) (em := false) O 60 kt k k' hko hk 10000 (by omega)
          obtain ⟨r', h1, h2⟩ := findK_run O S hki hk he hf
          cases h2 with
          | some hvv =>
            have hsb' := sameBits_V 10000 _ _ hsb _ _ (he.keyAt hk j) hk
            obtain ⟨h3, h4⟩ := turn_map (clock2 := clock) (es2' := es'.modify j fun e => { e with key := k', val := v' }) S hg hp hw (by rw [Array.toList_modify]; exact he.mod hk hv j)
            refine ⟨_, ?_, h3, h4⟩
            have hsb2 : Instr.sameBits 10000 (((es'[j]?).map (·.key)).getD k') k' = true := by simpa using hsb'
            simp only [Instr.mapUpdate, Sem.run_bind, hun, Result.andThen_ok, run_getObj_map hw, hchk, h1, Instr.keyThatStays, hsb2, if_true, Sem.run_pure]
            exact run_setObj hw (by intro _ _ _ e; cases e)
        · cases hu
      · rename_i hko hf
        cases hu
        obtain ⟨ki, hki⟩ := keyty hko
        have hchk := keyOk_run (w := w) (em := false) O 60 kt k k' hko hk 10000 (by omega)
        obtain ⟨r', h1, h2⟩ := findK_run O S hki hk he hf
        cases h2 with
        | none =>
          obtain ⟨h3, h4⟩ := turn_map (clock2 := clock + 1) (es2' := es'.push { key := k', val := v', born := clock }) S hg hp hw (by simpa using he.append (.cons hk hv .nil))
          refine ⟨_, ?_, h3, h4⟩
          simp only [Instr.mapUpdate, Sem.run_bind, hun, Result.andThen_ok, run_getObj_map hw, hchk, h1]
          exact run_setObj hw (by intro _ _ _ e; cases e)
      · cases hu
    · cases hu
  · cases hu

theorem toList_eraseIdxIfInBounds {α : Type} (a : Array α) (i : Nat) : (a.eraseIdxIfInBounds i).toList = a.toList.eraseIdx i := by
  unfold Array.eraseIdxIfInBounds
  split
  · simp
  · rename_i h
    rw [List.eraseIdx_of_length_le (by simpa using h)]

theorem deleteE_run (O : Ok cx) {m : Pm} {h h' : Heap} {w : World} (S : Sim m h w) {t : Nat} {ts : Array Nat} {x x' k k' : Value} (hts : ts[0]? = some t) (hx : V m x x') (hk : V m k k') (hu : deleteE cx h t x k = some h') (ty : Nat) :
    ∃ w', (Builtin.delete_ ts ty #[x', k']).run cx.P w = .ok (.tuple #[]) w' ∧ Sim m h' w' ∧ Stp m h w m h' w' := by
  unfold deleteE at hu
  split at hu
  · rename_i i r hi
    have hun := O.run_under hi w
    split at hu
    · rename_i kt et es clock hd hg
      rw [hd] at hun
      obtain ⟨p, hp, es', hw, he⟩ := S.live _ _ hg
      obtain ⟨r', rfl, _, hm⟩ := map_inv hx
      obtain ⟨q, hq, rfl⟩ := hm _ rfl
      rw [hp] at hq; cases hq
      have keyty : keyOk cx 60 kt k = true → ∃ ki, cx.ty kt = some ki := fun hko => by
        unfold keyOk at hko
        cases hc : cx.ty kt with
        | none => rw [hc] at hko; cases hko
        | some ki => exact ⟨ki, rfl⟩
      split at hu
      · rename_i j y hko hf
        cases hu
        obtain ⟨ki, hki⟩ := keyty hko
        have hchk := keyOk_run (w := w) (em := es'.isEmpty) O 60 kt k k' hko hk 10000 (by omega)
        obtain ⟨r', h1, h2⟩ := findK_run O S hki hk he hf
        cases h2 with
        | some hvv =>
          obtain ⟨h3, h4⟩ := turn_map (clock2 := clock) (es2' := es'.eraseIdxIfInBounds j) S hg hp hw (by rw [toList_eraseIdxIfInBounds]; exact he.dropE j)
          refine ⟨_, ?_, h3, h4⟩
          have hs := run_setObj (P := cx.P) (o := .map (es'.eraseIdxIfInBounds j) clock) hw (by intro _ _ _ e; cases e)
          simp [Builtin.delete_, hts, hun, run_getObj_map hw, hchk, h1, hs]
      · rename_i hko hf
        cases hu
        obtain ⟨ki, hki⟩ := keyty hko
        have hchk := keyOk_run (w := w) (em := es'.isEmpty) O 60 kt k k' hko hk 10000 (by omega)
        obtain ⟨r', h1, h2⟩ := findK_run O S hki hk he hf
        cases h2 with
        | none =>
          obtain ⟨h3, h4⟩ := turn_map (clock2 := clock) (es2' := es') S hg hp hw he
          refine ⟨_, ?_, h3, h4⟩
          have hs := run_setObj (P := cx.P) (o := .map es' clock) hw (by intro _ _ _ e; cases e)
          simp [Builtin.delete_, hts, hun, run_getObj_map hw, hchk, h1, hs]
      · cases hu
    · cases hu
  · cases hu

theorem lenOp_run (O : Ok cx) {m : Pm} {h : Heap} {w : World} (S : Sim m h w) {t : Nat} {ts : Array Nat} {x x' v : Value} (hts : ts[0]? = some t) (hx : V m x x') (hl : lenOp cx h t x = some v) (ty : Nat) :
    (Builtin.len_ ts ty #[x']).run cx.P w = .ok v w ∧ flat v = true := by
  unfold lenOp at hl
  split at hl
  · cases hl
  · rename_i i hi
    have hun := O.run_under hi w
    generalize i.d = dd at hl hun
    split at hl
    · cases hl
      obtain rfl := string_inv hx
      simp [Builtin.len_, hts, hun, goInt, flat]
    · cases hl
      simp [Builtin.len_, hts, hun, goInt, flat]
    · split at hl
      · rename_i j hj
        have hun2 := O.run_under hj w
        split at hl
        · rename_i hd2
          cases hl; rw [hd2] at hun2
          simp [Builtin.len_, hts, hun, hun2, goInt, flat]
        · cases hl
      · cases hl
    · cases hl
      obtain ⟨b', c', rfl, _⟩ := slice_inv hx
      simp [Builtin.len_, hts, hun, goInt, flat]
    · cases hl
      obtain rfl := flat_inv rfl hx
      simp [Builtin.len_, hts, hun, goInt, flat]
    · rename_i r
      split at hl
      · rename_i es clock hg
        cases hl
        obtain ⟨p, hp, es', hw, he⟩ := S.live _ _ hg
        obtain ⟨r', rfl, _, hm⟩ := map_inv hx
        obtain ⟨q, hq, rfl⟩ := hm _ rfl
        rw [hp] at hq; cases hq
        have := he.length
        simp at this
        simp [Builtin.len_, hts, hun, run_getObj_map hw, goInt, flat, this]
      · cases hl
    · cases hl
      obtain rfl := flat_inv rfl hx
      simp [Builtin.len_, hts, hun, goInt, flat]
    · rename_i r
      split at hl
      · rename_i cap buf hg
        cases hl
        obtain ⟨p, hp, buf', s, r2, hw, he⟩ := S.live _ _ hg
        obtain ⟨r', rfl, _, hm⟩ := chan_inv hx
        obtain ⟨q, hq, rfl⟩ := hm _ rfl
        rw [hp] at hq; cases hq
        have := he.length
        simp at this
        have hget : (getObj p.blk).run cx.P w = .ok (.chan cap buf' false s r2 false) w := by simp [getObj, Sem.run, hw]
        simp [Builtin.len_, hts, hun, hget, goInt, flat, this]
      · cases hl
    · cases hl

theorem repl_length (z : List Value) : ∀ (n : Nat), (repl z n).length = n * z.length
  | 0 => by simp [repl]
  | n + 1 => by simp [repl, repl_length z n, Nat.succ_mul, Nat.add_comm]

theorem repl_get (z : List Value) (hz : 0 < z.length) : ∀ (n i : Nat), i < n * z.length → (repl z n)[i]? = z[i % z.length]?
  | 0, i, h => by simp at h
  | n + 1, i, h => by
    simp only [repl]
    by_cases hi : i < z.length
    · rw [List.getElem?_append_left hi, Nat.mod_eq_of_lt hi]
    · have e : i % z.length = (i - z.length) % z.length := Nat.mod_eq_sub_mod (by omega)
      rw [List.getElem?_append_right (by omega), repl_get z hz n (i - z.length) (by rw [Nat.succ_mul] at h; omega), e]

theorem zeroCells_repl (z : Array Value) (n : Nat) : (Builtin.zeroCells z n).toList = repl z.toList n := by
  apply List.ext_getElem?
  intro i
  by_cases h : i < n * z.size
  · have hz : 0 < z.size := by
      rcases Nat.eq_zero_or_pos z.size with e | e
      · rw [e] at h; simp at h
      · exact e
    have hm := Nat.mod_lt i hz
    rw [repl_get _ (by simpa using hz) _ _ (by simpa using h)]
    simp [Builtin.zeroCells, h, hm]
  · rw [List.getElem?_eq_none (by simp [Builtin.zeroCells]; omega), List.getElem?_eq_none (by rw [repl_length]; simp; omega)]

theorem Vs.repl {m : Pm} {z : List Value} (h : ∀ v ∈ z, flat v = true) : ∀ (n : Nat), Vs m (Em.repl z n) (Em.repl z n)
  | 0 => .nil
  | n + 1 => (Vs.of_flat h).append (Vs.repl h n)

theorem clearE_run (O : Ok cx) {m : Pm} {h h' : Heap} {w : World} (S : Sim m h w) {t : Nat} {ts : Array Nat} {x x' : Value} (hts : ts[0]? = some t) (hx : V m x x') (hl : clearE cx h t x = some h') (ty : Nat) :
    ∃ w', (Builtin.clear_ ts ty #[x']).run cx.P w = .ok (.tuple #[]) w' ∧ Sim m h' w' ∧ Stp m h w m h' w' := by
  unfold clearE at hl
  split at hl
  · cases hl
  · rename_i i hi
    have hun := O.run_under hi w
    generalize i.d = dd at hl hun
    split at hl
    · cases hl
      obtain rfl := flat_inv rfl hx
      refine ⟨w, ?_, S, .refl _ _ _⟩
      simp [Builtin.clear_, hts, hun]
    · rename_i r
      split at hl
      · rename_i es clock hg
        cases hl
        obtain ⟨p, hp, es', hw, he⟩ := S.live _ _ hg
        obtain ⟨r', rfl, _, hm⟩ := map_inv hx
        obtain ⟨q, hq, rfl⟩ := hm _ rfl
        rw [hp] at hq; cases hq
        obtain ⟨h3, h4⟩ := turn_map (clock2 := clock) (es2' := #[]) S hg hp hw .nil
        refine ⟨_, ?_, h3, h4⟩
        have hs := run_setObj (P := cx.P) (o := .map #[] clock) hw (by intro _ _ _ e; cases e)
        simp [Builtin.clear_, hts, hun, run_getObj_map hw, hs]
      · cases hl
    · cases hl
      obtain rfl := flat_inv rfl hx
      refine ⟨w, ?_, S, .refl _ _ _⟩
      simp [Builtin.clear_, hts, hun]
    · cases hl
      obtain ⟨b', c', rfl, _⟩ := slice_inv hx
      refine ⟨w, ?_, S, .refl _ _ _⟩
      cases b' <;> simp [Builtin.clear_, hts, hun]
    · rename_i a n c hne
      split at hl
      · rename_i j hj
        obtain ⟨hz1, _⟩ := O.zero _ _ hj
        obtain ⟨p, hp, hsp, w', hr, h1, h2⟩ := storeN_run (P := cx.P) S (Vs.repl hz1 n) hl
        have : ∃ c', x' = .slice (some ⟨p.blk, p.base + a.off, none⟩) n c' := by
          cases hx with
          | flat h => simp [flat] at h
          | sl hm _ => simp only at hp; rw [hm] at hp; cases hp; exact ⟨_, rfl⟩
          | slu hm _ => simp only at hp; rw [hm] at hp; cases hp; exact ⟨_, rfl⟩
        obtain ⟨c', rfl⟩ := this
        refine ⟨w', ?_, h1, h2⟩
        have hn : n ≠ 0 := fun e => hne e
        rw [← zeroCells_repl] at hr
        obtain ⟨n, rfl⟩ : ∃ k, n = k + 1 := ⟨n - 1, by omega⟩
        simp [Builtin.clear_, hts, hun, O.run_zero hj, hr]
      · cases hl
    · cases hl

end
end Go.Em
