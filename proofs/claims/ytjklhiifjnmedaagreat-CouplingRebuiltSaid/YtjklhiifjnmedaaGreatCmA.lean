/- A unit's system and epoch; the classes that a lock touches: plain Lean. The coupling facility's state and its calls: plain Lean, no program in sight. Sorted and compacted: the set of the numbers, in increasing order; plain Lean. A coupling facility in memory: its box, its manager, its empty table of names, and what a call may have changed; plain theorems, no function of the program in sight. -/
import Derived.Test.YtjklhiifjnmedaaGreatLocks
import Derived.Lib.SlicesCompact
import Derived.Test.YtjklhiifjnmedaaGreatMgr
import Derived.Test.YtjklhiifjnmedaaGreatRows2
namespace P52
/-- The system of a unit, 0 for none. -/
def sysOf (u : Int) : Int := if u < 1 ∨ u % 65536 = 0 ∨ u / 65536 / 4 < 1 ∨ 65535 < u / 65536 / 4 then 0 else u / 65536 % 4 + 1
/-- Its epoch, 0 for none. -/
def epOf (u : Int) : Int := if u < 1 ∨ u % 65536 = 0 ∨ u / 65536 / 4 < 1 ∨ 65535 < u / 65536 / 4 then 0 else u / 65536 / 4
theorem sysOf_le (u : Int) : 0 ≤ sysOf u ∧ sysOf u ≤ 4 := by
  unfold sysOf
  split <;> omega
/-- The reference's test is the same. -/
theorem sysOf_ref (u : Int) : sysOf u = if u < 1 ∨ u % 65536 = 0 ∨ u / 65536 < 4 ∨ 262144 ≤ u / 65536 then 0 else u / 65536 % 4 + 1 := by
  unfold sysOf
  by_cases h : u < 1 ∨ u % 65536 = 0 ∨ u / 65536 / 4 < 1 ∨ 65535 < u / 65536 / 4
  · rw [if_pos h, if_pos (by omega)]
  · rw [if_neg h, if_neg (by omega)]
theorem epOf_ref (u : Int) : epOf u = if u < 1 ∨ u % 65536 = 0 ∨ u / 65536 < 4 ∨ 262144 ≤ u / 65536 then 0 else u / 65536 / 4 := by
  unfold epOf
  by_cases h : u < 1 ∨ u % 65536 = 0 ∨ u / 65536 / 4 < 1 ∨ 65535 < u / 65536 / 4
  · rw [if_pos h, if_pos (by omega)]
  · rw [if_neg h, if_neg (by omega)]
/-- A unit made of a system, an epoch and a counter. -/
theorem sysOf_make {s e c : Int} (hs : 1 ≤ s ∧ s ≤ 4) (he : 1 ≤ e ∧ e ≤ 65535) (hc : 1 ≤ c ∧ c < 65536) : sysOf ((e * 4 + s - 1) * 65536 + c) = s ∧ epOf ((e * 4 + s - 1) * 65536 + c) = e := by
  have h1 : ((e * 4 + s - 1) * 65536 + c) / 65536 = e * 4 + s - 1 := by omega
  have h2 : ((e * 4 + s - 1) * 65536 + c) % 65536 = c := by omega
  have h3 : (e * 4 + s - 1) / 4 = e := by omega
  unfold sysOf epOf
  rw [h1, h2, h3, if_neg (by omega), if_neg (by omega)]
  omega
/-- The sum of bytes. -/
def sumB (l : List UInt8) : Int := l.foldl (fun s b => s + (b.toNat : Int)) 0
theorem sumB_snoc (l : List UInt8) (b : UInt8) : sumB (l ++ [b]) = sumB l + (b.toNat : Int) := by
  unfold sumB
  rw [List.foldl_append]
  rfl
theorem foldl_up (l : List UInt8) : ∀ s : Int, l.foldl (fun s b => s + (b.toNat : Int)) s = s + sumB l := by
  induction l with
  | nil => intro s; simp [sumB]
  | cons b l ih =>
    intro s
    unfold sumB
    rw [List.foldl_cons, List.foldl_cons, ih, ih (0 + (b.toNat : Int))]
    omega
theorem sumB_cons (b : UInt8) (l : List UInt8) : sumB (b :: l) = (b.toNat : Int) + sumB l := by
  show (b :: l).foldl (fun s b => s + (b.toNat : Int)) 0 = _
  rw [List.foldl_cons, foldl_up]
  omega
theorem sumB_le : ∀ l : List UInt8, 0 ≤ sumB l ∧ sumB l ≤ 255 * l.length
  | [] => by simp [sumB]
  | b :: l => by
    have ih := sumB_le l
    have hb := b.toNat_lt
    rw [sumB_cons, List.length_cons]
    omega
/-- The class of a single key. -/
def cls1 (id : Int) (low : List UInt8) : Int := (id % 16 + sumB low) % 16
theorem cls1_le (id : Int) (low : List UInt8) : 0 ≤ cls1 id low ∧ cls1 id low < 16 := by
  unfold cls1
  omega
/-- The classes that a lock touches. -/
def classesP (id : Int) (low high : List UInt8) (e : Bool) : List Int := if low = high ∧ e = false then [cls1 id low] else (List.range 16).map Int.ofNat
theorem mem_classes {id : Int} {low high : List UInt8} {e : Bool} {c : Int} (h : c ∈ classesP id low high e) : 0 ≤ c ∧ c < 16 := by
  unfold classesP at h
  split at h
  · rw [List.mem_singleton.1 h]
    exact cls1_le _ _
  · obtain ⟨k, hk, rfl⟩ := List.mem_map.1 h
    have := List.mem_range.1 hk
    simp
    omega
theorem classes_all {id : Int} {low high : List UInt8} {e : Bool} (h : ¬ (low = high ∧ e = false)) {c : Int} (h0 : 0 ≤ c) (h1 : c < 16) : c ∈ classesP id low high e := by
  unfold classesP
  rw [if_neg h]
  exact List.mem_map.2 ⟨c.toNat, List.mem_range.2 (by omega), by simp; omega⟩
end P52
namespace P52
open P16 P46
/-- A facility: epochs, who is connected, the locks, whether they are lost, how many were granted by their classes alone. -/
structure Fs where
  ep : Nat → Int
  cn : Nat → Bool
  s : St
  lost : Bool
  fast : Int
def fs0 : Fs := ⟨fun _ => 0, fun _ => false, ⟨[], []⟩, false, 0⟩
def setAt {α : Type} (f : Nat → α) (k : Nat) (v : α) : Nat → α := fun i => if i = k then v else f i
theorem setAt_same {α : Type} (f : Nat → α) (k : Nat) (v : α) : setAt f k v k = v := by simp [setAt]
theorem setAt_other {α : Type} (f : Nat → α) {k i : Nat} (v : α) (h : i ≠ k) : setAt f k v i = f i := by simp [setAt, h]
/-- There is such a system. -/
def okS (k : Int) : Bool := decide (1 ≤ k) && decide (k ≤ 4)
/-- The unit is present. -/
def pres (F : Fs) (u : Int) : Bool := decide (sysOf u ≠ 0) && (F.cn (sysOf u).toNat && decide (F.ep (sysOf u).toNat = epOf u))
/-- The unit belongs to system k and is not present. -/
def gone (F : Fs) (u k : Int) : Bool := decide (sysOf u = k) && (decide (sysOf u ≠ 0) && !pres F u)
def connect (F : Fs) (k e : Int) : Fs × Int :=
  if okS k = false ∨ e < 1 ∨ 65535 < e then (F, 2)
  else if F.cn k.toNat = true then (F, 9)
  else if e ≤ F.ep k.toNat then (F, 13)
  else (⟨setAt F.ep k.toNat e, setAt F.cn k.toNat true, F.s, F.lost, F.fast⟩, 0)
def classesL (l : Lock) : List Int := classesP l.id l.r.low l.r.high l.r.e
/-- Two locks touch a common class. -/
def meets (a b : Lock) : Bool := (classesL a).any fun c => (classesL b).contains c
/-- No lock of another system than k touches a class that l touches. -/
def aloneB (all : List Lock) (l : Lock) (k : Int) : Bool := all.all fun x => decide (sysOf x.unit = k) || !meets l x
noncomputable def request (F : Fs) (l : Lock) : Fs × Int :=
  if validL l = false ∨ sysOf l.unit = 0 then (F, 1)
  else if pres F l.unit = false then (F, 13)
  else if F.lost = true then (F, 9)
  else (⟨F.ep, F.cn, (P46.request F.s l).1, F.lost, if aloneB (F.s.h ++ F.s.q) l (sysOf l.unit) = true then F.fast + 1 else F.fast⟩, (P46.request F.s l).2)
def withS (F : Fs) (s : St) : Fs := ⟨F.ep, F.cn, s, F.lost, F.fast⟩
def cancel (F : Fs) (u : Int) : Fs × List Int := (withS F (P46.cancel F.s u).1, (P46.cancel F.s u).2)
def release (F : Fs) (u : Int) : Fs × List Int := (withS F (P46.release F.s u).1, (P46.release F.s u).2)
def unitsL (ls : List Lock) : List Int := setL (ls.map (·.unit))
/-- The connection is off. -/
def off (F : Fs) (k : Int) : Fs := ⟨F.ep, setAt F.cn k.toNat false, F.s, F.lost, F.fast⟩
def failStep (F : Fs) (k : Int) (s : St) (u : Int) : St := if gone F u k = true then (P46.cancel s u).1 else s
def fail (F : Fs) (k : Int) : Fs := if okS k = true then withS (off F k) ((unitsL F.s.q).foldl (failStep (off F k) k) F.s) else F
def retained (F : Fs) (k : Int) : List Lock := F.s.h.filter fun l => gone F l.unit k
def exportL (F : Fs) (k : Int) : List Lock := F.s.h.filter fun l => decide (sysOf l.unit = k) && pres F l.unit
def freeStep (r : St × List Int) (u : Int) : St × List Int := ((P46.release r.1 u).1, r.2 ++ (P46.release r.1 u).2)
def freeGo (us : List Int) (s : St) : St × List Int := us.foldl freeStep (s, [])
def free (F : Fs) (k : Int) : Fs × List Int := (withS F (freeGo (unitsL (retained F k)) F.s).1, (freeGo (unitsL (retained F k)) F.s).2)
def lose (F : Fs) : Fs := ⟨F.ep, F.cn, ⟨[], []⟩, true, F.fast⟩
/-- The first n locks may be given to the facility. -/
def okTo (F : Fs) (ls : List Lock) : Nat → Bool
  | 0 => true
  | n + 1 => okTo F ls n && match ls[n]? with
    | some x => validL x && pres F x.unit && !((ls.take n).any fun y => conflict x y)
    | none => true
def rebuild (F : Fs) (ls : List Lock) : Fs × Int :=
  if F.lost = false then (F, 9)
  else if okTo F ls ls.length = true then (⟨F.ep, F.cn, ⟨newL ls, []⟩, false, F.fast⟩, 0)
  else (F, 1)
def exportsL (F : Fs) : List Lock := exportL F 1 ++ exportL F 2 ++ exportL F 3 ++ exportL F 4
structure ActC where
  (kind a b : Int)
  (l : Lock)
noncomputable def act (F : Fs) (x : ActC) : Fs × Int × List Int :=
  if x.kind.tmod 11 = 4 then ((cancel F x.l.unit).1, 0, (cancel F x.l.unit).2)
  else if x.kind.tmod 11 = 5 then ((release F x.l.unit).1, 0, (release F x.l.unit).2)
  else if x.kind.tmod 11 = 6 then ((connect F x.a x.b).1, (connect F x.a x.b).2, [])
  else if x.kind.tmod 11 = 7 then (fail F x.a, 0, [])
  else if x.kind.tmod 11 = 8 then ((free F x.a).1, 0, (free F x.a).2)
  else if x.kind.tmod 11 = 9 then (lose F, 0, [])
  else if x.kind.tmod 11 = 10 then ((rebuild F (exportsL F)).1, (rebuild F (exportsL F)).2, [])
  else ((request F x.l).1, (request F x.l).2, [])

theorem okTo_le {F : Fs} {ls : List Lock} {n m : Nat} (h : okTo F ls n = false) (hm : n ≤ m) : okTo F ls m = false := by
  induction hm with
  | refl => exact h
  | step _ ih => rw [okTo, ih, Bool.false_and]
theorem okTo_at {F : Fs} {ls : List Lock} : ∀ {n : Nat}, okTo F ls n = true → ∀ i x, i < n → ls[i]? = some x → validL x = true ∧ pres F x.unit = true ∧ ∀ y ∈ ls.take i, conflict x y = false
  | 0, _, i, x, hi, _ => by omega
  | n + 1, h, i, x, hi, hx => by
    rw [okTo, Bool.and_eq_true] at h
    rcases Nat.lt_succ_iff_lt_or_eq.1 hi with h1 | h1
    · exact okTo_at h.1 i x h1 hx
    · subst h1
      have := h.2
      rw [hx] at this
      simp only [Bool.and_eq_true, Bool.not_eq_true'] at this
      exact ⟨this.1.1, this.1.2, fun y hy => by simpa using List.any_eq_false.1 this.2 y hy⟩
theorem okTo_of {F : Fs} {ls : List Lock} (h : ∀ i x, ls[i]? = some x → validL x = true ∧ pres F x.unit = true ∧ ∀ y ∈ ls.take i, conflict x y = false) : ∀ n, okTo F ls n = true
  | 0 => rfl
  | n + 1 => by
    rw [okTo, okTo_of h n, Bool.true_and]
    cases hx : ls[n]? with
    | none => rfl
    | some x =>
      obtain ⟨h1, h2, h3⟩ := h n x hx
      simp only [h1, h2, Bool.true_and, Bool.not_eq_true', List.any_eq_false]
      exact fun y hy => by simp [h3 y hy]

/-- What holds of a facility's state at any time; n bounds its size. -/
structure Ok (F : Fs) (n : Nat) : Prop where
  good : Good F.s
  valids : Valids F.s
  len : F.s.h.length + F.s.q.length ≤ n
  fast0 : 0 ≤ F.fast
  fast : F.fast ≤ n
theorem ok0 : Ok fs0 0 := ⟨good_nil, ⟨(fun l hl => by cases hl), (fun l hl => by cases hl)⟩, by simp [fs0], by simp [fs0], by simp [fs0]⟩
theorem Ok.mono {F : Fs} {n m : Nat} (h : Ok F n) (hm : n ≤ m) : Ok F m := ⟨h.good, h.valids, Nat.le_trans h.len hm, h.fast0, by have := h.fast; omega⟩
theorem grantGo_len : ∀ (rest h pre : List Lock) (out : List Int), (grantGo h pre rest out).1.h.length + (grantGo h pre rest out).1.q.length = h.length + pre.length + rest.length
  | [], h, pre, out => by simp [grantGo]
  | l :: rest, h, pre, out => by
    rw [grantGo]
    split
    · rw [grantGo_len]; simp; omega
    · rw [grantGo_len]; simp; omega
theorem drop_len (q : List Lock) (u : Int) : (drop q u).length ≤ q.length := List.length_filter_le _ _
theorem cancel_len (s : St) (u : Int) : (P46.cancel s u).1.h.length + (P46.cancel s u).1.q.length ≤ s.h.length + s.q.length := by
  show (grantGo s.h [] (drop s.q u) []).1.h.length + (grantGo s.h [] (drop s.q u) []).1.q.length ≤ _
  rw [grantGo_len]
  have h2 := drop_len s.q u
  simp
  omega
theorem release_len (s : St) (u : Int) : (P46.release s u).1.h.length + (P46.release s u).1.q.length ≤ s.h.length + s.q.length := by
  show (grantGo (drop s.h u) [] (drop s.q u) []).1.h.length + (grantGo (drop s.h u) [] (drop s.q u) []).1.q.length ≤ _
  rw [grantGo_len]
  have h1 := drop_len s.h u
  have h2 := drop_len s.q u
  simp
  omega
theorem ask_len (s : St) (l : Lock) : (P46.ask s l).1.h.length + (P46.ask s l).1.q.length ≤ s.h.length + s.q.length + 1 := by
  unfold P46.ask
  split
  · simp; omega
  · split
    · simp
    · simp; omega
theorem request_len (s : St) (l : Lock) : (P46.request s l).1.h.length + (P46.request s l).1.q.length ≤ s.h.length + s.q.length + 1 := by
  unfold P46.request
  split
  · simp
  · split
    · simp
    · split
      · split
        · simp
        · have := ask_len (P46.cancel s l.unit).1 l
          have := cancel_len s l.unit
          omega
      · exact ask_len s l
theorem Ok.connect {F : Fs} {n : Nat} (h : Ok F n) (k e : Int) : Ok (connect F k e).1 n := by
  unfold P52.connect
  split
  · exact h
  · split
    · exact h
    · split
      · exact h
      · exact ⟨h.good, h.valids, h.len, h.fast0, h.fast⟩
theorem Ok.request {F : Fs} {n : Nat} (h : Ok F n) (l : Lock) : Ok (request F l).1 (n + 1) := by
  unfold P52.request
  split
  · exact h.mono (by omega)
  · split
    · exact h.mono (by omega)
    · split
      · exact h.mono (by omega)
      · refine ⟨request_good h.good l, request_valids h.valids l, Nat.le_trans (request_len _ _) (by have := h.len; omega), ?_, ?_⟩
        · have := h.fast0
          dsimp only
          split <;> omega
        · have := h.fast
          dsimp only
          split <;> omega
theorem Ok.withS {F : Fs} {n : Nat} {s : St} (h : Ok F n) (g : Good s) (v : Valids s) (l : s.h.length + s.q.length ≤ n) : Ok (withS F s) n := ⟨g, v, l, h.fast0, h.fast⟩
theorem Ok.cancel {F : Fs} {n : Nat} (h : Ok F n) (u : Int) : Ok (cancel F u).1 n :=
  h.withS (cancel_good h.good u) (cancel_valids h.valids u) (Nat.le_trans (cancel_len _ _) h.len)
theorem Ok.release {F : Fs} {n : Nat} (h : Ok F n) (u : Int) : Ok (release F u).1 n :=
  h.withS (release_good h.good u) (release_valids h.valids u) (Nat.le_trans (release_len _ _) h.len)
/-- A state that may be handed on. -/
structure Snd (s : St) (n : Nat) : Prop where
  good : Good s
  valids : Valids s
  len : s.h.length + s.q.length ≤ n
theorem Snd.cancel {s : St} {n : Nat} (h : Snd s n) (u : Int) : Snd (P46.cancel s u).1 n := ⟨cancel_good h.good u, cancel_valids h.valids u, Nat.le_trans (cancel_len _ _) h.len⟩
theorem Snd.release {s : St} {n : Nat} (h : Snd s n) (u : Int) : Snd (P46.release s u).1 n := ⟨release_good h.good u, release_valids h.valids u, Nat.le_trans (release_len _ _) h.len⟩
theorem Ok.snd {F : Fs} {n : Nat} (h : Ok F n) : Snd F.s n := ⟨h.good, h.valids, h.len⟩
theorem Snd.failStep {s : St} {n : Nat} (h : Snd s n) (F : Fs) (k u : Int) : Snd (failStep F k s u) n := by
  unfold P52.failStep
  split
  · exact h.cancel u
  · exact h
theorem Snd.fails {n : Nat} (F : Fs) (k : Int) : ∀ (us : List Int) {s : St}, Snd s n → Snd (us.foldl (P52.failStep F k) s) n
  | [], _, h => h
  | u :: us, _, h => Snd.fails F k us (h.failStep F k u)
theorem Snd.frees {n : Nat} : ∀ (us : List Int) {r : St × List Int}, Snd r.1 n → Snd (us.foldl freeStep r).1 n
  | [], _, h => h
  | u :: us, r, h => Snd.frees us (r := freeStep r u) (h.release u)
theorem Ok.off {F : Fs} {n : Nat} (h : Ok F n) (k : Int) : Ok (off F k) n := ⟨h.good, h.valids, h.len, h.fast0, h.fast⟩
theorem Ok.fail {F : Fs} {n : Nat} (h : Ok F n) (k : Int) : Ok (fail F k) n := by
  unfold P52.fail
  split
  · have := Snd.fails (P52.off F k) k (unitsL F.s.q) h.snd
    exact (h.off k).withS this.good this.valids this.len
  · exact h
theorem Ok.free {F : Fs} {n : Nat} (h : Ok F n) (k : Int) : Ok (free F k).1 n := by
  have := Snd.frees (unitsL (retained F k)) (r := (F.s, [])) h.snd
  exact h.withS this.good this.valids this.len
theorem Ok.lose {F : Fs} {n : Nat} (h : Ok F n) : Ok (lose F) n := ⟨good_nil, ⟨(fun l hl => by cases hl), (fun l hl => by cases hl)⟩, by simp [P52.lose], h.fast0, h.fast⟩
theorem newL_inv (ls : List Lock) : Compat (newL ls) ∧ (∀ l ∈ newL ls, validL l = true ∧ l ∈ ls) ∧ (newL ls).length ≤ ls.length := by
  have key : ∀ (q p o : List Lock), Compat p → (∀ l ∈ p, validL l = true ∧ l ∈ o) → p.length ≤ o.length → Compat (q.foldl (fun h l => if validL l && !(h.any fun y => conflict y l) then h ++ [l] else h) p) ∧ (∀ l ∈ q.foldl (fun h l => if validL l && !(h.any fun y => conflict y l) then h ++ [l] else h) p, validL l = true ∧ l ∈ o ++ q) ∧ (q.foldl (fun h l => if validL l && !(h.any fun y => conflict y l) then h ++ [l] else h) p).length ≤ (o ++ q).length := by
    intro q
    induction q with
    | nil => intro p o h1 h2 h3; simpa using ⟨h1, h2, h3⟩
    | cons l q ih =>
      intro p o h1 h2 h3
      rw [List.foldl_cons]
      have e : o ++ l :: q = (o ++ [l]) ++ q := by simp
      rw [e]
      split
      · rename_i hc
        simp only [Bool.and_eq_true, Bool.not_eq_true', List.any_eq_false, Bool.not_eq_true] at hc
        refine ih (p ++ [l]) (o ++ [l]) (h1.snoc hc.2) ?_ (by simpa using h3)
        intro y hy
        rcases List.mem_append.1 hy with hy | hy
        · exact ⟨(h2 y hy).1, by simp [(h2 y hy).2]⟩
        · rw [List.mem_singleton.1 hy]
          exact ⟨hc.1, by simp⟩
      · exact ih p (o ++ [l]) h1 (fun y hy => ⟨(h2 y hy).1, by simp [(h2 y hy).2]⟩) (by simp; omega)
  have := key ls [] [] (fun a ha => by cases ha) (fun l hl => by cases hl) (Nat.le_refl _)
  simpa [newL] using this
theorem good_held {h : List Lock} (hc : Compat h) : Good ⟨h, []⟩ :=
  ⟨⟨fun _ => 0, by rintro u v ⟨p, l, r, h, _⟩; simp at h⟩, by simp [Ones], by intro p l r h; simp at h, hc⟩
theorem Ok.rebuild {F : Fs} {n : Nat} (h : Ok F n) {ls : List Lock} (hl : ls.length ≤ n) : Ok (rebuild F ls).1 n := by
  unfold P52.rebuild
  split
  · exact h
  · split
    · obtain ⟨h1, h2, h3⟩ := newL_inv ls
      exact ⟨good_held h1, ⟨fun l hl => (h2 l hl).1, fun l hl => by cases hl⟩, by dsimp only; simp; omega, h.fast0, h.fast⟩
    · exact h
theorem filter_sum {α : Type} (p1 p2 p3 p4 : α → Bool) (h : ∀ x, (p1 x = true → p2 x = false ∧ p3 x = false ∧ p4 x = false) ∧ (p2 x = true → p3 x = false ∧ p4 x = false) ∧ (p3 x = true → p4 x = false)) : ∀ l : List α, (l.filter p1).length + (l.filter p2).length + (l.filter p3).length + (l.filter p4).length ≤ l.length
  | [] => by simp
  | x :: l => by
    have ih := filter_sum p1 p2 p3 p4 h l
    obtain ⟨h1, h2, h3⟩ := h x
    simp only [List.filter_cons, List.length_cons]
    cases e1 : p1 x
    · cases e2 : p2 x
      · cases e3 : p3 x
        · cases e4 : p4 x <;> simp <;> omega
        · simp [h3 e3]; omega
      · simp [h2 e2]; omega
    · simp [h1 e1]; omega
theorem exportsL_len (F : Fs) : (exportsL F).length ≤ F.s.h.length := by
  have := filter_sum (fun l => decide (sysOf l.unit = 1) && pres F l.unit) (fun l => decide (sysOf l.unit = 2) && pres F l.unit) (fun l => decide (sysOf l.unit = 3) && pres F l.unit) (fun l => decide (sysOf l.unit = 4) && pres F l.unit) (fun x => by
    simp only [Bool.and_eq_true, decide_eq_true_eq, Bool.and_eq_false_iff, decide_eq_false_iff_not]
    omega) F.s.h
  unfold exportsL exportL
  simp only [List.length_append]
  omega
theorem Ok.act {F : Fs} {n : Nat} (h : Ok F n) (x : ActC) : Ok (act F x).1 (n + 1) := by
  unfold P52.act
  repeat' split
  · exact (h.cancel _).mono (by omega)
  · exact (h.release _).mono (by omega)
  · exact (h.connect _ _).mono (by omega)
  · exact (h.fail _).mono (by omega)
  · exact (h.free _).mono (by omega)
  · exact h.lose.mono (by omega)
  · exact (h.rebuild (by have := exportsL_len F; have := h.len; omega)).mono (by omega)
  · exact h.request _
end P52
namespace P52
open P46 Go.Lib
theorem get_bang {zs : List Int} {j : Nat} (h : j < zs.length) : zs.toArray[j]! = zs[j] := by
  simp [h]
theorem compactUpTo_set {zs : List Int} (hs : zs.Pairwise (· ≤ ·)) : ∀ m, m ≤ zs.length → Up (compactUpTo zs.toArray m) ∧ (∀ x, x ∈ compactUpTo zs.toArray m ↔ ∃ j, j < m ∧ zs[j]? = some x)
  | 0, _ => by simp [compactUpTo]
  | m + 1, hm => by
    obtain ⟨h1, h2⟩ := compactUpTo_set hs m (by omega)
    rw [compactUpTo_succ]
    have hlt : m < zs.length := by omega
    have hg : zs[m]? = some zs[m] := List.getElem?_eq_getElem hlt
    have hle : ∀ (j : Nat) (x : Int), j < m → zs[j]? = some x → x ≤ zs[m] := by
      intro j x hj hx
      obtain ⟨hj2, rfl⟩ := List.getElem?_eq_some_iff.1 hx
      exact List.pairwise_iff_getElem.1 hs j m hj2 hlt hj
    by_cases hk : keeps zs.toArray m = true
    · rw [if_pos hk, get_bang hlt]
      have hlt2 : ∀ x ∈ compactUpTo zs.toArray m, x < zs[m] := by
        intro x hx
        obtain ⟨j, hj, hjx⟩ := (h2 x).1 hx
        have hm0 : m ≠ 0 := by omega
        have hne : zs[m] ≠ zs[m - 1] := by
          unfold keeps at hk
          simp only [decide_eq_true_eq] at hk
          rcases hk with hk | hk
          · exact absurd hk hm0
          · rwa [get_bang hlt, get_bang (by omega)] at hk
        have hm1 : zs[m - 1] ≤ zs[m] := List.pairwise_iff_getElem.1 hs (m - 1) m (by omega) hlt (by omega)
        have hx1 : x ≤ zs[m - 1] := by
          obtain ⟨hj2, rfl⟩ := List.getElem?_eq_some_iff.1 hjx
          by_cases e : j = m - 1
          · subst e; exact Int.le_refl _
          · exact List.pairwise_iff_getElem.1 hs j (m - 1) hj2 (by omega) (by omega)
        omega
      refine ⟨List.pairwise_append.2 ⟨h1, List.pairwise_singleton _ _, fun x hx y hy => by rw [List.mem_singleton.1 hy]; exact hlt2 x hx⟩, fun x => ?_⟩
      rw [List.mem_append, h2, List.mem_singleton]
      constructor
      · rintro (⟨j, hj, hx⟩ | rfl)
        · exact ⟨j, by omega, hx⟩
        · exact ⟨m, by omega, hg⟩
      · rintro ⟨j, hj, hx⟩
        by_cases e : j = m
        · subst e
          rw [hg] at hx
          exact .inr (Option.some.inj hx).symm
        · exact .inl ⟨j, by omega, hx⟩
    · rw [if_neg hk, List.append_nil]
      refine ⟨h1, fun x => ?_⟩
      rw [h2]
      have hm0 : m ≠ 0 ∧ zs[m] = zs[m - 1] := by
        unfold keeps at hk
        simp only [decide_eq_true_eq, not_or, Decidable.not_not] at hk
        refine ⟨hk.1, ?_⟩
        have := hk.2
        rwa [get_bang hlt, get_bang (by omega)] at this
      constructor
      · rintro ⟨j, hj, hx⟩
        exact ⟨j, by omega, hx⟩
      · rintro ⟨j, hj, hx⟩
        by_cases e : j = m
        · subst e
          rw [hg] at hx
          exact ⟨j - 1, by omega, by rw [← hx, hm0.2, List.getElem?_eq_getElem (by omega)]⟩
        · exact ⟨j, by omega, hx⟩
theorem sorted_compact (xs : List Int) : compact (xs.mergeSort fun x y => decide (x ≤ y)) = setL xs := by
  have hs : (xs.mergeSort fun x y => decide (x ≤ y)).Pairwise (· ≤ ·) := by
    have h1 : (xs.mergeSort fun x y => decide (x ≤ y)).Pairwise (fun a b => decide (a ≤ b) = true) := List.pairwise_mergeSort (fun a b c h1 h2 => by simp only [decide_eq_true_eq] at *; omega) (fun a b => by simp only [Bool.or_eq_true, decide_eq_true_eq]; omega) xs
    exact h1.imp (fun h => by simpa using h)
  obtain ⟨h1, h2⟩ := compactUpTo_set hs _ (Nat.le_refl _)
  refine up_ext h1 (setL_spec xs).1 fun x => ?_
  rw [(setL_spec xs).2, ← (List.mergeSort_perm xs (fun x y => decide (x ≤ y))).mem_iff, List.mem_iff_getElem? (l := xs.mergeSort fun x y => decide (x ≤ y))]
  show x ∈ compactUpTo _ _ ↔ _
  rw [h2]
  constructor
  · rintro ⟨j, _, hx⟩
    exact ⟨j, hx⟩
  · rintro ⟨j, hx⟩
    exact ⟨j, (List.getElem?_eq_some_iff.1 hx).1, hx⟩
end P52
namespace Go.Proofs.YtjklhiifjnmedaaGreat
open Go.RowKit P16 P46

abbrev tF : TypeId := 78
abbrev tT : TypeId := 106
/-- The cells of a facility. -/
def fcs (F : P52.Fs) (p nb : Nat) : Array Value := #[.int .i64 (F.ep 0), .int .i64 (F.ep 1), .int .i64 (F.ep 2), .int .i64 (F.ep 3), .int .i64 (F.ep 4), .bool (F.cn 0), .bool (F.cn 1), .bool (F.cn 2), .bool (F.cn 3), .bool (F.cn 4), .pointer (some ⟨p, 0, none⟩), .pointer (some ⟨nb, 0, none⟩), .bool F.lost, .int .i64 F.fast]
/-- The facility's box is b, its manager p, its table nb. -/
structure FacP (w : World) (B b p nb : Nat) (F : P52.Fs) (vh vq : Value) : Prop where
  box : Blk w b tF (fcs F p nb)
  mgr : Mgr w B p F.s.h F.s.q vh vq
  nm : Blk w nb tT #[.slice none 0 0, .slice none 0 0]
  base : B ≤ b
  nbase : B ≤ nb
/-- Block k is the facility's. -/
def FSet (w : World) (b p nb k : Nat) : Prop := k = b ∨ k = nb ∨ Foot w p k
/-- From w to w' only blocks of S may have changed; those of S' are of S, or new. -/
structure Chg (S S' : Nat → Prop) (w w' : World) : Prop where
  os : w'.os = w.os
  tape : w'.tape = w.tape
  output : w'.output = w.output
  size : w.heap.size ≤ w'.heap.size
  block : ∀ k, k < w.heap.size → ¬ S k → w'.heap[k]? = w.heap[k]?
  sub : ∀ k, S' k → S k ∨ w.heap.size ≤ k
/-- The facility F at block b; S are its blocks, all from B on. -/
def Fac (w : World) (B b : Nat) (F : P52.Fs) (S : Nat → Prop) : Prop := ∃ p nb vh vq, FacP w B b p nb F vh vq ∧ ∀ k, S k ↔ FSet w b p nb k
section
variable {w w1 w' : World} {B b p nb : Nat} {F : P52.Fs} {vh vq : Value} {S S1 S' : Nat → Prop}
theorem own_ne {v : Value} {ls : List Lock} (ho : OwnL w B tL v ls) {g : Nat} {t : TypeId} {cs : Array Value} (hb : Blk w g t cs) (hne : tL ≠ t) : v.ownBlock ≠ some g := by
  intro e
  rcases ho.2 with ⟨rfl, _⟩ | ⟨g', cap, cur, rfl, _, hg, _⟩
  · simp [Value.ownBlock] at e
  · simp [Value.ownBlock] at e
    subst e
    exact Blk.ne hg hb hne rfl
theorem Mgr.nofoot {h q : List Lock} (m : Mgr w B p h q vh vq) {g : Nat} {t : TypeId} {cs : Array Value} (hb : Blk w g t cs) (h1 : tL ≠ t) (h2 : tM ≠ t) : ¬ Foot w p g := by
  intro hf
  rcases m.foot.1 hf with rfl | e | e
  · exact Blk.ne m.box hb h2 rfl
  · exact own_ne m.held hb h1 e
  · exact own_ne m.queue hb h1 e
theorem FacP.nb_ (h : FacP w B b p nb F vh vq) : ¬ Foot w p b := h.mgr.nofoot h.box (by decide) (by decide)
theorem FacP.nn (h : FacP w B b p nb F vh vq) : ¬ Foot w p nb := h.mgr.nofoot h.nm (by decide) (by decide)
theorem FacP.bn (h : FacP w B b p nb F vh vq) : b ≠ nb := Blk.ne h.box h.nm (by decide)
theorem FacP.below (h : FacP w B b p nb F vh vq) (hb : Below w.heap.size w w') : FacP w' B b p nb F vh vq := ⟨h.box.below hb, h.mgr.below hb, h.nm.below hb, h.base, h.nbase⟩
theorem FacP.ge (h : FacP w B b p nb F vh vq) {k : Nat} (hk : FSet w b p nb k) : B ≤ k ∧ k < w.heap.size := by
  rcases hk with rfl | rfl | hk
  · exact ⟨h.base, h.box.lt⟩
  · exact ⟨h.nbase, h.nm.lt⟩
  · exact h.mgr.ge hk
theorem FacP.foot_below (h : FacP w B b p nb F vh vq) (hb : Below w.heap.size w w') (k : Nat) : FSet w' b p nb k ↔ FSet w b p nb k := by
  unfold FSet
  rw [h.mgr.foot, (h.mgr.below hb).foot]
theorem FacP.fac (h : FacP w B b p nb F vh vq) : Fac w B b F (FSet w b p nb) := ⟨p, nb, vh, vq, h, fun _ => Iff.rfl⟩
theorem Fac.below (h : Fac w B b F S) (hb : Below w.heap.size w w') : Fac w' B b F S := by
  obtain ⟨p, nb, vh, vq, h, hs⟩ := h
  exact ⟨p, nb, vh, vq, h.below hb, fun k => (hs k).trans (h.foot_below hb k).symm⟩
theorem Fac.ge (h : Fac w B b F S) {k : Nat} (hk : S k) : B ≤ k ∧ k < w.heap.size := by
  obtain ⟨p, nb, vh, vq, h, hs⟩ := h
  exact h.ge ((hs k).1 hk)
theorem Fac.box (h : Fac w B b F S) : ∃ p nb, Blk w b tF (fcs F p nb) := by
  obtain ⟨p, nb, vh, vq, h, hs⟩ := h
  exact ⟨p, nb, h.box⟩
theorem Chg.refl (S : Nat → Prop) (w : World) : Chg S S w w := ⟨rfl, rfl, rfl, Nat.le_refl _, fun _ _ _ => rfl, fun _ h => .inl h⟩
theorem Chg.trans (a : Chg S S1 w w1) (c : Chg S1 S' w1 w') : Chg S S' w w' := by
  refine ⟨c.os.trans a.os, c.tape.trans a.tape, c.output.trans a.output, Nat.le_trans a.size c.size, fun k hk hf => ?_, fun k hk => ?_⟩
  · rw [c.block k (Nat.lt_of_lt_of_le hk a.size) (fun h => (a.sub k h).elim hf (fun h => by omega)), a.block k hk hf]
  · rcases c.sub k hk with h | h
    · exact a.sub k h
    · exact .inr (Nat.le_trans a.size h)
theorem Chg.of_below (hb : Below w.heap.size w w') : Chg S S w w' := ⟨hb.os, hb.tape, hb.output, hb.size, fun k hk _ => hb.block k hk, fun _ h => .inl h⟩
theorem Chg.congr {T T' : Nat → Prop} (c : Chg S S' w w') (h1 : ∀ k, T k ↔ S k) (h2 : ∀ k, T' k ↔ S' k) : Chg T T' w w' :=
  ⟨c.os, c.tape, c.output, c.size, fun k hk hn => c.block k hk (fun hs => hn ((h1 k).2 hs)), fun k hk => (c.sub k ((h2 k).1 hk)).imp (h1 k).2 id⟩
theorem Chg.below (m : Chg S S' w w') (hf : ∀ k, S k → B ≤ k) (hB : B ≤ w.heap.size) : Below B w w' :=
  ⟨m.os, m.tape, m.output, m.size, fun k hk => m.block k (by omega) (fun h => by have := hf k h; omega)⟩
theorem Fac.below_ (h : Fac w B b F S) (m : Chg S S' w w') (hB : B ≤ w.heap.size) : Below B w w' := m.below (fun _ hk => (h.ge hk).1) hB
theorem Blk.chg {g : Nat} {t : TypeId} {cs : Array Value} (hb : Blk w g t cs) (m : Chg S S' w w') (hf : ¬ S g) : Blk w' g t cs := (m.block g hb.lt hf).trans hb
theorem CellsAt.chg {A : Option Addr} {n size : Nat} {xs : List Value} (hc : CellsAt w A n size xs) (m : Chg S S' w w') (hf : ∀ b off, A = some ⟨b, off, none⟩ → ¬ S b) : CellsAt w' A n size xs :=
  ⟨hc.1, fun j u hj => by
    obtain ⟨b, off, h1, h2⟩ := hc.2 j u hj
    refine ⟨b, off, h1, ?_⟩
    have hlt := World.block_lt_of_cell? w _ h2
    have e := m.block b hlt (hf b off h1)
    unfold World.cell? at h2 ⊢
    rw [e]
    exact h2⟩
theorem own_chg {size : Nat} {e : TypeId} {v : Value} {n : Nat} {xs : List Value} (ho : w.ownsRow B e size v n xs) (m : Chg S S' w w') (hf : ∀ k, v.ownBlock = some k → ¬ S k) : w'.ownsRow B e size v n xs := by
  refine ⟨ho.1, ?_⟩
  rcases ho.2 with h | ⟨g, cap, cur, rfl, a1, a2, a3⟩
  · exact .inl h
  · exact .inr ⟨g, cap, cur, rfl, a1, (m.block g (Array.getElem?_eq_some_iff.1 a2).1 (hf g (by simp [Value.ownBlock]))).trans a2, a3⟩
theorem FacP.moved {s : St} {vh' vq' : Value} (h : FacP w B b p nb F vh vq) (m : Mgr w' B p s.h s.q vh' vq') (mv : Moved p w w') : FacP w' B b p nb (P52.withS F s) vh' vq' :=
  ⟨h.box.moved mv h.nb_, m, h.nm.moved mv h.nn, h.base, h.nbase⟩
theorem FacP.chg (mv : Moved p w w') : Chg (FSet w b p nb) (FSet w' b p nb) w w' :=
  ⟨mv.os, mv.tape, mv.output, mv.size, fun k hk hn => mv.block k hk (fun hf => hn (.inr (.inr hf))), fun k hk => by
    rcases hk with h | h | h
    · exact .inl (.inl h)
    · exact .inl (.inr (.inl h))
    · exact (mv.foot k h).imp (fun h => .inr (.inr h)) id⟩
/-- A method that moves the manager alone. -/
theorem Fac.moved_ {s : St} {vh' vq' : Value} (h : FacP w B b p nb F vh vq) (hs : ∀ k, S k ↔ FSet w b p nb k) (m : Mgr w' B p s.h s.q vh' vq') (mv : Moved p w w') : ∃ S', Fac w' B b (P52.withS F s) S' ∧ Chg S S' w w' ∧ (∀ k, S' k ↔ FSet w' b p nb k) :=
  ⟨FSet w' b p nb, (h.moved m mv).fac, (FacP.chg (b := b) (nb := nb) mv).congr hs (fun _ => Iff.rfl), fun _ => Iff.rfl⟩
theorem Mgr.farB {h q : List Lock} (m : Mgr w B p h q vh vq) (hg : w.grownBy w' (some b)) (hb : ¬ Foot w p b) : Mgr w' B p h q vh vq := by
  have hf := fun k => m.foot (k := k)
  refine ⟨m.box.grown hg (fun e => ?_), m.base, m.held.kept hg (.inr fun e => ?_), m.queue.kept hg (.inr fun e => ?_), m.apart⟩
  · injection e with e
    exact hb ((hf b).2 (.inl e.symm))
  · exact hb ((hf b).2 (.inr (.inl e)))
  · exact hb ((hf b).2 (.inr (.inr e)))
theorem grownBy_setCell (w : World) (b i : Nat) (u : Value) : w.grownBy (w.setCell ⟨b, i, none⟩ u) (some b) := grownBy_setCells (g := b) w i [u]
/-- The facility's box written: nothing else changes. -/
theorem FacP.grown {G : P52.Fs} (h : FacP w B b p nb F vh vq) (hg : w.grownBy w' (some b)) (hb : Blk w' b tF (fcs G p nb)) (hs : G.s = F.s) : FacP w' B b p nb G vh vq :=
  ⟨hb, by rw [hs]; exact h.mgr.farB hg h.nb_, h.nm.grown hg (fun e => h.bn (by injection e with e; exact e.symm)), h.base, h.nbase⟩
theorem FacP.chg_box (h : FacP w B b p nb F vh vq) (hg : w.grownBy w' (some b)) : Chg (FSet w b p nb) (FSet w' b p nb) w w' :=
  ⟨hg.os, hg.tape, hg.output, hg.size, fun k hk hn => hg.block k hk (fun e => hn (.inl (by injection e))), fun k hk => by
    unfold FSet at hk ⊢
    rw [(h.mgr.farB hg h.nb_).foot] at hk
    rw [h.mgr.foot]
    exact .inl hk⟩
end
end Go.Proofs.YtjklhiifjnmedaaGreat
