/- The plain law of chapter 12 on lists of bytes: segments, forms, blocks, putting records, joining; no program in sight. -/
namespace P12
abbrev Bs := List UInt8
def word (n : Nat) : Bs := if 65535 < n then [] else [UInt8.ofNat (n / 256), UInt8.ofNat (n % 256), 0, 0]
def readWord : Bs → Option Nat
  | [a, b, c, d] => if c = 0 ∧ d = 0 then some (256 * a.toNat + b.toNat) else none
  | _ => none
theorem word_small {n : Nat} (h : n ≤ 65535) : word n = [UInt8.ofNat (n / 256), UInt8.ofNat (n % 256), 0, 0] := by
  unfold word; rw [if_neg (by omega)]
theorem length_word {n : Nat} (h : n ≤ 65535) : (word n).length = 4 := by rw [word_small h]; rfl
theorem length_word_le (n : Nat) : (word n).length ≤ 4 := by unfold word; split <;> simp
theorem readWord_word {n : Nat} (h : n ≤ 65535) : readWord (word n) = some n := by
  rw [word_small h]
  simp only [readWord, UInt8.toNat_ofNat', and_self, if_true, Option.some.injEq]
  omega
theorem readWord_some {s : Bs} {n : Nat} (h : readWord s = some n) : word n = s ∧ n ≤ 65535 ∧ s.length = 4 := by
  match s, h with
  | [a, b, c, d], h =>
    simp only [readWord] at h
    split at h
    · rename_i hc
      obtain ⟨rfl, rfl⟩ := hc
      simp only [Option.some.injEq] at h
      have ha := a.toNat_lt
      have hb := b.toNat_lt
      refine ⟨?_, by omega, rfl⟩
      rw [word_small (by omega)]
      have e1 : n / 256 = a.toNat := by omega
      have e2 : n % 256 = b.toNat := by omega
      rw [e1, e2, UInt8.ofNat_toNat, UInt8.ofNat_toNat]
    · cases h
theorem readWord_len {s : Bs} (h : s.length ≠ 4) : readWord s = none := by
  match s with
  | [] => rfl
  | [_] => rfl
  | [_, _] => rfl
  | [_, _, _] => rfl
  | [_, _, _, _] => exact absurd rfl h
  | _ :: _ :: _ :: _ :: _ :: _ => rfl

/-- A whole record or a part of one. -/
structure Seg where
  (b a : Bool) (d : Bs)
  deriving DecidableEq
def code (x : Seg) : UInt8 := if x.b then (if x.a then 3 else 2) else if x.a then 1 else 0
def form (x : Seg) : Bs := [UInt8.ofNat ((4 + x.d.length) / 256), UInt8.ofNat ((4 + x.d.length) % 256), code x, 0] ++ x.d
def whole (f : Bs) : Bs := word (4 + f.length) ++ f
def fm (g : List Seg) : Bs := g.flatMap form
def block (g : List Seg) : Bs := whole (fm g)
def size (g : List Seg) : Nat := 4 + (fm g).length
theorem length_form (x : Seg) : (form x).length = 4 + x.d.length := by simp [form]; omega
theorem fm_nil : fm [] = [] := rfl
theorem fm_cons (x : Seg) (g : List Seg) : fm (x :: g) = form x ++ fm g := rfl
theorem fm_snoc (x : Seg) (g : List Seg) : fm (g ++ [x]) = fm g ++ form x := by simp [fm]
theorem size_snoc (x : Seg) (g : List Seg) : size (g ++ [x]) = size g + 4 + x.d.length := by
  unfold size
  rw [fm_snoc, List.length_append, length_form]
  omega
theorem size_one (x : Seg) : size [x] = 8 + x.d.length := by
  have := size_snoc x []
  simp [size, fm] at this ⊢
  omega
theorem fm_eq_nil {g : List Seg} : fm g = [] ↔ g = [] := by
  cases g with
  | nil => simp [fm]
  | cons x g =>
    simp only [fm_cons, List.append_eq_nil_iff, reduceCtorEq, iff_false, not_and]
    intro h
    have := length_form x
    rw [h, List.length_nil] at this
    omega
theorem length_whole {f : Bs} (h : f.length ≤ 60000) : (whole f).length = 4 + f.length := by
  unfold whole; rw [List.length_append, length_word (by omega)]
theorem take4_whole {f : Bs} (h : f.length ≤ 60000) : (whole f).take 4 = word (4 + f.length) := by
  unfold whole
  rw [List.take_append_of_le_length (by rw [length_word (by omega)]; omega), List.take_of_length_le (by rw [length_word (by omega)]; omega)]
theorem drop4_whole {f : Bs} (h : f.length ≤ 60000) : (whole f).drop 4 = f := by
  unfold whole
  rw [List.drop_append_of_le_length (by rw [length_word (by omega)]; omega), List.drop_of_length_le (by rw [length_word (by omega)]; omega)]
  rfl

/-- The first segment of forms. -/
def head (L : Nat) : Bs → Option (Seg × Bs)
  | a :: b :: c :: e :: tl =>
    if 3 < c ∨ e ≠ 0 ∨ 256 * a.toNat + b.toNat < 4 ∨ tl.length + 4 < 256 * a.toNat + b.toNat ∨ L < 256 * a.toNat + b.toNat - 4 ∨ (256 * a.toNat + b.toNat = 4 ∧ c ≠ 0) then none
    else some (⟨decide (2 ≤ c), decide (c % 2 = 1), tl.take (256 * a.toNat + b.toNat - 4)⟩, tl.drop (256 * a.toNat + b.toNat - 4))
  | _ => none
theorem code_lt (x : Seg) : ¬ 3 < code x := by
  unfold code
  cases x.b <;> cases x.a <;> decide
theorem code_b (x : Seg) : decide (2 ≤ code x) = x.b := by
  unfold code
  cases x.b <;> cases x.a <;> decide
theorem code_a (x : Seg) : decide (code x % 2 = 1) = x.a := by
  unfold code
  cases x.b <;> cases x.a <;> decide
theorem head_form {L : Nat} {x : Seg} {f : Bs} (h : x.d.length ≤ L) (hL : L ≤ 1000) (he : x.d = [] → x.b = false ∧ x.a = false) : head L (form x ++ f) = some (x, f) := by
  have e : form x ++ f = UInt8.ofNat ((4 + x.d.length) / 256) :: UInt8.ofNat ((4 + x.d.length) % 256) :: code x :: 0 :: (x.d ++ f) := rfl
  have hn : 256 * (UInt8.ofNat ((4 + x.d.length) / 256)).toNat + (UInt8.ofNat ((4 + x.d.length) % 256)).toNat = 4 + x.d.length := by
    rw [UInt8.toNat_ofNat', UInt8.toNat_ofNat']
    omega
  rw [e, head, hn, code_b, code_a, if_neg]
  · simp
  · rintro (h1 | h1 | h1 | h1 | h1 | ⟨h1, h2⟩)
    · exact code_lt x h1
    · exact h1 rfl
    · omega
    · rw [List.length_append] at h1; omega
    · omega
    · obtain ⟨h3, h4⟩ := he (List.eq_nil_of_length_eq_zero (by omega))
      exact h2 (by unfold code; rw [h3, h4]; rfl)
theorem head_short {L : Nat} {f : Bs} (h : f.length < 4) : head L f = none := by
  match f, h with
  | [], _ => rfl
  | [_], _ => rfl
  | [_, _], _ => rfl
  | [_, _, _], _ => rfl
theorem head_lt {L : Nat} {f : Bs} {x : Seg} {rest : Bs} (h : head L f = some (x, rest)) : rest.length + 4 ≤ f.length ∧ x.d.length ≤ L ∧ rest.length + 4 + x.d.length = f.length := by
  match f, h with
  | a :: b :: c :: e :: tl, h =>
    by_cases hc : 3 < c ∨ e ≠ 0 ∨ 256 * a.toNat + b.toNat < 4 ∨ tl.length + 4 < 256 * a.toNat + b.toNat ∨ L < 256 * a.toNat + b.toNat - 4 ∨ (256 * a.toNat + b.toNat = 4 ∧ c ≠ 0)
    · rw [head, if_pos hc] at h
      cases h
    · rw [head, if_neg hc] at h
      simp only [Option.some.injEq, Prod.mk.injEq] at h
      obtain ⟨rfl, rfl⟩ := h
      simp only [List.length_drop, List.length_take, List.length_cons]
      omega

/-- The segments of forms: 'full' tells whether the block is as long as its size, 'fst' whether this is the block's first segment. -/
def parse (L : Nat) (full : Bool) : Nat → Bool → Bs → Option (List Seg)
  | 0, _, f => if f = [] then some [] else none
  | k + 1, fst, f => if f = [] then some [] else
    match head L f with
    | none => none
    | some (x, rest) => if (x.b = true ∧ fst = false) ∨ (x.a = true ∧ (rest ≠ [] ∨ full = false)) then none else (parse L full k false rest).map (x :: ·)
/-- The segments of a block. -/
def segs (L K : Nat) (d : Bs) : Option (List Seg) :=
  if d.length < 8 ∨ K < d.length ∨ readWord (d.take 4) ≠ some d.length then none else parse L (decide (d.length = K)) d.length true (d.drop 4)
theorem parse_nil (L : Nat) (full : Bool) (k : Nat) (fst : Bool) : parse L full k fst [] = some [] := by cases k <;> simp [parse]
theorem parse_stop {L : Nat} {full : Bool} {k : Nat} {fst : Bool} {f : Bs} (hne : f ≠ []) (h : head L f = none) : parse L full k fst f = none := by
  cases k with
  | zero => simp [parse, hne]
  | succ k => simp [parse, hne, h]
theorem parse_fuel {L : Nat} {full : Bool} : ∀ (k j : Nat) (fst : Bool) (f : Bs), f.length ≤ k → f.length ≤ j → parse L full k fst f = parse L full j fst f := by
  intro k
  induction k with
  | zero =>
    intro j fst f h _
    rw [List.eq_nil_of_length_eq_zero (l := f) (by omega), parse_nil, parse_nil]
  | succ k ih =>
    intro j fst f hk hj
    by_cases hf : f = []
    · rw [hf, parse_nil, parse_nil]
    · cases j with
      | zero => exact absurd (List.eq_nil_of_length_eq_zero (l := f) (by omega)) hf
      | succ j =>
        rw [parse, parse, if_neg hf, if_neg hf]
        cases hh : head L f with
        | none => rfl
        | some p =>
          obtain ⟨x, rest⟩ := p
          have := head_lt hh
          dsimp only
          rw [ih j false rest (by omega) (by omega)]
def recs (L : Nat) (full fst : Bool) (f : Bs) : Option (List Seg) := parse L full f.length fst f
theorem recs_nil (L : Nat) (full fst : Bool) : recs L full fst [] = some [] := parse_nil _ _ _ _
theorem recs_stop {L : Nat} {full fst : Bool} {f : Bs} (hne : f ≠ []) (h : head L f = none) : recs L full fst f = none := parse_stop hne h
theorem recs_step {L : Nat} {full fst : Bool} {f : Bs} {x : Seg} {rest : Bs} (hne : f ≠ []) (h : head L f = some (x, rest)) :
    recs L full fst f = if (x.b = true ∧ fst = false) ∨ (x.a = true ∧ (rest ≠ [] ∨ full = false)) then none else (recs L full false rest).map (x :: ·) := by
  have hlt := head_lt h
  unfold recs
  have h1 : parse L full f.length fst f = parse L full (rest.length + 1) fst f := by
    have hl : f.length = (f.length - 1) + 1 := by omega
    rw [hl, parse, parse, if_neg hne, if_neg hne, h]
    dsimp only
    rw [parse_fuel (f.length - 1) rest.length false rest (by omega) (by omega)]
  rw [h1, parse, if_neg hne, h]
theorem segs_eq (L K : Nat) (d : Bs) : segs L K d = if d.length < 8 ∨ K < d.length ∨ readWord (d.take 4) ≠ some d.length then none else recs L (decide (d.length = K)) true (d.drop 4) := by
  unfold segs recs
  split
  · rfl
  · exact parse_fuel _ _ _ _ (by simp) (Nat.le_refl _)

/-- What holds of the segments of a block of size at most K. -/
structure Group (L K : Nat) (g : List Seg) : Prop where
  ne : g ≠ []
  small : size g ≤ K
  each : ∀ x ∈ g, x.d.length ≤ L ∧ (x.d = [] → x.b = false ∧ x.a = false)
  before : ∀ x ∈ g.tail, x.b = false
  after : ∀ x ∈ g.dropLast, x.a = false
  last : ∀ x, g.getLast? = some x → x.a = true → size g = K

theorem recs_fm {L : Nat} (hL : L ≤ 1000) {full : Bool} : ∀ (g : List Seg) (fst : Bool), (∀ x ∈ g, x.d.length ≤ L ∧ (x.d = [] → x.b = false ∧ x.a = false)) → (fst = false → ∀ x ∈ g, x.b = false) → (∀ x ∈ g.tail, x.b = false) → (∀ x ∈ g.dropLast, x.a = false) → (∀ x, g.getLast? = some x → x.a = true → full = true) →
    recs L full fst (fm g) = some g := by
  intro g
  induction g with
  | nil => intros; exact recs_nil _ _ _
  | cons x g ih =>
    intro fst he hb ht ha hl
    have hx := he x (by simp)
    rw [recs_step (by rw [Ne, fm_eq_nil]; simp) (show head L (fm (x :: g)) = some (x, fm g) from head_form hx.1 hL hx.2), if_neg]
    · rw [ih false (fun y hy => he y (by simp [hy])) (fun _ y hy => ht y (by simpa using hy)) (fun y hy => ht y (by simpa using List.mem_of_mem_tail hy))
        (fun y hy => ha y (by cases g with
          | nil => simp at hy
          | cons z g => rw [List.dropLast_cons_of_ne_nil (by simp)]; exact List.mem_cons_of_mem _ hy))
        (fun y hy => hl y (by cases g with
          | nil => simp at hy
          | cons z g => rw [List.getLast?_cons_cons]; exact hy))]
      rfl
    · rintro (⟨h1, h2⟩ | ⟨h1, h2⟩)
      · rw [hb h2 x (by simp)] at h1; cases h1
      · by_cases hg : g = []
        · subst hg
          rcases h2 with h2 | h2
          · exact h2 rfl
          · rw [hl x (by simp) h1] at h2; cases h2
        · rw [ha x (by rw [List.dropLast_cons_of_ne_nil hg]; simp)] at h1; cases h1
theorem Group.segs {L K : Nat} {g : List Seg} (h : Group L K g) (hL : L ≤ 1000) (hK : K ≤ 1024) : segs L K (block g) = some g ∧ (block g).length = size g := by
  have hs := h.small
  unfold size at hs
  have hl : (block g).length = 4 + (fm g).length := length_whole (by omega)
  have h4 : 4 ≤ (fm g).length := by
    match g, h.ne with
    | x :: g', _ => rw [fm_cons, List.length_append, length_form]; omega
  refine ⟨?_, hl⟩
  rw [segs_eq, if_neg]
  · unfold block
    rw [drop4_whole (by omega)]
    refine recs_fm hL g true h.each (fun e => by cases e) h.before h.after (fun x hx ha => ?_)
    have := h.last x hx ha
    unfold size at this
    unfold block at hl
    rw [hl]
    simpa using this
  · rw [hl]
    unfold block
    rw [take4_whole (by omega), readWord_word (by omega)]
    simp
    omega

/-- The parts of what is left of a record, where each begins a block. -/
def pieces (K : Nat) : Nat → Bool → Bs → List Seg
  | 0, b, r => [⟨b, false, r⟩]
  | k + 1, b, r => if r.length ≤ K - 8 then [⟨b, false, r⟩] else ⟨b, true, r.take (K - 8)⟩ :: pieces K k true (r.drop (K - 8))
theorem pieces_fuel {K : Nat} (hK : 9 ≤ K) : ∀ (k j : Nat) (b : Bool) (r : Bs), r.length ≤ k → r.length ≤ j → pieces K k b r = pieces K j b r := by
  intro k
  induction k with
  | zero =>
    intro j b r h _
    have : r = [] := List.eq_nil_of_length_eq_zero (by omega)
    subst this
    cases j <;> simp [pieces]
  | succ k ih =>
    intro j b r hk hj
    cases j with
    | zero =>
      have : r = [] := List.eq_nil_of_length_eq_zero (by omega)
      subst this
      simp [pieces]
    | succ j =>
      rw [pieces, pieces]
      split
      · rfl
      · rw [ih j true (r.drop (K - 8)) (by simp; omega) (by simp; omega)]
def parts (K : Nat) (b : Bool) (r : Bs) : List Seg := pieces K r.length b r
theorem parts_one {K : Nat} {b : Bool} {r : Bs} (h : r.length ≤ K - 8) : parts K b r = [⟨b, false, r⟩] := by
  unfold parts
  cases hr : r.length with
  | zero => rfl
  | succ n => rw [pieces, if_pos (by omega)]
theorem parts_more {K : Nat} (hK : 9 ≤ K) {b : Bool} {r : Bs} (h : K - 8 < r.length) : parts K b r = ⟨b, true, r.take (K - 8)⟩ :: parts K true (r.drop (K - 8)) := by
  unfold parts
  have hl : r.length = (r.length - 1) + 1 := by omega
  rw [hl, pieces, if_neg (by omega), pieces_fuel hK (r.length - 1) (r.drop (K - 8)).length true _ (by simp; omega) (Nat.le_refl _)]
end P12
