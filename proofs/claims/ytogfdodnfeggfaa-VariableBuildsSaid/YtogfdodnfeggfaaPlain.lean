/- The plain law of chapter 11 on lists of bytes: words, forms, blocks, packing and unpacking, with no program in sight. -/
namespace Go.Proofs.Ytogfdodnfeggfaa.P11

abbrev Bs := List UInt8

def word (n : Nat) : Bs := if 65535 < n then [] else [UInt8.ofNat (n / 256), UInt8.ofNat (n % 256), 0, 0]
def readWord : Bs → Option Nat
  | [a, b, c, d] => if c = 0 ∧ d = 0 then some (256 * a.toNat + b.toNat) else none
  | _ => none

theorem word_small {n : Nat} (h : n ≤ 65535) : word n = [UInt8.ofNat (n / 256), UInt8.ofNat (n % 256), 0, 0] := by
  unfold word; rw [if_neg (by omega)]
theorem length_word {n : Nat} (h : n ≤ 65535) : (word n).length = 4 := by rw [word_small h]; rfl
theorem length_word_le (n : Nat) : (word n).length ≤ 4 := by unfold word; split <;> simp
theorem readWord_word {n : Nat} (h : n ≤ 65535) : readWord (word n) = some n := by
  rw [word_small h]
  simp only [readWord, UInt8.toNat_ofNat', and_self, if_true, Option.some.injEq]
  omega
theorem readWord_some {s : Bs} {n : Nat} (h : readWord s = some n) : word n = s ∧ n ≤ 65535 ∧ s.length = 4 := by
  match s, h with
  | [a, b, c, d], h =>
    simp only [readWord] at h
    split at h
    · rename_i hc
      obtain ⟨rfl, rfl⟩ := hc
      simp only [Option.some.injEq] at h
      have ha := a.toNat_lt
      have hb := b.toNat_lt
      refine ⟨?_, by omega, rfl⟩
      rw [word_small (by omega)]
      have e1 : n / 256 = a.toNat := by omega
      have e2 : n % 256 = b.toNat := by omega
      rw [e1, e2, UInt8.ofNat_toNat, UInt8.ofNat_toNat]
    · cases h
theorem readWord_len {s : Bs} (h : s.length ≠ 4) : readWord s = none := by
  match s with
  | [] => rfl
  | [_] => rfl
  | [_, _] => rfl
  | [_, _, _] => rfl
  | [_, _, _, _] => exact absurd rfl h
  | _ :: _ :: _ :: _ :: _ :: _ => rfl

def form (r : Bs) : Bs := word (4 + r.length) ++ r
def whole (f : Bs) : Bs := word (4 + f.length) ++ f
def fm (ls : List Bs) : Bs := ls.flatMap form
def block (ls : List Bs) : Bs := whole (fm ls)

theorem length_form {r : Bs} (h : r.length ≤ 1100) : (form r).length = 4 + r.length := by
  unfold form; rw [List.length_append, length_word (by omega)]
theorem length_whole {f : Bs} (h : f.length ≤ 60000) : (whole f).length = 4 + f.length := by
  unfold whole; rw [List.length_append, length_word (by omega)]
theorem fm_nil : fm [] = [] := rfl
theorem fm_cons (r : Bs) (ls : List Bs) : fm (r :: ls) = form r ++ fm ls := rfl
theorem fm_snoc (r : Bs) (ls : List Bs) : fm (ls ++ [r]) = fm ls ++ form r := by simp [fm]
theorem fm_one (r : Bs) : fm [r] = form r := by simp [fm]
theorem fm_ne {ls : List Bs} (h : ∀ r ∈ ls, r.length ≤ 1100) (hne : ls ≠ []) : fm ls ≠ [] := by
  match ls, hne with
  | r :: ls, _ =>
    intro e
    have := congrArg List.length e
    rw [fm_cons, List.length_append, length_form (h r (by simp))] at this
    simp at this
theorem fm_eq_nil {ls : List Bs} (h : ∀ r ∈ ls, r.length ≤ 1100) : fm ls = [] ↔ ls = [] :=
  ⟨fun e => Classical.byContradiction fun hn => fm_ne h hn e, fun e => by rw [e]; rfl⟩

/-- A record cut off the forms of a block. -/
def first (L : Nat) (f : Bs) : Option (Bs × Bs) :=
  match readWord (f.take 4) with
  | none => none
  | some n => if n < 4 ∨ f.length < n ∨ L < n - 4 then none else some ((f.take n).drop 4, f.drop n)

theorem first_form {L : Nat} {r f : Bs} (h : r.length ≤ L) (hL : L ≤ 1000) : first L (form r ++ f) = some (r, f) := by
  have e4 : (form r ++ f).take 4 = word (4 + r.length) := by
    unfold form
    rw [List.append_assoc, List.take_append_of_le_length (by rw [length_word (by omega)]; omega), List.take_of_length_le (by rw [length_word (by omega)]; omega)]
  have hl : (form r).length = 4 + r.length := length_form (by omega)
  unfold first
  rw [e4, readWord_word (by omega)]
  simp only
  rw [if_neg (by rw [List.length_append]; omega)]
  congr 2
  · rw [List.take_append_of_le_length (by omega), List.take_of_length_le (by omega)]
    unfold form
    rw [List.drop_append_of_le_length (by rw [length_word (by omega)]; omega), List.drop_of_length_le (by rw [length_word (by omega)]; omega)]
    rfl
  · rw [List.drop_append_of_le_length (by omega), List.drop_of_length_le (by omega)]
    rfl
theorem first_some {L : Nat} {f r rest : Bs} (h : first L f = some (r, rest)) : f = form r ++ rest ∧ r.length ≤ L ∧ rest.length < f.length := by
  unfold first at h
  split at h
  · cases h
  · rename_i n hn
    split at h
    · cases h
    · rename_i hc
      simp only [Option.some.injEq, Prod.mk.injEq] at h
      obtain ⟨rfl, rfl⟩ := h
      obtain ⟨hw, hb, _⟩ := readWord_some hn
      have hlen : ((f.take n).drop 4).length = n - 4 := by simp; omega
      refine ⟨?_, by omega, by simp; omega⟩
      unfold form
      rw [hlen, show 4 + (n - 4) = n from by omega, hw]
      conv => lhs; rw [← List.take_append_drop n f]
      congr 1
      conv => lhs; rw [← List.take_append_drop 4 (f.take n)]
      rw [List.take_take, show min 4 n = 4 from by omega]

/-- The records of forms, with fuel. -/
def parse (L : Nat) : Nat → Bs → Option (List Bs)
  | 0, f => if f = [] then some [] else none
  | k + 1, f => if f = [] then some [] else
    match first L f with
    | none => none
    | some (r, rest) => (parse L k rest).map (r :: ·)

theorem parse_fm {L : Nat} (hL : L ≤ 1000) : ∀ (ls : List Bs) (k : Nat), (∀ r ∈ ls, r.length ≤ L) → ls.length ≤ k → parse L k (fm ls) = some ls
  | [], 0, _, _ => rfl
  | [], _ + 1, _, _ => rfl
  | r :: ls, 0, _, hk => by simp at hk
  | r :: ls, k + 1, h, hk => by
    have hne : fm (r :: ls) ≠ [] := fm_ne (fun x hx => Nat.le_trans (h x hx) (by omega)) (by simp)
    rw [parse, if_neg hne, fm_cons, first_form (h r (by simp)) hL]
    simp only
    rw [parse_fm hL ls k (fun x hx => h x (by simp [hx])) (by simp at hk; omega)]
    rfl
theorem parse_some {L : Nat} : ∀ (k : Nat) (f : Bs) (ls : List Bs), parse L k f = some ls → f = fm ls ∧ ∀ r ∈ ls, r.length ≤ L
  | 0, f, ls, h => by
    rw [parse] at h
    split at h
    · rename_i hf
      cases h
      exact ⟨hf, by simp⟩
    · cases h
  | k + 1, f, ls, h => by
    rw [parse] at h
    split at h
    · rename_i hf
      cases h
      exact ⟨hf, by simp⟩
    · split at h
      · cases h
      · rename_i r rest hr
        obtain ⟨ls', hl, rfl⟩ := Option.map_eq_some_iff.1 h
        obtain ⟨e1, h1⟩ := parse_some k rest ls' hl
        obtain ⟨e2, h2, _⟩ := first_some hr
        refine ⟨by rw [fm_cons, ← e1]; exact e2, ?_⟩
        intro x hx
        rcases List.mem_cons.1 hx with rfl | hx
        · exact h2
        · exact h1 x hx
theorem parse_nil (L k : Nat) : parse L k [] = some [] := by cases k <;> rfl
/-- More fuel than bytes is as good as any. -/
theorem parse_fuel {L : Nat} : ∀ (k j : Nat) (f : Bs), f.length ≤ k → f.length ≤ j → parse L k f = parse L j f
  | 0, j, f, hk, _ => by
    have : f = [] := List.eq_nil_of_length_eq_zero (by omega)
    subst this
    rw [parse_nil, parse_nil]
  | k + 1, 0, f, _, hj => by
    have : f = [] := List.eq_nil_of_length_eq_zero (by omega)
    subst this
    rw [parse_nil, parse_nil]
  | k + 1, j + 1, f, hk, hj => by
    rw [parse, parse]
    split
    · rfl
    · cases hf : first L f with
      | none => rfl
      | some x =>
        obtain ⟨r, rest⟩ := x
        have := (first_some hf).2.2
        simp only
        rw [parse_fuel k j rest (by omega) (by omega)]
theorem parse_step {L k : Nat} {f r rest : Bs} (hne : f ≠ []) (h : first L f = some (r, rest)) (hk : f.length ≤ k) : parse L k f = (parse L k rest).map (r :: ·) := by
  have hlt := (first_some h).2.2
  match k, hk with
  | 0, hk => exact absurd (List.eq_nil_of_length_eq_zero (by omega)) hne
  | k + 1, hk =>
    rw [parse, if_neg hne, h]
    simp only
    rw [parse_fuel k (k + 1) rest (by omega) (by omega)]
theorem parse_stop {L k : Nat} {f : Bs} (hne : f ≠ []) (h : first L f = none) : parse L k f = none := by
  match k with
  | 0 => rw [parse, if_neg hne]
  | k + 1 => rw [parse, if_neg hne, h]

def recs (L : Nat) (f : Bs) : Option (List Bs) := parse L f.length f
theorem recs_nil (L : Nat) : recs L [] = some [] := rfl
theorem recs_step {L : Nat} {f r rest : Bs} (hne : f ≠ []) (h : first L f = some (r, rest)) : recs L f = (recs L rest).map (r :: ·) := by
  have hlt := (first_some h).2.2
  unfold recs
  rw [parse_step hne h (Nat.le_refl _), parse_fuel f.length rest.length rest (by omega) (Nat.le_refl _)]
theorem recs_stop {L : Nat} {f : Bs} (hne : f ≠ []) (h : first L f = none) : recs L f = none := parse_stop hne h
theorem recs_some {L : Nat} {f : Bs} {ls : List Bs} (h : recs L f = some ls) : f = fm ls ∧ ∀ r ∈ ls, r.length ≤ L := parse_some _ f ls h
theorem length_fm_ge {ls : List Bs} (h : ∀ r ∈ ls, r.length ≤ 1100) : ls.length ≤ (fm ls).length := by
  induction ls with
  | nil => simp
  | cons r ls ih =>
    rw [fm_cons, List.length_append, length_form (h r (by simp))]
    have := ih (fun x hx => h x (by simp [hx]))
    simp
    omega
theorem recs_fm {L : Nat} (hL : L ≤ 1000) {ls : List Bs} (h : ∀ r ∈ ls, r.length ≤ L) : recs L (fm ls) = some ls :=
  parse_fm hL ls _ h (length_fm_ge fun r hr => Nat.le_trans (h r hr) (by omega))

/-- The records of a block. -/
def unpack (L K : Nat) (d : Bs) : Option (List Bs) :=
  if d.length ≤ 4 ∨ K < d.length ∨ readWord (d.take 4) ≠ some d.length then none else recs L (d.drop 4)

theorem take4_whole {f : Bs} (h : f.length ≤ 60000) : (whole f).take 4 = word (4 + f.length) := by
  unfold whole
  rw [List.take_append_of_le_length (by rw [length_word (by omega)]; omega), List.take_of_length_le (by rw [length_word (by omega)]; omega)]
theorem drop4_whole {f : Bs} (h : f.length ≤ 60000) : (whole f).drop 4 = f := by
  unfold whole
  rw [List.drop_append_of_le_length (by rw [length_word (by omega)]; omega), List.drop_of_length_le (by rw [length_word (by omega)]; omega)]
  rfl
theorem unpack_block {L K : Nat} {ls : List Bs} (hL : L ≤ 1000) (hK : K ≤ 1024) (h : ∀ r ∈ ls, r.length ≤ L) (hne : ls ≠ []) (hk : 4 + (fm ls).length ≤ K) : unpack L K (block ls) = some ls := by
  have hl : (block ls).length = 4 + (fm ls).length := length_whole (by omega)
  have hp : fm ls ≠ [] := fm_ne (fun r hr => Nat.le_trans (h r hr) (by omega)) hne
  have hp' : 0 < (fm ls).length := List.length_pos_iff.2 hp
  unfold unpack
  rw [if_neg]
  · unfold block
    rw [drop4_whole (by omega), recs_fm hL h]
  · rw [hl]
    unfold block
    rw [take4_whole (by omega), readWord_word (by omega)]
    simp
    omega
theorem unpack_some {L K : Nat} {d : Bs} {ls : List Bs} (h : unpack L K d = some ls) : d = block ls ∧ (∀ r ∈ ls, r.length ≤ L) ∧ ls ≠ [] ∧ 4 + (fm ls).length = d.length ∧ d.length ≤ K := by
  unfold unpack at h
  split at h
  · cases h
  · rename_i hc
    obtain ⟨e, hr⟩ := recs_some h
    have hw := (readWord_some (s := d.take 4) (n := d.length) (by
      rcases Classical.em (readWord (d.take 4) = some d.length) with he | he
      · exact he
      · exact absurd (Or.inr (Or.inr he)) hc)).1
    have hlen : (d.drop 4).length = d.length - 4 := by simp
    have hfl : (fm ls).length = d.length - 4 := by rw [← e, hlen]
    have h4 : 4 < d.length := by omega
    refine ⟨?_, hr, ?_, by omega, by omega⟩
    · unfold block whole
      rw [hfl, show 4 + (d.length - 4) = d.length from by omega, hw, ← e, List.take_append_drop]
    · rintro rfl
      rw [fm_nil] at hfl
      simp at hfl
      omega

/-- One round of the program's packing. -/
def stepA (K : Nat) (s : List Bs × Bs) (r : Bs) : List Bs × Bs :=
  if s.2 ≠ [] ∧ K < 4 + s.2.length + (form r).length then (s.1 ++ [whole s.2], form r) else (s.1, s.2 ++ form r)
def finA (s : List Bs × Bs) : List Bs := if s.2 = [] then s.1 else s.1 ++ [whole s.2]
def packA (K : Nat) (rs : List Bs) : List Bs := finA (rs.foldl (stepA K) ([], []))
/-- One round of the reference's packing. -/
def stepB (K : Nat) (s : List Bs × List Bs) (r : Bs) : List Bs × List Bs :=
  if K < (block (s.2 ++ [r])).length then (s.1 ++ [block s.2], [r]) else (s.1, s.2 ++ [r])
def finB (s : List Bs × List Bs) : List Bs := if s.2 = [] then s.1 else s.1 ++ [block s.2]
def packB (K : Nat) (rs : List Bs) : List Bs := finB (rs.foldl (stepB K) ([], []))

/-- How the state of the packing reads: the groups of the blocks that are out, and the group that is open. -/
structure Packed (L K : Nat) (gs : List (List Bs)) (cur done : List Bs) : Prop where
  flat : gs.flatten ++ cur = done
  fits : ∀ g ∈ gs, g ≠ [] ∧ 4 + (fm g).length ≤ K
  small : ∀ r ∈ done, r.length ≤ L
  open_ : 4 + (fm cur).length ≤ K
  full : gs = [] ∨ cur ≠ []
  tight : ∀ (i : Nat) (g h : List Bs) (r : Bs), (gs ++ [cur])[i]? = some g → (gs ++ [cur])[i + 1]? = some h → h.head? = some r → K < 4 + (fm g).length + 4 + r.length

theorem Packed.start (L K : Nat) (h : L + 8 ≤ K) : Packed L K [] [] [] :=
  ⟨rfl, by simp, by simp, by simp [fm_nil]; omega, .inl rfl, fun i g h r _ h2 => by simp at h2⟩

theorem Packed.step {L K : Nat} {gs : List (List Bs)} {cur done : List Bs} (h : Packed L K gs cur done) {r : Bs} (hr : r.length ≤ L) (_hL : 1 ≤ L ∧ L ≤ 1000) (hK : L + 8 ≤ K ∧ K ≤ 1024) :
    ∃ gs' cur', Packed L K gs' cur' (done ++ [r]) ∧ cur' ≠ [] ∧ stepA K (gs.map block, fm cur) r = (gs'.map block, fm cur') ∧ stepB K (gs.map block, cur) r = (gs'.map block, cur') := by
  have hf : (form r).length = 4 + r.length := length_form (by omega)
  have hcs : ∀ x ∈ cur, x.length ≤ 1100 := fun x hx => by
    have := h.small x (by rw [← h.flat]; simp [hx])
    omega
  have hsn : (fm (cur ++ [r])).length = (fm cur).length + (4 + r.length) := by rw [fm_snoc, List.length_append, hf]
  have hb : (block (cur ++ [r])).length = 4 + ((fm cur).length + (4 + r.length)) := by
    unfold block
    rw [length_whole (by rw [hsn]; have := h.open_; omega), hsn]
  have hsm : ∀ x ∈ done ++ [r], x.length ≤ L := by
    intro x hx
    rcases List.mem_append.1 hx with hx | hx
    · exact h.small x hx
    · simp at hx
      rw [hx]
      exact hr
  by_cases hK2 : K < 4 + (fm cur).length + (4 + r.length)
  · have hcur : cur ≠ [] := by
      rintro rfl
      rw [fm_nil] at hK2
      simp at hK2
      omega
    refine ⟨gs ++ [cur], [r], ⟨?_, ?_, hsm, ?_, .inr (by simp), ?_⟩, by simp, ?_, ?_⟩
    · rw [List.flatten_append, ← h.flat]
      simp
    · intro g hg
      rcases List.mem_append.1 hg with hg | hg
      · exact h.fits g hg
      · simp at hg
        rw [hg]
        exact ⟨hcur, h.open_⟩
    · rw [fm_one, hf]
      omega
    · intro i g g' x h1 h2 h3
      rcases Nat.lt_or_ge (i + 1) (gs ++ [cur]).length with hi | hi
      · rw [List.getElem?_append_left (by omega)] at h1
        rw [List.getElem?_append_left hi] at h2
        exact h.tight i g g' x h1 h2 h3
      · rw [List.getElem?_append_right hi] at h2
        have hz : i + 1 - (gs ++ [cur]).length = 0 := by
          rcases Nat.eq_zero_or_pos (i + 1 - (gs ++ [cur]).length) with hz | hz
          · exact hz
          · rw [List.getElem?_eq_none (by simp only [List.length_cons, List.length_nil]; omega)] at h2
            cases h2
        rw [hz] at h2
        simp at h2
        subst h2
        simp at h3
        subst h3
        have hie : i = gs.length := by simp at hi hz; omega
        subst hie
        rw [List.getElem?_append_left (by simp), List.getElem?_append_right (Nat.le_refl _)] at h1
        simp at h1
        subst h1
        omega
    · unfold stepA
      rw [if_pos ⟨by simpa using fm_ne hcs hcur, by simp only; rw [hf]; exact hK2⟩, fm_one]
      simp [block]
    · unfold stepB
      rw [if_pos (by simp only; rw [hb]; omega)]
      simp
  · refine ⟨gs, cur ++ [r], ⟨?_, h.fits, hsm, by rw [hsn]; omega, .inr (by simp), ?_⟩, by simp, ?_, ?_⟩
    · rw [← List.append_assoc, h.flat]
    · intro i g g' x h1 h2 h3
      rcases Nat.lt_or_ge (i + 1) gs.length with hi | hi
      · rw [List.getElem?_append_left (by omega)] at h1
        rw [List.getElem?_append_left hi] at h2
        exact h.tight i g g' x (by rw [List.getElem?_append_left (by omega)]; exact h1) (by rw [List.getElem?_append_left hi]; exact h2) h3
      · rw [List.getElem?_append_right hi] at h2
        have hz : i + 1 - gs.length = 0 := by
          rcases Nat.eq_zero_or_pos (i + 1 - gs.length) with hz | hz
          · exact hz
          · rw [List.getElem?_eq_none (by simp only [List.length_cons, List.length_nil]; omega)] at h2
            cases h2
        rw [hz] at h2
        simp at h2
        subst h2
        have hie : i + 1 = gs.length := by omega
        have hgs : gs ≠ [] := by
          rintro rfl
          simp at hie
        have hcur : cur ≠ [] := h.full.resolve_left hgs
        have hx : cur.head? = some x := by
          match cur, hcur with
          | c :: cs, _ => simpa using h3
        rw [List.getElem?_append_left (by omega)] at h1
        refine h.tight i g cur x (by rw [List.getElem?_append_left (by omega)]; exact h1) ?_ hx
        rw [hie, List.getElem?_append_right (Nat.le_refl _)]
        simp
    · unfold stepA
      rw [if_neg (fun hh => hK2 (by have := hh.2; simp only at this; rw [hf] at this; exact this)), fm_snoc]
    · unfold stepB
      rw [if_neg (by simp only; rw [hb]; omega)]

theorem Packed.all {L K : Nat} (hL : 1 ≤ L ∧ L ≤ 1000) (hK : L + 8 ≤ K ∧ K ≤ 1024) : ∀ (rs : List Bs) (gs : List (List Bs)) (cur done : List Bs), Packed L K gs cur done → (∀ r ∈ rs, r.length ≤ L) →
    ∃ gs' cur', Packed L K gs' cur' (done ++ rs) ∧ rs.foldl (stepA K) (gs.map block, fm cur) = (gs'.map block, fm cur') ∧ rs.foldl (stepB K) (gs.map block, cur) = (gs'.map block, cur')
  | [], gs, cur, done, h, _ => ⟨gs, cur, by simpa using h, rfl, rfl⟩
  | r :: rs, gs, cur, done, h, hrs => by
    obtain ⟨gs1, cur1, h1, _, ea, eb⟩ := h.step (hrs r (by simp)) hL hK
    obtain ⟨gs2, cur2, h2, ea2, eb2⟩ := Packed.all hL hK rs gs1 cur1 (done ++ [r]) h1 (fun x hx => hrs x (by simp [hx]))
    refine ⟨gs2, cur2, by simpa using h2, ?_, ?_⟩
    · rw [List.foldl_cons, ea, ea2]
    · rw [List.foldl_cons, eb, eb2]

/-- Both packings give the blocks of one list of groups. -/
theorem packed {L K : Nat} (hL : 1 ≤ L ∧ L ≤ 1000) (hK : L + 8 ≤ K ∧ K ≤ 1024) {rs : List Bs} (h : ∀ r ∈ rs, r.length ≤ L) :
    ∃ gs : List (List Bs), packA K rs = gs.map block ∧ packB K rs = gs.map block ∧ gs.flatten = rs ∧ (∀ g ∈ gs, g ≠ [] ∧ 4 + (fm g).length ≤ K ∧ ∀ r ∈ g, r.length ≤ L) ∧
      ∀ (i : Nat) (g g' : List Bs) (r : Bs), gs[i]? = some g → gs[i + 1]? = some g' → g'.head? = some r → K < 4 + (fm g).length + 4 + r.length := by
  obtain ⟨gs, cur, hp, ea, eb⟩ := Packed.all hL hK rs [] [] [] (Packed.start L K hK.1) h
  simp only [List.map_nil, fm_nil, List.nil_append] at ea eb hp
  have hcs : ∀ x ∈ cur, x.length ≤ 1100 := fun x hx => by
    have := hp.small x (by rw [← hp.flat]; simp [hx])
    omega
  have hin : ∀ g ∈ gs, ∀ r ∈ g, r.length ≤ L := fun g hg r hr => hp.small r (by rw [← hp.flat]; exact List.mem_append_left _ (List.mem_flatten.2 ⟨g, hg, hr⟩))
  unfold packA packB
  rw [ea, eb]
  unfold finA finB
  by_cases hc : cur = []
  · subst hc
    refine ⟨gs, by rw [fm_nil]; rfl, rfl, by simpa using hp.flat, fun g hg => ⟨(hp.fits g hg).1, (hp.fits g hg).2, hin g hg⟩, ?_⟩
    intro i g g' r h1 h2 h3
    have hi2 : i + 1 < gs.length := (List.getElem?_eq_some_iff.1 h2).1
    exact hp.tight i g g' r (by rw [List.getElem?_append_left (by omega)]; exact h1) (by rw [List.getElem?_append_left hi2]; exact h2) h3
  · refine ⟨gs ++ [cur], ?_, ?_, by simpa using hp.flat, ?_, hp.tight⟩
    · simp only
      rw [if_neg (fm_ne hcs hc)]
      simp [block]
    · simp only
      rw [if_neg hc]
      simp
    · intro g hg
      rcases List.mem_append.1 hg with hg | hg
      · exact ⟨(hp.fits g hg).1, (hp.fits g hg).2, hin g hg⟩
      · simp at hg
        subst hg
        exact ⟨hc, hp.open_, fun r hr => hp.small r (by rw [← hp.flat]; simp [hr])⟩

theorem pack_eq {L K : Nat} (hL : 1 ≤ L ∧ L ≤ 1000) (hK : L + 8 ≤ K ∧ K ≤ 1024) {rs : List Bs} (h : ∀ r ∈ rs, r.length ≤ L) : packA K rs = packB K rs := by
  obtain ⟨gs, e1, e2, _⟩ := packed hL hK h
  rw [e1, e2]

/-- What unpacks is packed as it was. -/
theorem packA_unpack {L K : Nat} (hL : L ≤ 1000) {d : Bs} {ls : List Bs} (h : unpack L K d = some ls) : packA K ls = [d] := by
  obtain ⟨e, hr, hne, hl, hk⟩ := unpack_some h
  have hgo : ∀ (rs done : List Bs), (∀ r ∈ done ++ rs, r.length ≤ L) → 4 + (fm (done ++ rs)).length ≤ K → rs.foldl (stepA K) ([], fm done) = ([], fm (done ++ rs)) := by
    intro rs
    induction rs with
    | nil => intro done _ _; simp
    | cons r rs ih =>
      intro done hs hk
      have hf : (form r).length = 4 + r.length := length_form (by have := hs r (by simp); omega)
      have hlen : (fm (done ++ r :: rs)).length = (fm done).length + (form r).length + (fm rs).length := by simp [fm]; omega
      have e1 : stepA K ([], fm done) r = ([], fm (done ++ [r])) := by
        unfold stepA
        rw [if_neg (fun hh => by have := hh.2; simp only at this; omega), fm_snoc]
      rw [List.foldl_cons, e1, ih (done ++ [r]) (by simpa using hs) (by simpa using hk)]
      simp
  have e1 := hgo ls [] (by simpa using hr) (by simp only [List.nil_append]; omega)
  rw [fm_nil, List.nil_append] at e1
  unfold packA
  rw [e1]
  unfold finA
  rw [if_neg (fm_ne (fun r hr' => Nat.le_trans (hr r hr') (by omega)) hne), e]
  rfl

end Go.Proofs.Ytogfdodnfeggfaa.P11
