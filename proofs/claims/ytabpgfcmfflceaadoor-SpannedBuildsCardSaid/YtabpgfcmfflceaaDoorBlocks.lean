/- The plain law of chapter 12, third part: the same on the bytes of blocks; what is packed is unpacked. -/
import Derived.Test.YtabpgfcmfflceaaDoorPut
namespace P12
/-- The blocks of what is left of a record. -/
def tl (K : Nat) (b : Bool) (r : Bs) : List Bs := (parts K b r).map fun x => block [x]
/-- A record put behind a block (empty: there is none): the changed block (empty: it stays), and the new ones. -/
def addP (K : Nat) (last r : Bs) : Bs × List Bs :=
  if last = [] then ([], tl K false r)
  else if last.length + 4 + r.length ≤ K then (whole (last.drop 4 ++ form ⟨false, false, r⟩), [])
  else if last.length + 4 < K then (whole (last.drop 4 ++ form ⟨false, true, r.take (K - (last.length + 4))⟩), tl K true (r.drop (K - (last.length + 4))))
  else ([], tl K false r)
/-- The blocks from the last one on. -/
def putP (K : Nat) (last r : Bs) : List Bs := (if (addP K last r).1 = [] then (if last = [] then [] else [last]) else [(addP K last r).1]) ++ (addP K last r).2
def stepP (K : Nat) (out : List Bs) (r : Bs) : List Bs := out.dropLast ++ putP K (out.getLast?.getD []) r
def packP (K : Nat) (rs : List Bs) : List Bs := rs.foldl (stepP K) []
theorem packP_snoc (K : Nat) (rs : List Bs) (r : Bs) : packP K (rs ++ [r]) = stepP K (packP K rs) r := by simp [packP]
theorem whole_ne (f : Bs) (h : f ≠ []) : whole f ≠ [] := by
  unfold whole
  intro e
  exact h (List.append_eq_nil_iff.1 e).2
theorem form_ne (x : Seg) : form x ≠ [] := by
  intro e
  have := length_form x
  rw [e, List.length_nil] at this
  omega
theorem length_block {g : List Seg} (h : size g ≤ 60000) : (block g).length = size g := by
  unfold size at h ⊢
  exact length_whole (by omega)
theorem block_ne {g : List Seg} (h : g ≠ []) : block g ≠ [] := whole_ne _ (fun e => h (fm_eq_nil.1 e))
theorem putP_nil (K : Nat) (r : Bs) : putP K [] r = (putS K [] r).map block := by
  unfold putP addP putS
  rw [if_pos rfl, if_pos rfl, if_pos rfl, if_pos rfl]
  simp [tl]
theorem putP_block {K : Nat} (hK : K ≤ 1024) {g : List Seg} (hg : g ≠ []) (hs : size g ≤ K) (r : Bs) : putP K (block g) r = (putS K g r).map block := by
  have hl : (block g).length = size g := length_block (by omega)
  have hd : (block g).drop 4 = fm g := drop4_whole (by unfold size at hs; omega)
  have hne := block_ne hg
  have e (x : Seg) : whole (fm g ++ form x) = block (g ++ [x]) := by unfold block; rw [fm_snoc]
  unfold putP addP putS
  rw [if_neg hne, if_neg hne, if_neg hg, hl, hd]
  by_cases h1 : size g + 4 + r.length ≤ K
  · rw [if_pos h1, if_pos h1]
    dsimp only
    rw [e, if_neg (block_ne (by simp))]
    simp
  · rw [if_neg h1, if_neg h1]
    by_cases h2 : size g + 4 < K
    · rw [if_pos h2, if_pos h2]
      dsimp only
      rw [e, if_neg (block_ne (by simp))]
      simp [tl]
    · rw [if_neg h2, if_neg h2]
      dsimp only
      rw [if_pos rfl]
      simp [tl]
theorem packP_eq {L K : Nat} (hK : 9 ≤ K ∧ K ≤ 1024) : ∀ (rs : List Bs), (∀ r ∈ rs, r.length ≤ L) → packP K rs = (packS K rs).map block := by
  intro rs h
  have key : ∀ (n : Nat) (rs : List Bs), rs.length = n → (∀ r ∈ rs, r.length ≤ L) → packP K rs = (packS K rs).map block := by
    intro n
    induction n with
    | zero => intro rs hn _; rw [List.eq_nil_of_length_eq_zero hn]; rfl
    | succ n ih =>
      intro rs hn h
      rcases List.eq_nil_or_concat rs with rfl | ⟨qs, q, rfl⟩
      · simp at hn
      · rw [List.concat_eq_append] at hn h ⊢
        have hq : ∀ r ∈ qs, r.length ≤ L := fun r hr => h r (by simp [hr])
        rw [packP_snoc, packS_snoc, ih qs (by simpa using hn) hq]
        have hinv := packS_inv (L := L) hK.1 hq
        generalize packS K qs = gs at hinv
        unfold stepP stepS
        rcases List.eq_nil_or_concat gs with rfl | ⟨l, y, rfl⟩
        · simp [putP_nil]
        · rw [List.concat_eq_append] at hinv ⊢
          have hy := hinv.group y (by simp)
          rw [List.map_append, List.map_cons, List.map_nil, List.dropLast_concat, List.getLast?_concat, List.dropLast_concat, List.getLast?_concat, Option.getD_some, Option.getD_some, putP_block hK.2 hy.ne hy.small, List.map_append]
  exact key _ rs rfl h

/-- The segments of all blocks, one behind the other. -/
def allSegs (L K : Nat) : List Bs → Option (List Seg)
  | [] => some []
  | b :: bs => match segs L K b with
    | none => none
    | some l => (allSegs L K bs).map (l ++ ·)
def unpack (L K : Nat) (blocks : List Bs) : Option (List Bs) :=
  match allSegs L K blocks with
  | none => none
  | some l => match join L l with
    | none => none
    | some rs => if packP K rs = blocks then some rs else none
theorem allSegs_map {L K : Nat} (hL : L ≤ 1000) (hK : K ≤ 1024) : ∀ (gs : List (List Seg)), (∀ g ∈ gs, Group L K g) → allSegs L K (gs.map block) = some gs.flatten := by
  intro gs
  induction gs with
  | nil => intro _; rfl
  | cons g gs ih =>
    intro h
    rw [List.map_cons, allSegs, ((h g (by simp)).segs hL hK).1]
    dsimp only
    rw [ih (fun g' hg' => h g' (by simp [hg']))]
    rfl
theorem unpack_pack {L K : Nat} (hL : L ≤ 1000) (hK : 9 ≤ K ∧ K ≤ 1024) {rs : List Bs} (h : ∀ r ∈ rs, r.length ≤ L) :
    allSegs L K (packP K rs) = some (packS K rs).flatten ∧ join L (packS K rs).flatten = some rs ∧ unpack L K (packP K rs) = some rs := by
  have hinv := packS_inv (L := L) hK.1 h
  have e1 : allSegs L K (packP K rs) = some (packS K rs).flatten := by
    rw [packP_eq hK rs h]
    exact allSegs_map hL hK.2 _ hinv.group
  have e2 := join_chains hinv.chains h
  refine ⟨e1, e2, ?_⟩
  unfold unpack
  rw [e1]
  dsimp only
  rw [e2]
  dsimp only
  rw [if_pos rfl]
theorem unpack_some {L K : Nat} {blocks rs : List Bs} (h : unpack L K blocks = some rs) : packP K rs = blocks := by
  unfold unpack at h
  split at h
  · cases h
  · split at h
    · cases h
    · split at h
      · rename_i hp
        simp only [Option.some.injEq] at h
        subst h
        exact hp
      · cases h
theorem joinGo_le {L : Nat} : ∀ (l : List Seg) (out rs : List Bs) (op : Bool), (∀ r ∈ out, r.length ≤ L) → joinGo L out op l = some rs → ∀ r ∈ rs, r.length ≤ L := by
  intro l
  induction l with
  | nil =>
    intro out rs op h hj
    rw [joinGo] at hj
    split at hj
    · cases hj
    · simp only [Option.some.injEq] at hj
      subst hj
      exact h
  | cons x l ih =>
    intro out rs op h hj
    rw [joinGo] at hj
    split at hj
    · cases hj
    · split at hj
      · split at hj
        · cases hj
        · rename_i hl
          refine ih _ rs _ (fun r hr => ?_) hj
          rcases List.mem_append.1 hr with hr | hr
          · exact h r (List.dropLast_subset _ hr)
          · simp only [List.mem_singleton] at hr
            subst hr
            omega
      · split at hj
        · cases hj
        · rename_i hl
          refine ih _ rs _ (fun r hr => ?_) hj
          rcases List.mem_append.1 hr with hr | hr
          · exact h r hr
          · simp only [List.mem_singleton] at hr
            subst hr
            omega
theorem join_le {L : Nat} {l : List Seg} {rs : List Bs} (h : join L l = some rs) : ∀ r ∈ rs, r.length ≤ L := joinGo_le l [] rs false (by simp) h
end P12
