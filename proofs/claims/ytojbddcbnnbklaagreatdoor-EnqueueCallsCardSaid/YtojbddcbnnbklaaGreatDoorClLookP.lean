/- look in plain Lean on claims with their map blocks: it follows the plain law; the claims stay the same, in another order. -/
import Derived.Test.YtojbddcbnnbklaaGreatDoorClWaiting
namespace Go.Proofs.YtojbddcbnnbklaaGreatDoor
open P43

structure TM where
  (hs ws : List Cm)
def TM.t (s : TM) : T := ⟨s.hs.map (·.1), s.ws.map (·.1)⟩
def lookM : List Cm → List Cm → List Cm → List Int → TM × List Int
  | h, st, [], out => (⟨h, st⟩, out)
  | h, st, c :: rest, out => if blkC (h ++ st) c = [] then lookM (h ++ [c]) st rest (out ++ [c.1.id]) else lookM h (st ++ [c]) rest out
theorem blkC_fst (ms : List Cm) (c : Cm) : (blkC ms c).map (·.1) = blk (ms.map (·.1)) c.1 := by
  unfold blkC blk
  rw [List.filter_map]
  rfl
theorem blkC_nil (ms : List Cm) (c : Cm) : blkC ms c = [] ↔ blk (ms.map (·.1)) c.1 = [] := by
  rw [← blkC_fst, List.map_eq_nil_iff]
theorem lookM_fst : ∀ (rest h st : List Cm) (out : List Int), ((lookM h st rest out).1.t, (lookM h st rest out).2) = lookGo (h.map (·.1)) (st.map (·.1)) (rest.map (·.1)) out
  | [], h, st, out => rfl
  | c :: rest, h, st, out => by
    rw [lookM, List.map_cons, lookGo]
    have e := blkC_nil (h ++ st) c
    rw [List.map_append] at e
    by_cases hb : blkC (h ++ st) c = []
    · rw [if_pos hb, if_pos (e.1 hb), lookM_fst rest]
      simp
    · rw [if_neg hb, if_neg (fun h => hb (e.2 h)), lookM_fst rest]
      simp
theorem lookM_perm : ∀ (rest h st : List Cm) (out : List Int), ((lookM h st rest out).1.hs ++ (lookM h st rest out).1.ws).Perm (h ++ (st ++ rest))
  | [], h, st, out => by rw [lookM, List.append_nil]
  | c :: rest, h, st, out => by
    rw [lookM]
    split
    · refine (lookM_perm rest (h ++ [c]) st _).trans ?_
      rw [List.append_assoc]
      exact List.Perm.append_left h (by simpa using List.perm_middle.symm)
    · refine (lookM_perm rest h (st ++ [c]) out).trans ?_
      simp
theorem lookM_outs : ∀ (rest h st : List Cm) (out : List Int), (lookM h st rest out).2.length + h.length = out.length + (lookM h st rest out).1.hs.length
  | [], h, st, out => rfl
  | c :: rest, h, st, out => by
    rw [lookM]
    split
    · have := lookM_outs rest (h ++ [c]) st (out ++ [c.1.id])
      simp at this
      omega
    · exact lookM_outs rest h (st ++ [c]) out
theorem blkC_append (a b : List Cm) (c : Cm) : blkC (a ++ b) c = blkC a c ++ blkC b c := List.filter_append ..
end Go.Proofs.YtojbddcbnnbklaaGreatDoor
