/- The walks of parts and of the function that it returns: each call takes a part of what is left of a record. -/
import Derived.Test.YtabpgfcmfflceaaDoorForm2
import Derived.RegionTactic
import Derived.ChangeAlike
namespace Go.Proofs.YtabpgfcmfflceaaDoor
open Go.RowKit P12
attribute [local go_sem] ByteArray.mk_append_mk ByteArray.extract_mk mk_index

/-- What the function that parts returns has captured: what is left of the record, whether it has begun, whether it is done. -/
structure NextSt (w : World) (g : Nat) (r : Bs) (b d : Bool) : Prop where
  left : Blk w g 9 #[.string ⟨r.toArray⟩]
  begun : Blk w (g + 1) 4 #[.bool b]
  done : Blk w (g + 2) 4 #[.bool d]
theorem NextSt.below {w w' : World} {g : Nat} {r : Bs} {b d : Bool} (h : NextSt w g r b d) (hb : Below w.heap.size w w') : NextSt w' g r b d := ⟨h.left.below hb, h.begun.below hb, h.done.below hb⟩
theorem NextSt.kept {row : Option Nat} {w w' : World} {g : Nat} {r : Bs} {b d : Bool} (h : NextSt w g r b d) (hb : w.grownBy w' row) (hr : ∀ k, row = some k → g + 3 ≤ k) : NextSt w' g r b d :=
  ⟨h.left.grown hb (fun e => by have := hr _ e.symm; omega), h.begun.grown hb (fun e => by have := hr _ e.symm; omega), h.done.grown hb (fun e => by have := hr _ e.symm; omega)⟩

def nextFn (g : Nat) : Value := .func (.func 41) #[] #[.pointer (some ⟨g + 2, 0, none⟩), .pointer (some ⟨g, 0, none⟩), .pointer (some ⟨g + 1, 0, none⟩)]

set_option maxHeartbeats 400000 in
theorem parts37 (r : Bs) (w : World) : Calls Tryd.prog 37 #[.string ⟨r.toArray⟩] w fun e w' => e = .returned (nextFn w.heap.size) ∧ NextSt w' w.heap.size r false false ∧ Below w.heap.size w w' := by
  have hmf : ∀ (fn : Fn) (first cap : Array Value) (w : World), (Instr.makeFunc fn first cap).run Tryd.prog w = .ok (.func fn first cap) w := fun _ _ _ _ => rfl
  go_enter Tryd.func37, Tryd.ntmps37
  go_wp2
  go_ret
  exact ⟨rfl, ⟨((Blk.new w 9 _).alloc _).alloc _, by have := (Blk.new (w.alloc (.cells #[.string ⟨r.toArray⟩] 9)) 4 #[.bool false]).alloc (.cells #[.bool false] 4); simpa using this, by have := Blk.new ((w.alloc (.cells #[.string ⟨r.toArray⟩] 9)).alloc (.cells #[.bool false] 4)) 4 #[.bool false]; simpa using this⟩, below_alloc (below_alloc (below_alloc (Below.refl _ _) _) _) _⟩

/-- What a call of the function leaves of it, and of rows that lie behind it. -/
structure Nexted (w : World) (g : Nat) (r : Bs) (b d : Bool) (w' : World) : Prop where
  st : NextSt w' g r b d
  below : Below g w w'
  rows : ∀ B e v ss, g + 3 ≤ B → OwnS w B e v ss → OwnS w' B e v ss

set_option maxHeartbeats 400000 in
theorem next41_done (n : Int) (g : Nat) (r : Bs) (b : Bool) (w : World) (h : NextSt w g r b true) :
    Calls Tryd.prog 41 #[.int .i64 n, .pointer (some ⟨g + 2, 0, none⟩), .pointer (some ⟨g, 0, none⟩), .pointer (some ⟨g + 1, 0, none⟩)] w
      fun e w' => e = .returned (.tuple #[.agg #[.bool false, .bool false, .string ⟨#[]⟩], .bool false]) ∧ Nexted w g r b true w' := by
  have hd : w.cell? ⟨g + 2, 0, none⟩ = some (.bool true) := h.done.cell 0
  have hg := h.done.lt
  have hg0 := h.left.lt
  have hg1 := h.begun.lt
  have H := Lib.hid h
  clear h
  go_enter Tryd.func41, Tryd.ntmps41
  go_wp2
  exact bodyPost_ret (v := .tuple #[.agg #[.bool false, .bool false, .string ⟨#[]⟩], .bool false]) (by simp [results, Tryd.results41, go_sem]) rfl ⟨rfl, H.out.below (below_alloc (Below.refl _ _) _), (Below.refl _ _).alloc (by omega) _, fun _ _ _ _ _ h => h.alloc _⟩

theorem nexted_mk {w : World} {g : Nat} {r : Bs} {b d : Bool} (h : NextSt w g r b d) (r' : Bs) (d' : Bool) (o1 o2 : Obj) :
    Nexted w g r' true d' (((((w.setCell ⟨g, 0, none⟩ (.string ⟨r'.toArray⟩)).setCell ⟨g + 1, 0, none⟩ (.bool true)).setCell ⟨g + 2, 0, none⟩ (.bool d')).alloc o1).alloc o2).drew.drew where
  st := ⟨((((((h.left.put 0 _).far (by simp) _).far (by simp) _).alloc _).alloc _).drew).drew, ((((((h.begun.far (by simp) _).put 0 _).far (by simp) _).alloc _).alloc _).drew).drew, ((((((h.done.far (by simp) _).far (by simp) _).put 0 _).alloc _).alloc _).drew).drew⟩
  below := by
    have hg := h.done.lt
    exact (((((((Below.refl _ _).setCell (by simp) _).setCell (by simp) _).setCell (by simp) _).alloc (by simp; omega) _).alloc (by simp; omega) _).drew).drew
  rows := fun B e v ss hB ho => by
    have key : ∀ k, k < B → v.ownBlock ≠ some k := fun k hk he => by have := (ho.lt k he).1; omega
    exact (((((((ho.setCell (key _ (by simp; omega)) _).setCell (key _ (by simp; omega)) _).setCell (key _ (by simp; omega)) _).alloc _).alloc _).drew).drew)

def N41 (n : Nat) (g : Nat) (r : Bs) (b : Bool) (w : World) (e : Ending) (w' : World) : Prop :=
  e = .returned (.tuple #[.agg #[.bool b, .bool (decide (n < r.length)), .string ⟨(r.take n).toArray⟩], .bool true]) ∧ Nexted w g (r.drop n) true (decide (r.length ≤ n)) w'

set_option maxHeartbeats 1000000 in
theorem next41 (n : Nat) (g : Nat) (r : Bs) (b : Bool) (w : World) (h : NextSt w g r b false) (hn : n ≤ 100000) :
    Calls Tryd.prog 41 #[.int .i64 n, .pointer (some ⟨g + 2, 0, none⟩), .pointer (some ⟨g, 0, none⟩), .pointer (some ⟨g + 1, 0, none⟩)] w (N41 n g r b w) := by
  have hd : w.cell? ⟨g + 2, 0, none⟩ = some (.bool false) := h.done.cell 0
  have hl : w.cell? ⟨g, 0, none⟩ = some (.string ⟨r.toArray⟩) := h.left.cell 0
  have hb : w.cell? ⟨g + 1, 0, none⟩ = some (.bool b) := h.begun.cell 0
  have fd := h.done.frozen 0
  have fl := h.left.frozen 0
  have fb := h.begun.frozen 0
  have hg := h.done.lt
  have hg0 := h.left.lt
  have hg1 := h.begun.lt
  have H := Lib.hid h
  clear h
  by_cases hlt : n < r.length
  · have hnot : ¬ r.length < n := by omega
    have hbe : ((n : Int) == (r.length : Int)) = false := by simp; omega
    have HD := Lib.hid (show List.take (r.length - n) (List.drop n r) = r.drop n from List.take_of_length_le (by simp))
    have HB1 := Lib.hid (show decide (n < r.length) = true from decide_eq_true hlt)
    have HB2 := Lib.hid (show decide (r.length ≤ n) = false from decide_eq_false (by omega))
    go_enter Tryd.func41, Tryd.ntmps41
    go_wp2
    go_region
    go_wp2
    go_region
    go_wp2
    refine bodyPost_ret (v := .tuple #[.agg #[.bool b, .bool true, .string ⟨(r.take n).toArray⟩], .bool true]) (by simp [results, Tryd.results41, go_sem]) rfl ?_
    unfold N41
    rw [HB1.out, HB2.out, HD.out]
    exact ⟨rfl, nexted_mk H.out _ _ _ _⟩
  · have hbe : ((r.length : Int) == (r.length : Int)) = true := by simp
    have HT := Lib.hid (show r.take n = r from List.take_of_length_le (by omega))
    have HD := Lib.hid (show r.drop n = [] from List.drop_of_length_le (by omega))
    have HB1 := Lib.hid (show decide (n < r.length) = false from decide_eq_false hlt)
    have HB2 := Lib.hid (show decide (r.length ≤ n) = true from decide_eq_true (by omega))
    have hself : ¬ r.length < r.length := by omega
    by_cases heq : n = r.length
    · subst heq
      go_enter Tryd.func41, Tryd.ntmps41
      go_wp2
      go_region
      go_wp2
      go_region
      go_wp2
      refine bodyPost_ret (v := .tuple #[.agg #[.bool b, .bool false, .string ⟨r.toArray⟩], .bool true]) (by simp [results, Tryd.results41, go_sem]) rfl ?_
      unfold N41
      rw [HB1.out, HB2.out, HD.out, HT.out]
      exact ⟨rfl, nexted_mk H.out [] true _ _⟩
    · have hgt : r.length < n := by omega
      go_enter Tryd.func41, Tryd.ntmps41
      go_wp2
      go_region
      go_wp2
      go_region
      go_wp2
      refine bodyPost_ret (v := .tuple #[.agg #[.bool b, .bool false, .string ⟨r.toArray⟩], .bool true]) (by simp [results, Tryd.results41, go_sem]) rfl ?_
      unfold N41
      rw [HB1.out, HB2.out, HD.out, HT.out]
      exact ⟨rfl, nexted_mk H.out [] true _ _⟩
theorem next41I (n : Int) (g : Nat) (r : Bs) (b : Bool) (w : World) (h : NextSt w g r b false) (hn : 0 ≤ n ∧ n ≤ 100000) :
    Calls Tryd.prog 41 #[.int .i64 n, .pointer (some ⟨g + 2, 0, none⟩), .pointer (some ⟨g, 0, none⟩), .pointer (some ⟨g + 1, 0, none⟩)] w (N41 n.toNat g r b w) := by
  obtain ⟨m, rfl⟩ : ∃ m : Nat, n = m := ⟨n.toNat, by omega⟩
  exact next41 m g r b w h (by omega)
end Go.Proofs.YtabpgfcmfflceaaDoor
