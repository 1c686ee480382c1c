/- The walk of KeyMeets: it returns true. -/
import Derived.Test.YtekjghofkjlnaaaMeetsF
import Derived.Test.YtekjghofkjlnaaaMeetsT
namespace Go.Proofs.Ytekjghofkjlnaaa
open Go.RowKit P16 Go.Sort
attribute [local go_sem] ByteArray.mk_append_mk ByteArray.extract_mk mk_index leq_bs not_lt_bs

set_option maxRecDepth 100000 in
set_option maxHeartbeats 1000000 in
theorem meets9_no (al ah : Bs) (ae : Bool) (bl bh : Bs) (be : Bool) (k : Bs) (w : World) (h : [(⟨al, ah, ae⟩ : Rng), ⟨bl, bh, be⟩].all rngShort = false ∨ ([(⟨al, ah, ae⟩ : Rng), ⟨bl, bh, be⟩].all rngShort = true ∧ decide (k.length ≤ 100) = false)) :
    Calls Try.prog 9 #[rg al ah ae, rg bl bh be, .string ⟨k.toArray⟩] w fun e w' => e = .returned (.bool true) ∧ Below w.heap.size w w' := by
  rcases h with hf | ⟨hf, hk⟩
  · have HF := Lib.hid hf
    clear hf
    go_enter Try.func9, Try.ntmps9
    go_wp2_with fail
    refine (awake10 _).mono ?_
    rintro e w1 ⟨rfl, hb1⟩
    have MA := Lib.hid (((Blk.new w 33 #[.string ⟨al.toArray⟩, .string ⟨ah.toArray⟩, .bool ae]).alloc (.cells #[.string ⟨bl.toArray⟩, .string ⟨bh.toArray⟩, .bool be] 33)).below hb1)
    have MB := Lib.hid ((Blk.new (w.alloc (.cells #[.string ⟨al.toArray⟩, .string ⟨ah.toArray⟩, .bool ae] 33)) 33 #[.string ⟨bl.toArray⟩, .string ⟨bh.toArray⟩, .bool be]).below hb1)
    rw [World.size_alloc] at MB
    go_wp2_with (first | (refine wpList_load_row rfl 33 (.tmp 3) rfl w.heap.size rfl 33 _ (0, 0) _ MA.out under33 rfl (by kernel_rfl) ?_) | (refine wpList_load_row rfl 33 (.tmp 4) rfl (w.heap.size + 1) rfl 33 _ (0, 0) _ MB.out under33 rfl (by kernel_rfl) ?_) | (go_at_call 21; refine (few21 _ _ _ _ _ (RngsAt.lit2 _ _ ⟨al, ah, ae⟩ ⟨bl, bh, be⟩) (by decide)).mono ?_; rintro e w2 ⟨rfl, hb2⟩; rw [HF.out]))
    go_ret
    exact ⟨rfl, by repeat (first | exact Below.refl _ _ | refine below_alloc ?_ _ | refine below_drewN ?_ _ | refine below_then ?_ (by assumption))⟩
  · have HF := Lib.hid hf
    have HK := Lib.hid hk
    clear hf hk
    go_enter Try.func9, Try.ntmps9
    go_wp2_with fail
    refine (awake10 _).mono ?_
    rintro e w1 ⟨rfl, hb1⟩
    have MA := Lib.hid (((Blk.new w 33 #[.string ⟨al.toArray⟩, .string ⟨ah.toArray⟩, .bool ae]).alloc (.cells #[.string ⟨bl.toArray⟩, .string ⟨bh.toArray⟩, .bool be] 33)).below hb1)
    have MB := Lib.hid ((Blk.new (w.alloc (.cells #[.string ⟨al.toArray⟩, .string ⟨ah.toArray⟩, .bool ae] 33)) 33 #[.string ⟨bl.toArray⟩, .string ⟨bh.toArray⟩, .bool be]).below hb1)
    rw [World.size_alloc] at MB
    go_wp2_with (first | (refine wpList_load_row rfl 33 (.tmp 3) rfl w.heap.size rfl 33 _ (0, 0) _ MA.out under33 rfl (by kernel_rfl) ?_) | (refine wpList_load_row rfl 33 (.tmp 4) rfl (w.heap.size + 1) rfl 33 _ (0, 0) _ MB.out under33 rfl (by kernel_rfl) ?_) | (go_at_call 21; refine (few21 _ _ _ _ _ (RngsAt.lit2 _ _ ⟨al, ah, ae⟩ ⟨bl, bh, be⟩) (by decide)).mono ?_; rintro e w2 ⟨rfl, hb2⟩; rw [HF.out]) | (go_at_call 11; refine (short11 _ _ _ _ _ (StrsAt.lit1 _ _ _) (by decide)).mono ?_; rintro e w3 ⟨rfl, hb3⟩; rw [short_one, HK.out]))
    go_ret
    exact ⟨rfl, by repeat (first | exact Below.refl _ _ | refine below_alloc ?_ _ | refine below_drewN ?_ _ | refine below_then ?_ (by assumption))⟩
theorem meets9 (a b : Rng) (k : Bs) (w : World) : Calls Try.prog 9 #[rv a, rv b, .string ⟨k.toArray⟩] w fun e w' => e = .returned (.bool true) ∧ Below w.heap.size w w' := by
  cases hf : [a, b].all rngShort
  · exact meets9_no a.low a.high a.e b.low b.high b.e k w (.inl hf)
  cases hk : decide (k.length ≤ 100)
  · exact meets9_no a.low a.high a.e b.low b.high b.e k w (.inr ⟨hf, hk⟩)
  have hin := inR_meet a b k
  have hc1 : (emp (meet a b) && (inR a k && inR b k)) = false := by
    cases he : emp (meet a b)
    · rfl
    · rw [← hin, emp_in he]; rfl
  have hc2 : (covers a b && inR b k && !inR a k) = false := by
    cases hc : covers a b
    · rfl
    cases hb : inR b k
    · rfl
    rw [covers_in hc hb]; rfl
  cases ha : inR a k
  · rw [ha] at hc1 hc2
    exact meets9_F a.low a.high a.e b.low b.high b.e _ _ _ k w hf hk rfl _ _ _ ha rfl rfl rfl hc1 hc2
  · rw [ha] at hc1 hc2
    exact meets9_T a.low a.high a.e b.low b.high b.e _ _ _ k w hf hk rfl _ _ _ ha rfl rfl rfl hc1 hc2
end Go.Proofs.Ytekjghofkjlnaaa
