/- do, play: acts on a manager. -/
import Derived.Test.YtkabfjknpjhonaaLkActs
namespace Go.Proofs.Ytkabfjknpjhonaa
open Go.RowKit P16 P46
attribute [local go_sem] ByteArray.mk_append_mk ByteArray.extract_mk mk_index

theorem grantGo_len : ∀ (rest h pre : List Lock) (out : List Int), (grantGo h pre rest out).1.h.length + (grantGo h pre rest out).1.q.length = h.length + pre.length + rest.length
  | [], h, pre, out => by simp [grantGo]
  | l :: rest, h, pre, out => by
    rw [grantGo]
    split
    · rw [grantGo_len]; simp; omega
    · rw [grantGo_len]; simp; omega
theorem release_len (s : St) (u : Int) : (release s u).1.h.length + (release s u).1.q.length ≤ s.h.length + s.q.length := by
  show (grantGo (drop s.h u) [] (drop s.q u) []).1.h.length + (grantGo (drop s.h u) [] (drop s.q u) []).1.q.length ≤ _
  rw [grantGo_len]
  have h1 := drop_len s.h u
  have h2 := drop_len s.q u
  simp
  omega
theorem ask_len (s : St) (l : Lock) : (P46.ask s l).1.h.length + (P46.ask s l).1.q.length ≤ s.h.length + s.q.length + 1 := by
  unfold P46.ask
  split
  · simp; omega
  · split
    · simp
    · simp; omega
theorem request_len (s : St) (l : Lock) : (request s l).1.h.length + (request s l).1.q.length ≤ s.h.length + s.q.length + 1 := by
  unfold request
  split
  · simp
  · split
    · simp
    · split
      · split
        · simp
        · have := ask_len (cancel s l.unit).1 l
          have := cancel_len s l.unit
          omega
      · exact ask_len s l
theorem act_len (s : St) (k : Int) (l : Lock) : (act s k l).1.h.length + (act s k l).1.q.length ≤ s.h.length + s.q.length + 1 := by
  unfold act
  split
  · have := cancel_len s l.unit
    dsimp only
    omega
  · split
    · have := release_len s l.unit
      dsimp only
      omega
    · exact request_len s l
/-- What an act leaves. -/
def DPost (w : World) (B p : Nat) (s : St) (code : Int) (outs : List Int) (e : Ending) (w' : World) : Prop := ∃ v vh vq, e = .returned (.tuple #[.int .i64 code, v]) ∧ OwnI w' w.heap.size v outs ∧ Mgr w' B p s.h s.q vh vq ∧ Moved p w w' ∧ (∀ k, v.ownBlock = some k → ¬ Foot w' p k)
theorem Blk.addFrom {w : World} {p : Nat} {t : TypeId} {cs : Array Value} (h : Blk w p t cs) (i : Nat) : ∀ j u, (cs.toList.drop i)[j]? = some u → w.cell? ((⟨p, i, none⟩ : Addr).add j) = some u := by
  intro j u hj
  rw [Addr.add_lit, h.cell]
  simpa using hj
set_option maxRecDepth 100000 in
set_option maxHeartbeats 2000000 in
theorem lkDo (a : ActL) (B p : Nat) (h q : List Lock) (vh vq : Value) (w : World) (m : Mgr w B p h q vh vq) (hl : h.length + q.length < 100000) (hgood : P46.Good ⟨h, q⟩) (hvs : Valids ⟨h, q⟩) :
    Calls Try.prog 14 #[.pointer (some ⟨p, 0, none⟩), av a] w (DPost w B p (act ⟨h, q⟩ a.kind a.l).1 (act ⟨h, q⟩ a.kind a.l).2.1 (act ⟨h, q⟩ a.kind a.l).2.2) := by
  have HM := Lib.hid m
  have HL := Lib.hid hl
  have HG := Lib.hid hgood
  have HV := Lib.hid hvs
  clear m hl hgood hvs
  have hlenL : (Try.prog.info? 32).map (·.size) = some 6 := by kernel_rfl
  unfold av
  go_enter Try.func14, Try.ntmps14
  go_upto_region 1 with (fail)
  obtain ⟨w2, g, e1, e2, hb, h1⟩ := boxes1 w 34 (aa a)
  unfold aa at e1
  rw [e1, e2]
  obtain ⟨a0, a1, a2, a3, a4, a5, a6⟩ := acells h1
  have HM2 := Lib.hid (HM.out.below hb)
  have HV2 := Lib.hid (Moved.of_below hb HM.out.box.lt)
  have HZ := Lib.hid hb.size
  have HR := Lib.hid (show ∀ j u, (la a.l)[j]? = some u → w2.cell? ((⟨g, 1, none⟩ : Addr).add j) = some u from fun j u hj => h1.addFrom 1 j u (by simpa [aa, la] using hj))
  clear e1 e2 hb h1
  by_cases k1 : a.kind.tmod 3 = 1
  · have HA := Lib.hid (show act ⟨h, q⟩ a.kind a.l = ((cancel ⟨h, q⟩ a.l.unit).1, 0, (cancel ⟨h, q⟩ a.l.unit).2) from by unfold act; rw [if_pos k1])
    have b1 : (a.kind.tmod 3 == 1) = true := beq_of k1
    clear k1
    go_wp2_with (go_at_call 27; refine (lkCancel a.l.unit B p h q vh vq _ HM2.out (by have := HL.out; omega) HV.out).mono ?_; rintro e w3 ⟨v, vh3, vq3, rfl, ho, hm3, hv3, ha3⟩; have HO := Lib.hid ho; have HM3 := Lib.hid hm3; have HV3 := Lib.hid hv3; have HA3 := Lib.hid ha3; clear ho hm3 hv3 ha3)
    go_ret2
    rw [HA.out]
    exact ⟨v, vh3, vq3, rfl, HO.out.base HZ.out, HM3.out, HV2.out.trans HV3.out, HA3.out⟩
  · by_cases k2 : a.kind.tmod 3 = 2
    · have HA := Lib.hid (show act ⟨h, q⟩ a.kind a.l = ((release ⟨h, q⟩ a.l.unit).1, 0, (release ⟨h, q⟩ a.l.unit).2) from by unfold act; rw [if_neg k1, if_pos k2])
      have b1 : (a.kind.tmod 3 == 1) = false := beq_not k1
      have b2 : (a.kind.tmod 3 == 2) = true := beq_of k2
      clear k1 k2
      go_wp2_with (go_at_call 35; refine (lkRelease a.l.unit B p h q vh vq _ HM2.out (by have := HL.out; omega) HV.out).mono ?_; rintro e w3 ⟨v, vh3, vq3, rfl, ho, hm3, hv3, ha3⟩; have HO := Lib.hid ho; have HM3 := Lib.hid hm3; have HV3 := Lib.hid hv3; have HA3 := Lib.hid ha3; clear ho hm3 hv3 ha3)
      go_ret2
      rw [HA.out]
      exact ⟨v, vh3, vq3, rfl, HO.out.base HZ.out, HM3.out, HV2.out.trans HV3.out, HA3.out⟩
    · have HA := Lib.hid (show act ⟨h, q⟩ a.kind a.l = ((request ⟨h, q⟩ a.l).1, (request ⟨h, q⟩ a.l).2, []) from by unfold act; rw [if_neg k1, if_neg k2])
      have b1 : (a.kind.tmod 3 == 1) = false := beq_not k1
      have b2 : (a.kind.tmod 3 == 2) = false := beq_not k2
      clear k1 k2
      go_wp2_with (first | (refine wpList_load_cells rfl 32 (.tmp 24) rfl ⟨g, 1, none⟩ rfl (la a.l) _ HR.out Try.underlying32 rfl hlenL ?_) | (go_at_call 26; refine (lkRequest a.l B p h q vh vq _ HM2.out HL.out HG.out HV.out).mono ?_; rintro e w3 ⟨vh3, vq3, rfl, hm3, hv3⟩; have HM3 := Lib.hid hm3; have HV3 := Lib.hid hv3; clear hm3 hv3))
      go_ret2
      rw [HA.out]
      exact ⟨_, vh3, vq3, rfl, OwnI.nil _ _, HM3.out, HV2.out.trans HV3.out, fun k hk => by simp [Value.ownBlock] at hk⟩
end Go.Proofs.Ytkabfjknpjhonaa
