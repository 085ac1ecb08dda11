/-
  The law package's lists of floats with guards, second part: left. Conditions: those that each theorem names.
-/
import Derived.Test.YtfbjeifhpmdjaaaGreatZ32
import Derived.Test.YtfbjeifhpmdjaaaGreatZ13
import Derived.Test.YtfbjeifhpmdjaaaGreatZ25
import Derived.Test.YtfbjeifhpmdjaaaGreatZ15
import Derived.ProofKit
import Derived.ChangeOld
import Derived.OpenShut
namespace Go.Proofs.YtfbjeifhpmdjaaaGreat
open Go.RowKit Nm Rn
set_option maxRecDepth 100000
set_option linter.unusedVariables false
set_option linter.unusedSimpArgs false

set_option maxHeartbeats 4000000 in
theorem fleft_any (A : Option Addr) (n c g : Nat) (xs : List Nat) (w : World) (h : Uds w A n c xs) (hr : RowF w g (xs ++ GF)) (hn : n ≤ 1048576) :
    Calls Tryz.prog 10 #[.slice A n c, .slice (some ⟨g, 0, none⟩) (n + 40) (n + 40)] w fun e w' => e = .returned (.bool true) ∧ Ext w w' := by
  have Hlx := Lib.hid h.len
  have HT : Hid ((xs ++ GF).length = n + 40) := Lib.hid (by rw [List.length_append, h.len, GF_len])
  go_enter Tryz.func10, Tryz.ntmps10
  go_wp2_with fail
  go_loopw [5] (fun iv wr => ∃ i : Nat, i ≤ n + 40 ∧ iv = .int .i64 i ∧ Ext w wr) (fun iv _ => n + 40 - (intOf iv).toNat)
  case atStart => exact ⟨0, Nat.zero_le _, rfl, Ext.refl w⟩
  case round =>
    obtain ⟨i, hi, rfl, hEr⟩ := hrel
    have hO := (Own.start w).ext hEr
    have hf : True := trivial
    by_cases hlt : i < n + 40
    · have blt : decide ((i : Int) < (n : Int) + 40) = true := decide_eq_true (by omega)
      by_cases hin : i < n
      · obtain ⟨ad, hx, rfl, _, hcX⟩ := h.at_ hin
        obtain ⟨p1, hp1⟩ : ∃ p1, ad.add i = p1 := ⟨_, rfl⟩
        have HC1 : Hid (∀ wz, Ext w wz → wz.cell? p1 = some (.int .u64 (xs[i] : Int))) := Lib.hid (fun wz hz => by
          obtain ⟨ad', _, e1, _, e2⟩ := (h.ext hz).at_ hin
          injection e1 with e1
          subst e1
          rwa [hp1] at e2)
        have HX1 : Hid ((xs ++ GF)[i]'(by rw [HT.out]; exact hlt) = xs[i]) := Lib.hid (List.getElem_append_left hx)
        generalize xs[i] = x at *
        have HFL := Lib.hid (fun w => fl4_any x w)
        have b1 : decide ((i : Int) < (n : Int)) = true := decide_eq_true (by omega)
        have b2 : decide ((n : Int) ≤ (i : Int)) = false := decide_eq_false (by omega)
        have b3 : decide (i < n) = true := decide_eq_true hin
        have b4 : decide (n ≤ i) = false := decide_eq_false (by omega)
        have bi0 : (0 : Int) ≤ (i : Int) := by omega
        have bi1 : (i : Int) < (n : Int) := by omega
        have bi2 : (i : Int) < (n : Int) + 40 := by omega
        clear hcX
        go_upto_region 4 with fail
        obtain ⟨S, hS⟩ : ∃ S : World → Prop, S = Own w [] [] := ⟨_, rfl⟩
        have hSE : ∀ w w', S w → Ext w w' → S w' := fun w w' h1 h2 => by rw [hS] at h1 ⊢; exact h1.ext h2
        have hS1 : S wr.drew := by rw [hS]; exact hO.ext (Ext.refl wr).drew
        have HS := Lib.hid hS
        clear hS hO hf
        obtain ⟨sp, hsp⟩ : ∃ sp : Nat → Sp, sp = ofList [det (.int .i64 (i : Int)), det (.slice (some ad) n c), det (.int .i64 (n : Int)), det (.bool true), det (.bool true), det (.slice (some ⟨g, 0, none⟩) (n + 40) (n + 40)), det (.int .i64 (i : Int)), det (.pointer (some ⟨g, i, none⟩)), det (.float .f64 x), det (.int .u64 (x : Int)), det (.slice (some ad) n c), det (.int .i64 (i : Int)), det (.pointer (some p1)), det (.int .u64 (x : Int)), det (.float .f64 x), det (.int .u64 (x : Int)), det (.bool false), det (.bool false), det (.bool false), det (.int .i64 (i : Int)), det (.slice (some ad) n c), det (.int .i64 (n : Int)), det (.bool false), det (.bool false), det undef, det undef] := ⟨_, rfl⟩
        have HSP := Lib.hid hsp
        clear hsp
        refine wp_region_loose 26 S sp (by kernel_rfl) (by kernel_rfl) hS1 hSE ?_
        simp only [List.take_succ_cons, List.take_zero, List.drop_succ_cons, List.drop_zero]
        iterate 8
          refine wpX_step (fun K hK => ?_)
          go_simp
          refine StepY.det (by rw [HSP.out]; rfl) ?_ ?_
          · intro wz hz hF
            clear hz hF
            go_simp
            exact ⟨rfl, Ext.refl _⟩
          refine hK _ _ ?_
          clear hK K
        refine wpX_step (fun K hK => ?_)
        go_simp
        refine StepY.det (by rw [HSP.out]; rfl) ?_ ?_
        · intro wz hz hF
          rw [HS.out] at hz
          have c1 := (hr.ext hz.toExt).cell (k := i) (by rw [HT.out]; exact hlt)
          rw [HX1.out] at c1
          clear hz hF
          go_simp
          exact ⟨rfl, Ext.refl _⟩
        refine hK _ _ ?_
        clear hK K
        iterate 4
          refine wpX_step (fun K hK => ?_)
          go_simp
          refine StepY.det (by rw [HSP.out]; rfl) ?_ ?_
          · intro wz hz hF
            clear hz hF
            go_simp
            exact ⟨rfl, Ext.refl _⟩
          refine hK _ _ ?_
          clear hK K
        refine wpX_step (fun K hK => ?_)
        go_simp
        refine StepY.det (by rw [HSP.out]; rfl) ?_ ?_
        · intro wz hz hF
          rw [HS.out] at hz
          have c1 := HC1.out _ hz.toExt
          clear hz hF
          go_simp
          exact ⟨rfl, Ext.refl _⟩
        refine hK _ _ ?_
        clear hK K
        refine wpX_step (fun K hK => ?_)
        go_simp
        refine StepY.det (by rw [HSP.out]; rfl) ?_ ?_
        · intro wz hz hF
          clear hz hF
          go_simp
          refine (HFL.out _).mono ?_
          rintro e w5 ⟨rfl, rfl⟩
          exact ⟨_, rfl, rfl, Ext.refl _⟩
        refine hK _ _ ?_
        clear hK K
        iterate 11
          refine wpX_step (fun K hK => ?_)
          go_simp
          first
          | refine ⟨by rw [HSP.out]; rfl, hK _ _ ?_⟩
            clear hK K
          | refine StepY.det (by rw [HSP.out]; rfl) ?_ ?_
            · intro wz hz hF
              clear hz hF
              go_simp
              exact ⟨rfl, Ext.refl _⟩
            refine hK _ _ ?_
            clear hK K
        refine wpX_nil ?_
        intro wq hz hF
        clear hF
        rw [HS.out] at hz
        have hO := hz
        clear hz HS HSP
        have hf := hO.cells
        simp only [BC, CC, Nat.zero_add, Nat.reduceAdd, and_true] at hf
        go_wp2_with fail
        go_roundw
        case rel => exact ⟨i + 1, by omega, by go_num, hO.toExt⟩
        case measure => simp [intOf]; omega
      · have HX1 : Hid ((xs ++ GF)[i]'(by rw [HT.out]; exact hlt) = 4668012624728817664) := Lib.hid (by rw [List.getElem_append_right (by have := Hlx.out; omega), GF_get])
        have b1 : decide ((i : Int) < (n : Int)) = false := decide_eq_false (by omega)
        have b2 : decide ((n : Int) ≤ (i : Int)) = true := decide_eq_true (by omega)
        have b3 : decide (i < n) = false := decide_eq_false hin
        have b4 : decide (n ≤ i) = true := decide_eq_true (by omega)
        have bi0 : (0 : Int) ≤ (i : Int) := by omega
        have bi2 : (i : Int) < (n : Int) + 40 := by omega
        have q0 : (FloatKind.f64.format.order 4668012624728817664 4668012624728817664 != some .eq) = false := (fo_ne (x := 4668012624728817664) (y := 4668012624728817664) (by omega) (by omega)).trans (by decide)
        go_upto_region 4 with fail
        obtain ⟨S, hS⟩ : ∃ S : World → Prop, S = Own w [] [] := ⟨_, rfl⟩
        have hSE : ∀ w w', S w → Ext w w' → S w' := fun w w' h1 h2 => by rw [hS] at h1 ⊢; exact h1.ext h2
        have hS1 : S wr.drew := by rw [hS]; exact hO.ext (Ext.refl wr).drew
        have HS := Lib.hid hS
        clear hS hO hf
        obtain ⟨sp, hsp⟩ : ∃ sp : Nat → Sp, sp = ofList [det (.int .i64 (i : Int)), det (.slice A n c), det (.int .i64 (n : Int)), det (.bool false), det (.bool false), det undef, det undef, det undef, det undef, det undef, det undef, det undef, det undef, det undef, det undef, det undef, det undef, det (.bool false), det (.bool false), det (.int .i64 (i : Int)), det (.slice A n c), det (.int .i64 (n : Int)), det (.bool true), det (.bool true), det (.slice (some ⟨g, 0, none⟩) (n + 40) (n + 40)), det (.int .i64 (i : Int))] := ⟨_, rfl⟩
        have HSP := Lib.hid hsp
        clear hsp
        refine wp_region_loose 26 S sp (by kernel_rfl) (by kernel_rfl) hS1 hSE ?_
        simp only [List.take_succ_cons, List.take_zero, List.drop_succ_cons, List.drop_zero]
        iterate 26
          refine wpX_step (fun K hK => ?_)
          go_simp
          first
          | refine ⟨by rw [HSP.out]; rfl, hK _ _ ?_⟩
            clear hK K
          | refine StepY.det (by rw [HSP.out]; rfl) ?_ ?_
            · intro wz hz hF
              clear hz hF
              go_simp
              exact ⟨rfl, Ext.refl _⟩
            refine hK _ _ ?_
            clear hK K
        refine wpX_nil ?_
        intro wq hz hF
        clear hF
        rw [HS.out] at hz
        have hO := hz
        clear hz HS HSP
        have hf := hO.cells
        simp only [BC, CC, Nat.zero_add, Nat.reduceAdd, and_true] at hf
        have c1 := (hr.ext hO.toExt).cell (k := i) (by rw [HT.out]; exact hlt)
        rw [HX1.out] at c1
        go_wp2_with fail
        go_roundw
        case rel => exact ⟨i + 1, by omega, by go_num, hO.toExt⟩
        case measure => simp [intOf]; omega
    · have blt : decide ((i : Int) < (n : Int) + 40) = false := decide_eq_false (by omega)
      go_wp2_with fail
      go_ret
      exact ⟨rfl, hEr⟩
end Go.Proofs.YtfbjeifhpmdjaaaGreat

/-
  The law package's lists of floats with guards, third part: place. Conditions: those that each theorem names.
-/
namespace Go.Proofs.YtfbjeifhpmdjaaaGreat
open Go.RowKit Nm Rn
set_option maxRecDepth 100000
set_option linter.unusedVariables false
set_option linter.unusedSimpArgs false

set_option maxHeartbeats 2000000 in
theorem fplace_any (g n c : Nat) (zs : List Nat) (A : Option Addr) (d : Nat) (ys : List Nat) (wv w : World) (hr : RowF w g (zs ++ GF)) (hzl : zs.length = n) (hyl : ys.length = n) (hn : n ≤ 1048576)
    (HA : Hid (∀ w', ExtO wv g w w' → Uds w' A n d ys)) (hE : Ext wv w) (hg : wv.heap.size ≤ g) :
    Calls Tryz.prog 11 #[.slice (some ⟨g, 0, none⟩) n c, .slice A n d] w fun e w' => e = .returned (.tuple #[]) ∧ RowF w' g (ys ++ GF) ∧ ExtO wv g w w' := by
  have hE : ExtO wv g w w := ⟨hE, Only.refl g w⟩
  have HT : Hid ((ys ++ GF).length = n + 40 ∧ ys.length = n) := Lib.hid ⟨by rw [List.length_append, hyl, GF_len], hyl⟩
  have HZ : Hid ((zs ++ GF).length = n + 40 ∧ (zs ++ GF).drop n = GF) := Lib.hid ⟨by rw [List.length_append, hzl, GF_len], by rw [← hzl, List.drop_left]⟩
  clear hzl hyl
  go_enter Tryz.func11, Tryz.ntmps11
  go_wp2
  go_loopw [4] (fun iv wr => ∃ (i : Nat) (L : List Nat), i ≤ n ∧ iv = .int .i64 i ∧ RowF wr g L ∧ Hid (L.length = n + 40) ∧ Hid (L.take i = (ys ++ GF).take i) ∧ Hid (L.drop n = GF) ∧ ExtO wv g w wr) (fun iv _ => n - (intOf iv).toNat)
  case atStart => exact ⟨0, _, Nat.zero_le _, rfl, hr, Lib.hid HZ.out.1, Lib.hid (by simp), Lib.hid HZ.out.2, hE⟩
  case round =>
    obtain ⟨i, L, hi, rfl, hr, hLl, hrel, hdr, hEr⟩ := hrel
    by_cases hlt : i < n
    · have hiL : i < L.length := by rw [hLl.out]; omega
      have hiT : i < (ys ++ GF).length := by rw [HT.out.1]; omega
      have hc1 := hr.cell hiL
      have hf1 := hr.frozen i
      obtain ⟨ad, hx, rfl, _, hcX⟩ := (HA.out _ hEr).at_ hlt
      have hTx : ys[i] = (ys ++ GF)[i] := by rw [List.getElem_append_left]
      have hst := Lib.hid (take_step (x := ys[i]) hiL hiT hrel.out hTx)
      have hr2 := hr.set_ i ys[i]
      have hl2 := Lib.hid (show (L.set i ys[i]).length = n + 40 by rw [List.length_set]; exact hLl.out)
      have hd2 := Lib.hid (show (L.set i ys[i]).drop n = GF by rw [List.drop_set_of_lt hlt]; exact hdr.out)
      generalize ys[i] = x at hcX hst hr2 hl2 hd2
      clear hTx hrel hLl hiT hdr
      have HFL := Lib.hid (fun w => fl4_any x w)
      go_wp2_with (go_at_call 20; (with_reducible refine (HFL.out _).mono ?_); rintro e w5 ⟨rfl, rfl⟩)
      go_roundw
      case rel => exact ⟨i + 1, _, by omega, by go_num, hr2, hl2, hst, hd2, hEr.setCell hg _⟩
      case measure => simp [intOf]; omega
    · have hie : i = n := by omega
      rw [hie] at hrel
      have hLe : L = ys ++ GF := by
        have := List.take_append_drop n L
        rw [hrel.out, hdr.out, ← HT.out.2, List.take_left] at this
        exact this.symm
      rw [hLe] at hr
      clear hrel hLl hLe hie hdr
      go_wp2
      go_end0
      exact ⟨rfl, hr, hEr⟩
end Go.Proofs.YtfbjeifhpmdjaaaGreat

/-
  The law package's other: another list of as many patterns. Conditions: those that each theorem names.
-/
namespace Go.Proofs.YtfbjeifhpmdjaaaGreat
open Go.RowKit Nm Rn
set_option maxRecDepth 100000
set_option linter.unusedVariables false
set_option linter.unusedSimpArgs false

theorem RowU.blk {w : World} {g : Nat} {L : List Nat} (h : RowU w g L) : Blk w g 24 (u64s L).toArray := h
theorem RowU.new (w : World) (L : List Nat) : RowU (w.alloc (.cells (u64s L).toArray 24)) w.heap.size L := Blk.new w _ _
theorem RowU.cell {w : World} {g k : Nat} {L : List Nat} (h : RowU w g L) (hk : k < L.length) : w.cell? ⟨g, k, none⟩ = some (.int .u64 (L[k] : Int)) := by
  rw [h.blk.cell, List.getElem?_toArray, u64s_get hk]
theorem RowU.frozen {w : World} {g : Nat} {L : List Nat} (h : RowU w g L) (k : Nat) : w.frozen? ⟨g, k, none⟩ = false := h.blk.frozen k
theorem RowU.set_ {w : World} {g : Nat} {L : List Nat} (h : RowU w g L) (i x : Nat) : RowU (w.setCell ⟨g, i, none⟩ (.int .u64 (x : Int))) g (L.set i x) := by
  have := h.blk.set_ i (.int .u64 (x : Int))
  have e : (u64s L).toArray.setIfInBounds i (.int .u64 (x : Int)) = (u64s (L.set i x)).toArray := by simp [u64s, List.map_set]
  rw [e] at this
  exact this
theorem RowU.ext {w w' : World} {g : Nat} {L : List Nat} (h : RowU w g L) (he : Ext w w') : RowU w' g L := h.blk.ext he
theorem cells_replU (n : Nat) : madeCells (Value.int .u64 0).cells (n * 1) = (u64s (List.replicate n 0)).toArray := by
  apply Array.ext
  · simp [size_madeCells, u64s]
  · intro i h1 h2
    simp [madeCells, u64s, Value.cells, Nat.mod_one]
theorem info_u64d : (Tryz.prog.info? 24).map (fun i => (i.zero, i.size, i.bytes)) = some (some (.int .u64 0), 1, 8) := by kernel_rfl
theorem run_makeU (n : Nat) (hn : n ≤ 17592186044416) (w : World) :
    (Instr.makeSlice 22 (.int .i64 (n : Int)) (.int .i64 (n : Int))).run Tryz.prog w = .ok (.slice (some ⟨w.heap.size, 0, none⟩) n n) (w.alloc (.cells (u64s (List.replicate n 0)).toArray 24)) := by
  obtain ⟨i0, hi0, hz0, hz1, hz2⟩ := info_parts info_u64d
  have hr := run_make (P := Tryz.prog) w 22 24 i0 (.int .u64 0) Tryz.underlying22 hi0 hz0 .i64 .i64 n n (by omega) (by omega) (by rw [hz2]; omega) (by omega)
  simp only [Int.toNat_natCast] at hr
  rw [hr, hz1, cells_replU]
theorem W6.set_ {L : List Nat} (h : W6 L) (i x : Nat) (hx : x < 18446744073709551616) : W6 (L.set i x) := fun y hy => by
  rcases List.mem_or_eq_of_mem_set hy with h1 | h1
  · exact h y h1
  · rw [h1]; exact hx
set_option maxHeartbeats 2000000 in
theorem fother_any (A : Option Addr) (n c : Nat) (xs : List Nat) (w : World) (h : Uds w A n c xs) (hn : n ≤ 1048576) :
    Calls Tryz.prog 6 #[.slice A n c] w fun e w' => ∃ g ys, e = .returned (.slice (some ⟨g, 0, none⟩) n n) ∧ ys.length = n ∧ W6 ys ∧ RowU w' g ys ∧ w.heap.size ≤ g ∧ Ext w w' := by
  have hlx := h.len
  have hmk := run_makeU n (by omega) w
  have hr0 := RowU.new w (List.replicate n 0)
  have hE0 : Ext w (w.alloc (.cells (u64s (List.replicate n 0)).toArray 24)) := (Ext.refl w).alloc _
  obtain ⟨w1, hw1⟩ : ∃ w1, w1 = w.alloc (.cells (u64s (List.replicate n 0)).toArray 24) := ⟨_, rfl⟩
  rw [← hw1] at hmk hr0 hE0
  clear hw1
  obtain ⟨g, hg⟩ : ∃ g, g = w.heap.size := ⟨_, rfl⟩
  rw [← hg] at hmk hr0
  have hgl : w.heap.size ≤ g := by omega
  clear hg
  have Hlx := Lib.hid hlx
  have HWS := Lib.hid h.ws
  clear hlx
  go_enter Tryz.func6, Tryz.ntmps6
  go_wp2
  clear hmk
  go_loopw [4] (fun iv wr => ∃ (i : Nat) (L : List Nat), i ≤ n ∧ iv = .int .i64 i ∧ RowU wr g L ∧ Hid (L.length = n) ∧ Hid (L.take i = xs.take i) ∧ Ext w wr) (fun iv _ => n - (intOf iv).toNat)
  case atStart => exact ⟨0, _, Nat.zero_le _, rfl, hr0, Lib.hid (by simp), Lib.hid (by simp), hE0⟩
  case round =>
    obtain ⟨i, L, hi, rfl, hr, hLl, hrel, hEr⟩ := hrel
    by_cases hlt : i < n
    · have hiL : i < L.length := by rw [hLl.out]; exact hlt
      have hiT : i < xs.length := by rw [Hlx.out]; exact hlt
      have hc1 := hr.cell hiL
      have hf1 := hr.frozen i
      obtain ⟨ad, hx, rfl, _, hcX⟩ := (h.ext hEr).at_ hlt
      have hst := Lib.hid (take_step (x := xs[i]) hiL hiT hrel.out rfl)
      have hr2 := hr.set_ i xs[i]
      have hl2 := Lib.hid (show (L.set i xs[i]).length = n by rw [List.length_set]; exact hLl.out)
      generalize xs[i] = x at hcX hst hr2 hl2
      clear hrel hLl hiT
      go_wp2
      go_roundw
      case rel => exact ⟨i + 1, _, by omega, by go_num, hr2, hl2, hst, hEr.setCell hgl _⟩
      case measure => simp [intOf]; omega
    · have hie : i = n := by omega
      rw [hie] at hrel
      have hLe := list_end hLl.out Hlx.out hrel.out
      rw [hLe] at hr
      clear hrel hLl hLe hie
      by_cases h0 : n = 0
      · subst h0
        go_wp2
        go_ret
        exact ⟨g, xs, rfl, Hlx.out, HWS.out, hr, hgl, hEr⟩
      · obtain ⟨m, hm⟩ : ∃ m, m = n / 2 := ⟨_, rfl⟩
        have hmn : m < n := by omega
        have hme : (n : Int) / 2 = (m : Int) := by omega
        have hl1 : (xs.set m 4607182418800017408).length = n := by rw [List.length_set]; exact Hlx.out
        have hw1 := HWS.out.set_ m 4607182418800017408 (by omega)
        have c0 := hr.cell (k := m) (by rw [Hlx.out]; exact hmn)
        have f0 := hr.frozen m
        have hr1 := hr.set_ m 4607182418800017408
        have c1 := hr1.cell (k := 0) (by rw [hl1]; omega)
        have f1 := hr1.frozen 0
        have lx : (xs.set m 4607182418800017408)[0]'(by rw [hl1]; omega) < 18446744073709551616 := hw1 _ (List.getElem_mem _)
        generalize (xs.set m 4607182418800017408)[0]'(by rw [hl1]; omega) = x0 at c1 lx
        have hxor : bits .xor .u64 (x0 : Int) 9223372036854775808 = ((ng x0 : Nat) : Int) := by
          rw [show (9223372036854775808 : Int) = ((9223372036854775808 : Nat) : Int) from rfl, u64_xor_nat _ _ lx (by omega), ng_xor lx]
        have hr2 := hr1.set_ 0 (ng x0)
        have H2 := Lib.hid (And.intro (show ((xs.set m 4607182418800017408).set 0 (ng x0)).length = n by rw [List.length_set]; exact hl1) (hw1.set_ 0 (ng x0) (ng_lt lx)))
        have hE2 := (hEr.setCell (p := ⟨g, m, none⟩) hgl (.int .u64 ((4607182418800017408 : Nat) : Int))).setCell (p := ⟨g, 0, none⟩) hgl (.int .u64 ((ng x0 : Nat) : Int))
        have e1 : ((4607182418800017408 : Nat) : Int) = 4607182418800017408 := rfl
        rw [e1] at hr1 hr2 hE2 c1 f1
        have b0 : (0 : Int) < (n : Int) := by omega
        clear hm hl1 hw1 hr hr1 lx
        go_wp2
        go_ret
        exact ⟨g, _, rfl, H2.out.1, H2.out.2, hr2, hgl, hE2⟩
end Go.Proofs.YtfbjeifhpmdjaaaGreat

/-
  What stands while the laws of lists ask: the other list, the lists that are asked. Conditions: those that each theorem names.
-/
namespace Go.Proofs.YtfbjeifhpmdjaaaGreat
open Go.RowKit Nm Rn
set_option linter.unusedVariables false
set_option linter.unusedSimpArgs false

theorem RowU.uds {w : World} {g n : Nat} {ys : List Nat} (h : RowU w g ys) (h6 : W6 ys) (hl : ys.length = n) (hn : n ≤ 1048576) : Uds w (some ⟨g, 0, none⟩) n n ys :=
  ⟨hl, Nat.le_refl _, by unfold maxLen; omega, h6, fun _ => ⟨⟨g, 0, none⟩, rfl, Blk.lt h, fun k x hx => by
    rw [Addr.add_lit, Nat.zero_add]
    have hk : k < ys.length := (List.getElem?_eq_some_iff.1 hx).1
    rw [h.cell hk]
    rw [List.getElem?_eq_getElem hk] at hx
    injection hx with hx
    rw [hx]⟩⟩
theorem RowF.fds {w : World} {g n : Nat} {ys : List Nat} (h : RowF w g (ys ++ GF)) (h6 : W6 ys) (hl : ys.length = n) (hn : n ≤ 1048576) : Fds w (some ⟨g, 0, none⟩) n (n + 40) ys :=
  Fds.of_blk (ys := GF) h h6 hl (by omega) (by unfold maxLen; omega)
theorem RowU.only {w w' : World} {g b : Nat} {L : List Nat} (h : RowU w b L) (hb : b ≠ g) (ho : Only g w w') : RowU w' b L := (ho b hb).trans h
theorem RowF.only {w w' : World} {g b : Nat} {L : List Nat} (h : RowF w b L) (hb : b ≠ g) (ho : Only g w w') : RowF w' b L := (ho b hb).trans h
/-- The other list; the list that is asked first and written over; the second list. -/
structure D4 (w : World) (gv gx gy : Nat) (vs zs ys : List Nat) (wk : World) : Prop where
  rv : RowU wk gv vs
  rx : RowF wk gx (zs ++ GF)
  ry : RowF wk gy (ys ++ GF)
  ext : Ext w wk
  nv : gv ≠ gx
  ny : gy ≠ gx
theorem D4.ext_ {w : World} {gv gx gy : Nat} {vs zs ys : List Nat} {wk wl : World} (h : D4 w gv gx gy vs zs ys wk) (he : Ext wk wl) : D4 w gv gx gy vs zs ys wl :=
  ⟨Blk.ext h.rv he, h.rx.ext he, h.ry.ext he, h.ext.trans he, h.nv, h.ny⟩
theorem D4.placed {w : World} {gv gx gy : Nat} {vs zs zs' ys : List Nat} {wk wl : World} (h : D4 w gv gx gy vs zs ys wk) (hr : RowF wl gx (zs' ++ GF)) (he : ExtO w gx wk wl) : D4 w gv gx gy vs zs' ys wl :=
  ⟨h.rv.only h.nv he.2, hr, h.ry.only h.ny he.2, he.1, h.nv, h.ny⟩
end Go.Proofs.YtfbjeifhpmdjaaaGreat

/-
  Lists of patterns: how such an argument is opened. Conditions: those that each theorem names.
-/
namespace Go.Proofs.YtfbjeifhpmdjaaaGreat
open Go.ChangeShapes Go.WideShapes Go.ChangeAt Go.RowKit
set_option linter.unusedVariables false
set_option linter.unusedSimpArgs false

theorem list_ofu {α : Type} (Q : Nat → α → Prop) : ∀ n, (∀ i, i < n → ∃ q, Q i q) → ∃ ts : List α, ts.length = n ∧ ∀ i q, ts[i]? = some q → Q i q
  | 0, _ => ⟨[], rfl, fun i q h => by simp at h⟩
  | n + 1, h => by
    obtain ⟨ts, h1, h2⟩ := list_ofu Q n (fun i hi => h i (by omega))
    obtain ⟨q, hq⟩ := h n (by omega)
    refine ⟨ts ++ [q], by simp [h1], fun i r hr => ?_⟩
    rcases Nat.lt_or_ge i n with hi | hi
    · rw [List.getElem?_append_left (by omega)] at hr
      exact h2 i r hr
    · rw [List.getElem?_append_right (by omega)] at hr
      have hi0 : i = n := by
        rcases Nat.eq_or_lt_of_le hi with e | e
        · exact e.symm
        · rw [List.getElem?_eq_none (by simp; omega)] at hr; cases hr
      subst hi0
      rw [h1, Nat.sub_self] at hr
      simp at hr
      rw [← hr]
      exact hq
theorem cell_inu {w : World} {a : Addr} {v : Value} (h : w.cell? a = some v) : a.block < w.heap.size := by
  rcases Nat.lt_or_ge a.block w.heap.size with hl | hl
  · exact hl
  · unfold World.cell? at h
    rw [Array.getElem?_eq_none hl] at h
    cases h
theorem addr_add2u (a : Addr) (i j : Nat) : (a.add i).add j = a.add (i + j) := add_of_add a i j

theorem open_pats {H : Type} {enc : TypeId × Value → H} {P : Program} {W : World} {sp : Nat → Bool} {held : Bool} {r : Reach} {b0 : Nat} {t te : TypeId} {v : Value} {d : DataW H} {ps : List MemPlace}
    (ht : P.underlying t = some (.slice te)) (hu : P.underlying te = some (.int .u64)) (hc : P.cellsOf te = 1)
    (hval : Value.okWide P W r b0 t v) (hd : DataW.Trod enc P W 0 sp held t v d ps) : ∃ A n c xs, v = .slice A n c ∧ Uds W A n c xs ∧ ((d = .nil ∧ n = 0) ∨ ∃ es rs, d = .slice es rs ∧ es.length = n) := by
  obtain ⟨a0, n0, k0, rfl⟩ := okWide_slice ht hval
  obtain ⟨fuel, hf⟩ := hd
  rcases DataW.trod_slice ht hf with ⟨h1, hd1⟩ | ⟨a, len, cap, elems, rest, n, _, h1, hd1, _, hl, hm, hlen, hel, _, _⟩
  · simp [Value.cells] at h1
    obtain ⟨rfl, rfl, rfl⟩ := h1
    injection hd1 with hd1
    exact ⟨none, 0, 0, [], rfl, ⟨rfl, Nat.le_refl _, Nat.zero_le _, W6.nil, fun h => absurd h (by omega)⟩, .inl ⟨hd1, rfl⟩⟩
  · simp [Value.cells] at h1
    obtain ⟨rfl, rfl, rfl⟩ := h1
    have each : ∀ i, i < n0 → ∃ q : Nat, q < 18446744073709551616 ∧ W.cell? (a.add i) = some (.int .u64 (q : Int)) := fun i hi => by
      have h2 := hel i hi
      rw [List.getElem?_eq_getElem (by omega), Option.bind_eq_some_iff, hc] at h2
      obtain ⟨cs, hcs, hy⟩ := h2
      obtain ⟨_, hcl, hcc⟩ := World.cells?_some hcs
      match cs, hcl with
      | [v0], _ =>
        obtain ⟨m0, e0, _, w0⟩ := DataW.trod_int hu hy
        simp at e0
        subst e0
        have b0 := bounds_u64 w0
        obtain ⟨X, rfl⟩ := Int.eq_ofNat_of_zero_le b0.1
        have k0 := hcc 0 (by omega)
        rw [addr_add2u] at k0
        exact ⟨X, by omega, by simpa using k0⟩
    obtain ⟨ts, g1, g2⟩ := list_ofu _ n0 each
    injection hd1 with hd1
    refine ⟨some a, n0, k0, ts, rfl, ⟨g1, hl, hm, fun q hq => ?_, fun h0 => ⟨a, rfl, ?_, fun k q hq => ?_⟩⟩, .inr ⟨_, _, hd1, by simp [hlen]⟩⟩
    · obtain ⟨i, hi⟩ := List.getElem?_of_mem hq
      exact (g2 i q hi).1
    · obtain ⟨q, hq⟩ := each 0 h0
      have := cell_inu hq.2
      rw [block_of_add] at this
      exact this
    · exact (g2 k q hq).2
end Go.Proofs.YtfbjeifhpmdjaaaGreat

/-
  The walk of TotalDots. Conditions: those that each theorem names. 
-/
namespace Go.Proofs.YtfbjeifhpmdjaaaGreat
open Go.RowKit Nm Rn
set_option maxRecDepth 100000
set_option linter.unusedVariables false
set_option linter.unusedSimpArgs false

set_option maxHeartbeats 16000000 in
theorem dots_walk (d : Int) (A : Option Addr) (n c : Nat) (xs : List Nat) (B : Option Addr) (m k : Nat) (ys : List Nat) (w : World) (h : Uds w A n c xs) (h' : Uds w B m k ys) (hn : n ≤ 1048576) (hm : m ≤ 1048576) :
    Calls Tryz.prog 3 #[.int .i64 d, .slice A n c, .slice B m k] w fun e w' => e = .returned (.bool true) ∧ Ext w w' := by
  have HX := Lib.hid h
  have HY := Lib.hid h'
  have hx6 := h.ws
  have hy6 := h'.ws
  have hxl := h.len
  have hyl := h'.len
  have HX6 := Lib.hid hx6
  have HXL := Lib.hid hxl
  have HY6 := Lib.hid hy6
  have HYL := Lib.hid hyl
  have HL := Lib.hid (fun w => lives4_any w)
  have HOT := Lib.hid (fun w h => fother_any A n c xs w h hn)
  have HRX := Lib.hid (fun w h => froomy_any A n c xs w h hn)
  have HRY := Lib.hid (fun w h => froomy_any B m k ys w h hm)
  have HD1 := Lib.hid (fun w h h2 => ddot_any d A n c xs B m k ys w h h2)
  have HDS := Lib.hid (fun w h h2 => ddot_any d A n c xs A n c xs w h h2)
  have HP1 := Lib.hid (fun gx gy w h h2 => ldot_any d (some ⟨gx, 0, none⟩) n (n + 40) xs (some ⟨gy, 0, none⟩) m (m + 40) ys w h h2)
  have HPS := Lib.hid (fun gx w h h2 => ldot_any d (some ⟨gx, 0, none⟩) n (n + 40) xs (some ⟨gx, 0, none⟩) n (n + 40) xs w h h2)
  have HLX := Lib.hid (fun gx w h hr => fleft_any A n c gx xs w h hr hn)
  have HLY := Lib.hid (fun gy w h hr => fleft_any B m k gy ys w h hr hm)
  have HNN := Lib.hid hn
  have HMM := Lib.hid hm
  rw [if_pos rfl, if_pos rfl] at HDS HPS
  have HD2 := Lib.hid (fun gv vs w h h2 => ddot_any d (some ⟨gv, 0, none⟩) n n vs B m k ys w h h2)
  have HP2 := Lib.hid (fun gx gy vs w h h2 => ldot_any d (some ⟨gx, 0, none⟩) n (n + 40) vs (some ⟨gy, 0, none⟩) m (m + 40) ys w h h2)
  generalize (if n = m then (dotL xs ys).round d else 0 : Nat) = W1 at *
  generalize (if n = m then 0 else 1 : Int) = E at *
  generalize (dotL xs xs).round d = W3 at *
  clear hx6 hy6 hxl hyl h h'
  go_enter Tryz.func3, Tryz.ntmps3
  go_wp2_with fail
  refine (HOT.out _ HX.out).mono ?_
  rintro e w1 ⟨gv, vs, rfl, hvl, hv6, hrv, hgv, hE1⟩
  have HVL := Lib.hid hvl
  have HV6 := Lib.hid hv6
  clear hvl hv6 HOT
  have HD2 := Lib.hid (HD2.out gv vs)
  have HP2 := Lib.hid (fun gx gy => HP2.out gx gy vs)
  generalize (if n = m then (dotL vs ys).round d else 0 : Nat) = W2 at *
  go_wp2_with fail
  refine (HD1.out _ (HX.out.ext hE1) (HY.out.ext hE1)).mono ?_
  rintro e w2 ⟨rfl, hE2⟩
  have hE := hE1.trans hE2
  have hrv : RowU w2 gv vs := Blk.ext hrv hE2
  clear hE2
  go_wp2_with fail
  refine (HD2.out _ (hrv.uds HV6.out HVL.out HNN.out) (HY.out.ext hE)).mono ?_
  rintro e w3 ⟨rfl, hE2⟩
  have hE := hE.trans hE2
  have hrv : RowU w3 gv vs := Blk.ext hrv hE2
  clear hE2
  go_wp2_with fail
  refine (HRX.out _ (HX.out.ext hE)).mono ?_
  rintro e w4 ⟨gx, rfl, hrx, hgx, hE2⟩
  have hvx : gv ≠ gx := by have := Blk.lt hrv; omega
  have hgx0 : w.heap.size ≤ gx := by have := hE.size; omega
  have hE := hE.trans hE2
  have hrv : RowU w4 gv vs := Blk.ext hrv hE2
  clear hE2
  go_wp2_with fail
  refine (HRY.out _ (HY.out.ext hE)).mono ?_
  rintro e w5 ⟨gy, rfl, hry, hgy, hE2⟩
  have hyx : gy ≠ gx := by have := Blk.lt hrx; omega
  have hD : D4 w gv gx gy vs xs ys w5 := ⟨Blk.ext hrv hE2, hrx.ext hE2, hry, hE.trans hE2, hvx, hyx⟩
  clear hE2 hrv hrx hry hvx hyx hE hgx hgy hE1
  go_wp2_with fail
  refine (HP1.out gx gy _ (hD.rx.fds HX6.out HXL.out HNN.out) (hD.ry.fds HY6.out HYL.out HMM.out)).mono ?_
  rintro e w6 ⟨rfl, hE2⟩
  have hD := hD.ext_ hE2
  clear hE2
  go_wp2_with fail
  refine (HP1.out gx gy _ (hD.rx.fds HX6.out HXL.out HNN.out) (hD.ry.fds HY6.out HYL.out HMM.out)).mono ?_
  rintro e w6 ⟨rfl, hE2⟩
  have hD := hD.ext_ hE2
  clear hE2
  go_wp2_with fail
  refine (HLX.out gx _ (HX.out.ext hD.ext) hD.rx).mono ?_
  rintro e w6 ⟨rfl, hE2⟩
  have hD := hD.ext_ hE2
  clear hE2
  go_wp2_with fail
  refine (HLY.out gy _ (HY.out.ext hD.ext) hD.ry).mono ?_
  rintro e w6 ⟨rfl, hE2⟩
  have hD := hD.ext_ hE2
  clear hE2
  go_wp2_with fail
  refine (fplace_any gx n (n + 40) xs (some ⟨gv, 0, none⟩) n vs w _ hD.rx HXL.out HVL.out HNN.out (Lib.hid (fun w2 h2 => (hD.rv.only hD.nv h2.2).uds HV6.out HVL.out HNN.out)) hD.ext hgx0).mono ?_
  rintro e w7 ⟨rfl, hr2, hE2⟩
  have hD := hD.placed hr2 hE2
  clear hr2 hE2
  go_wp2_with fail
  refine (HP2.out gx gy _ (hD.rx.fds HV6.out HVL.out HNN.out) (hD.ry.fds HY6.out HYL.out HMM.out)).mono ?_
  rintro e w6 ⟨rfl, hE2⟩
  have hD := hD.ext_ hE2
  clear hE2
  go_wp2_with fail
  refine (fleft_any (some ⟨gv, 0, none⟩) n n gx vs _ (hD.rv.uds HV6.out HVL.out HNN.out) hD.rx HNN.out).mono ?_
  rintro e w6 ⟨rfl, hE2⟩
  have hD := hD.ext_ hE2
  clear hE2
  go_wp2_with fail
  refine (fplace_any gx n (n + 40) vs A c xs w _ hD.rx HVL.out HXL.out HNN.out (Lib.hid (fun w2 h2 => HX.out.ext h2.1)) hD.ext hgx0).mono ?_
  rintro e w7 ⟨rfl, hr2, hE2⟩
  have hD := hD.placed hr2 hE2
  clear hr2 hE2
  go_wp2_with fail
  refine (HDS.out _ (HX.out.ext hD.ext) (HX.out.ext hD.ext)).mono ?_
  rintro e w6 ⟨rfl, hE2⟩
  have hD := hD.ext_ hE2
  clear hE2
  go_wp2_with fail
  refine (HPS.out gx _ (hD.rx.fds HX6.out HXL.out HNN.out) (hD.rx.fds HX6.out HXL.out HNN.out)).mono ?_
  rintro e w6 ⟨rfl, hE2⟩
  have hD := hD.ext_ hE2
  clear hE2
  go_wp2_with fail
  refine (HLX.out gx _ (HX.out.ext hD.ext) hD.rx).mono ?_
  rintro e w6 ⟨rfl, hE2⟩
  have hD := hD.ext_ hE2
  clear hE2
  go_wp2_with fail
  refine (HP1.out gx gy _ (hD.rx.fds HX6.out HXL.out HNN.out) (hD.ry.fds HY6.out HYL.out HMM.out)).mono ?_
  rintro e w6 ⟨rfl, hE2⟩
  have hD := hD.ext_ hE2
  clear hE2
  go_wp2_with fail
  refine (HLX.out gx _ (HX.out.ext hD.ext) hD.rx).mono ?_
  rintro e w6 ⟨rfl, hE2⟩
  have hD := hD.ext_ hE2
  clear hE2
  go_wp2_with fail
  refine (HLY.out gy _ (HY.out.ext hD.ext) hD.ry).mono ?_
  rintro e w6 ⟨rfl, hE2⟩
  have hD := hD.ext_ hE2
  clear hE2
  go_wp2_with fail
  refine (HL.out _).mono ?_
  rintro e w9 ⟨rfl, hE2⟩
  have hD := hD.ext_ hE2
  go_wp2_with fail
  go_ret
  exact ⟨rfl, hD.ext⟩
end Go.Proofs.YtfbjeifhpmdjaaaGreat
