/-
  Plain: the program's root: how far it shifts, and what it finds. Conditions: those that each theorem names.
-/
import Derived.Test.YtmcfflecaklpcaaZ19
import Derived.Test.YtmcfflecaklpcaaZ09
import Derived.Test.YtmcfflecaklpcaaZ20
import Derived.Test.YtmcfflecaklpcaaZ21
import Derived.Test.YtmcfflecaklpcaaZ12
import Derived.Test.YtmcfflecaklpcaaZ03
import Derived.Test.YtmcfflecaklpcaaZ05
set_option linter.unusedVariables false
set_option linter.unusedSimpArgs false
namespace Go.Proofs.Ytmcfflecaklpcaa.Rn
open Nm

theorem root_at {V k X N r : Nat} {e x : Int} (h1 : r ^ N ≤ V * 2 ^ k) (h2 : V * 2 ^ k < (r + 1) ^ N) (he : (N : Int) * e = x - k) (hX : (X : Int) = x + 1074) :
    RootAt (V * 2 ^ X) K74 N (-e) r (decide (r ^ N ≠ V * 2 ^ k)) := by
  obtain ⟨T, hT, hK⟩ : ∃ T : Nat, T = 1074 ∧ K74 = 2 ^ T := ⟨1074, rfl, K74_def⟩
  rw [hK]
  have e1 : V * 2 ^ X * 2 ^ (k + T) = V * 2 ^ k * (2 ^ T * 2 ^ X) := by rw [Nat.pow_add]; simp only [Nat.mul_assoc, Nat.mul_comm, Nat.mul_left_comm]
  have hp : 0 < 2 ^ T * 2 ^ X := Nat.mul_pos (two_pow_pos T) (two_pow_pos X)
  refine ⟨k + T, X, ?_, ?_, ?_, ?_⟩
  · rw [Int.mul_neg, he]; push_cast; omega
  · rw [e1]; exact Nat.mul_le_mul_right _ h1
  · rw [e1]; exact Nat.mul_lt_mul_of_pos_right h2 hp
  · rw [e1]
    refine decide_eq_decide.2 (not_congr ⟨fun h => by rw [h], fun h => Nat.eq_of_mul_eq_mul_right hp h⟩)

/-- How far it shifts. -/
theorem shift_at (x : Int) (k0 : Nat) {N : Nat} (hN : 1 ≤ N) : ∃ kE : Nat, ∃ e : Int, k0 ≤ kE ∧ kE < k0 + N ∧ (N : Int) * e = x - kE ∧ (x - kE).tmod N = 0 ∧ (x - kE).tdiv N = e ∧ ∀ k : Nat, k0 ≤ k → k < kE → (x - (k : Int)).tmod N ≠ 0 := by
  have hN' : (0 : Int) < N := by omega
  have h1 := Int.emod_nonneg (x - k0) (show (N : Int) ≠ 0 by omega)
  have h2 := Int.emod_lt_of_pos (x - k0) hN'
  have h3 := Int.mul_ediv_add_emod (x - k0) N
  obtain ⟨E, hE⟩ : ∃ E : Nat, (E : Int) = (x - k0) % N := ⟨((x - k0) % N).toNat, by omega⟩
  rw [← hE] at h1 h2 h3
  obtain ⟨e, he⟩ : ∃ e, e = (x - k0) / (N : Int) := ⟨_, rfl⟩
  rw [← he] at h3
  have hx : x - ((k0 + E : Nat) : Int) = N * e := by push_cast; omega
  refine ⟨k0 + E, e, by omega, by omega, hx.symm, ?_, ?_, fun k hk1 hk2 h => ?_⟩
  · rw [hx]; exact Int.mul_tmod_right _ _
  · rw [hx]; exact Int.mul_tdiv_cancel_left _ (by omega)
  · have hd := Int.dvd_of_tmod_eq_zero h
    have hd2 : (N : Int) ∣ (x - (k : Int)) - N * e := Int.dvd_sub hd (Int.dvd_mul_right _ _)
    have hpos : 0 < (x - (k : Int)) - N * e := by rw [← hx]; push_cast; omega
    have := Int.le_of_dvd hpos hd2
    rw [← hx] at this
    push_cast at this
    omega

theorem root_long {V k N r : Nat} (hV : 1 ≤ V) (hN : 1 ≤ N) (hk : 58 * N ≤ bl V + k) (h2 : V * 2 ^ k < (r + 1) ^ N) : 55 ≤ bl r := by
  rcases Nat.lt_or_ge (bl r) 55 with h | h
  · exfalso
    have h3 := lt_pow_bl r
    have h4 : 2 ^ bl r ≤ 2 ^ 54 := Nat.pow_le_pow_right (by omega) (by omega)
    have h5 : (r + 1) ^ N ≤ (2 ^ 54) ^ N := Nat.pow_le_pow_left (by omega) N
    rw [← Nat.pow_mul] at h5
    have h6 := pow_le_of_bl (n := V * 2 ^ k) (Nat.ne_of_gt (Nat.mul_pos hV (two_pow_pos k)))
    rw [bl_mul_pow k (by omega)] at h6
    have h7 : 2 ^ (54 * N) ≤ 2 ^ (bl V + k - 1) := Nat.pow_le_pow_right (by omega) (by omega)
    omega
  · exact h
end Go.Proofs.Ytmcfflecaklpcaa.Rn

/-
  Plain, over whatever program: the boxes' cells alone; where a walk stands. Conditions: those that each theorem names.
-/
namespace Go.Proofs.Ytmcfflecaklpcaa
open Go Go.RowKit Nm
set_option linter.unusedVariables false
set_option linter.unusedSimpArgs false

/-- The cells of the boxes alone: what is told so keeps a store from being walked cell by cell. -/
def CC (w : World) (g : Nat) : Nat → List Value → Prop
  | _, [] => True
  | i, v :: vs => w.cell? ⟨g, i, none⟩ = some v ∧ CC w g (i + 1) vs
def BC (w : World) : List Bx → Prop
  | [] => True
  | b :: L => CC w b.g 0 b.cs ∧ BC w L
theorem CC.of {w : World} {g : Nat} : ∀ {i : Nat} {cs : List Value}, CF w g i cs → CC w g i cs
  | _, [], _ => trivial
  | _, _ :: _, h => ⟨h.1, CC.of h.2.2⟩
theorem BC.of {w : World} : ∀ {L : List Bx}, BF w L → BC w L
  | [], _ => trivial
  | _ :: _, h => ⟨CC.of h.2.1, BC.of h.2.2⟩
theorem Own.cells {w0 w : World} {L : List Bx} {W : List Sw} (h : Own w0 L W w) : BC w L := BC.of h.facts
section
variable {P : Program} {ops : Array Oper} {Q : Exit → Act → World → Prop} {a : Act} {w : World} {rest : List Oper} {T ty : TypeId} {ps : String} {af : Array Edge} {x y : Operand} {d : Tmp}
/-- Where the walk stands: each of these says nothing, and lets an arm be passed by quickly. -/
theorem at_store (h : wpList P ops Q ({ dst := none, op := .store T x y, type := ty, pos := ps, after := af, guard := none } :: rest) a w) : wpList P ops Q ({ dst := none, op := .store T x y, type := ty, pos := ps, after := af, guard := none } :: rest) a w := h
theorem at_box (h : wpList P ops Q ({ dst := some d, op := .box T x, type := ty, pos := ps, after := af, guard := none } :: rest) a w) : wpList P ops Q ({ dst := some d, op := .box T x, type := ty, pos := ps, after := af, guard := none } :: rest) a w := h
theorem at_alloc (h : wpList P ops Q ({ dst := some d, op := .alloc T, type := ty, pos := ps, after := af, guard := none } :: rest) a w) : wpList P ops Q ({ dst := some d, op := .alloc T, type := ty, pos := ps, after := af, guard := none } :: rest) a w := h
end
end Go.Proofs.Ytmcfflecaklpcaa

/-
  The contract of the program's inner root. Conditions: those that each theorem names.
-/
namespace Go.Proofs.Ytmcfflecaklpcaa
open Go.RowKit Nm Rn
set_option maxRecDepth 100000
set_option linter.unusedVariables false
set_option linter.unusedSimpArgs false

set_option maxHeartbeats 8000000 in
theorem root_any (d : Int) (neg : Bool) (A : Option Addr) (l c V X N : Nat) (x : Int) (w : World) (h : Wds w A l c (nd V)) (hV : 1 ≤ V) (hb : bl V ≤ 53) (hX : (X : Int) = x + 1074) (hx : x ≤ 2000) (n1 : 1 ≤ N) (n2 : N ≤ 1024) :
    Calls Try.prog 42 #[.int .i64 d, .agg #[.bool neg, .slice A l c, .int .i64 x], .int .i64 (N : Int)] w fun e w' => e = .returned (.float .f64 (rootV d neg (V * 2 ^ X) K74 N)) ∧ Ext w w' := by
  have hl := h.nwe
  have hnV : nw V ≤ 2 := by have := nw_bl V; omega
  have HL := Lib.hid (fun (w : World) (h : Wds w A l c (nd V)) => nlen_any A l c (nd V) w h (by omega))
  simp only [nv_nd] at HL
  obtain ⟨k0, hk0⟩ : ∃ k0 : Nat, 58 * (N : Int) - (bl V : Int) = (k0 : Int) := ⟨58 * N - bl V, by omega⟩
  have hk0p : 0 < k0 := by omega
  obtain ⟨kE, e, c1, c2, c3, c4, c5, c6⟩ := shift_at x k0 n1
  have HSH := Lib.hid (fun (w : World) (h : Wds w A l c (nd V)) => nshl_any A l c (nd V) kE w h (by omega) (by rw [nv_nd]; omega) (by rw [nv_nd]; omega))
  simp only [nv_nd] at HSH
  have hSb : bl (V * 2 ^ kE) = bl V + kE := bl_mul_pow kE (by omega)
  have hS1 : 1 ≤ V * 2 ^ kE := Nat.mul_pos hV (two_pow_pos kE)
  have hRA := fun (r : Nat) a b => root_at (V := V) (k := kE) (X := X) (N := N) (r := r) a b c3 hX
  have hRL := fun (r : Nat) a => root_long (V := V) (k := kE) (N := N) (r := r) hV n1 (by omega) a
  have hval := fun {r : Nat} {o : Bool} (hr : RootAt (V * 2 ^ X) K74 N (-e) r o) (hb : 55 ≤ bl r) => hr.val (by omega) K74_pos (fun _ => hb) d neg
  obtain ⟨R, hR⟩ : ∃ R, R = rootV d neg (V * 2 ^ X) K74 N := ⟨_, rfl⟩
  rw [← hR] at hval ⊢
  obtain ⟨S, hS⟩ : ∃ S, S = V * 2 ^ kE := ⟨_, rfl⟩
  rw [← hS] at HSH hSb hS1 hRA hRL
  have HW := Lib.hid (fun (A : Option Addr) (m c : Nat) (w : World) (h : Wds w A m c (nd S)) => whole_any (bl S) A m c S N w (Nat.le_refl _) h hS1 (by omega) n1 n2)
  have hSn := nw_of_bl (V := S) (by omega)
  have HF : Hid (∀ r, r ^ N ≤ S → S < (r + 1) ^ N → bl r * N ≤ 70000 ∧ bl r ≤ 70000 ∧ 55 ≤ bl r ∧ nw (r ^ N) ≤ 16384 ∧ rnd d neg (zd (2 * r + (decide (r ^ N ≠ S)).toNat) (e - 1)) = R) := Lib.hid (fun r a b => by
    have g1 := hRL r b
    have g2 := hval (hRA r a b) g1
    have g3 := root_bl n1 a (by rcases Nat.eq_zero_or_pos r with e0 | e0; rw [e0, bl_zero] at g1; omega; exact e0)
    rw [Nat.mul_comm] at g3
    have g4 : bl r * 1 ≤ bl r * N := Nat.mul_le_mul_left _ n1
    refine ⟨by omega, by omega, g1, ?_, ?_⟩
    · exact Nat.le_trans (nw_mono a) hSn
    · rw [← g2]; congr 2; omega)
  have he1 : -100000 ≤ e ∧ e ≤ 100000 := by
    have h1 : (N : Int) * e ≤ 2000 := by omega
    have h2 : -100000 ≤ (N : Int) * e := by omega
    constructor
    · rcases Int.lt_or_le e (-100000) with h3 | h3
      · exfalso
        have : (N : Int) * e ≤ 1 * e := Int.mul_le_mul_of_nonpos_right (by omega) (by omega)
        omega
      · exact h3
    · rcases Int.lt_or_le 100000 e with h3 | h3
      · exfalso
        have : 1 * e ≤ (N : Int) * e := Int.mul_le_mul_of_nonneg_right (by omega) (by omega)
        omega
      · exact h3
  obtain ⟨he1, he2⟩ := he1
  have hO := (Own.start w).add h
  have HC6 := Lib.hid c6
  obtain ⟨B, hB⟩ : ∃ B, B = bl V := ⟨_, rfl⟩
  rw [← hB] at HL hk0 hb hSb
  have hkE : kE ≤ 70000 := by omega
  have hx1 : -1074 ≤ x := by omega
  clear hR hval hRA hRL hS hSb hS1 hl hnV h hX c3 c6 hB hV
  go_enter Try.func42, Try.ntmps42
  go_wp2_with (first | ((with_reducible refine at_box (T := 71) ?_); refine own_box (cs := [.bool neg, .slice A l c, .int .i64 x]) hO rfl rfl ?_; clear hO; intro ga wa hO; have hf := hO.cells; simp only [BC, CC, Nat.zero_add, Nat.reduceAdd, and_true] at hf))
  refine (HL.out _ (hO.wd 0 rfl)).mono ?_
  rintro e' w1 ⟨rfl, rfl⟩
  clear HL
  go_wp2
  go_loop [7] (fun kv => ∃ k : Nat, kv = .int .i64 (k : Int) ∧ k0 ≤ k ∧ k ≤ kE) (fun kv => (kE - intOf kv).toNat)
  case atStart => exact ⟨k0, by first | rfl | (congr 1; omega), by omega, by omega⟩
  case round =>
    obtain ⟨k, rfl, hk1, hk2⟩ := hrel
    by_cases hlt : k < kE
    · obtain ⟨T, hT⟩ : ∃ T, (x - (k : Int)).tmod (N : Int) = T := ⟨_, rfl⟩
      have hT0 : T ≠ 0 := by rw [← hT]; exact HC6.out k hk1 hlt
      have hN0 : (N : Int) ≠ 0 := by omega
      go_wp2
      go_round
      case rel => exact ⟨k + 1, by go_num, by omega, by omega⟩
      case measure => simp only [intOf]; omega
    · have hke : k = kE := by omega
      subst hke
      have hN0 : (N : Int) ≠ 0 := by omega
      have hNn : ¬ N = 0 := by omega
      have hwx : IntKind.i64.wrap (x - (k : Int)) = x - (k : Int) := by rw [IntKind.wrap_i64]; omega
      have hwe : IntKind.i64.wrap e = e := by rw [IntKind.wrap_i64]; omega
      have HQ := Lib.hid (And.intro hwx (And.intro c5 hwe))
      have hO' := hO
      clear hwx hwe
      clear hlt hk1 hk2 hk0 HC6
      go_wp2_with fail
      refine (HSH.out _ (hO.wd 0 rfl)).mono ?_
      rintro e' w2 ⟨A2, n2', c2', rfl, hW2, hE2⟩
      go_wp2_with fail
      refine (HW.out _ _ _ _ hW2).mono ?_
      rintro e' w3 ⟨A3, n3, c3, r, rfl, hW3, hE3, hF⟩
      obtain ⟨z1, z2, z3, z4, z5⟩ := HF.out r hF.out.1 hF.out.2
      have h3 := hW3.nwe
      have hr3 := nw_of_bl (V := r) (by omega)
      have HP := Lib.hid (fun (w : World) (h : Wds w A3 n3 c3 (nd r)) => npow_any A3 n3 c3 (nd r) N w h (by omega) (by omega) (by rw [nv_nd]; omega) (by rw [nv_nd]; omega))
      simp only [nv_nd] at HP
      have h2 := hW2.nwe
      have HC := Lib.hid (fun (A : Option Addr) (n c : Nat) (w : World) (h : Wds w A n c (nd (r ^ N))) (k : Wds w A2 n2' c2' (nd S)) => ncmp_any A n c (nd (r ^ N)) A2 n2' c2' (nd S) w h (by have := h.nwe; omega) k (by omega))
      simp only [nv_nd] at HC
      have HOF := Lib.hid (fun (more : Bool) (w : World) (h : Wds w A3 n3 c3 (nd r)) => of_any d neg A3 n3 c3 (nd r) e more w h (by omega) (by rw [nv_nd]; exact hr3) (by omega) (by omega) (fun _ => by rw [nv_nd]; exact z3))
      simp only [nv_nd] at HOF
      obtain ⟨o, ho⟩ : ∃ o, o = decide (r ^ N ≠ S) := ⟨_, rfl⟩
      rw [← ho] at z5
      have hcmp : (!(cmpN (r ^ N) S == 0)) = o := by
        rw [ho]
        unfold cmpN
        by_cases h1 : r ^ N < S
        · rw [if_pos h1, decide_eq_true (show r ^ N ≠ S by omega)]; rfl
        · rw [if_neg h1]
          by_cases h2 : S < r ^ N
          · rw [if_pos h2, decide_eq_true (show r ^ N ≠ S by omega)]; rfl
          · rw [if_neg h2, decide_eq_false (show ¬ r ^ N ≠ S by omega)]; rfl
      obtain ⟨cc, hcc⟩ : ∃ cc, cc = cmpN (r ^ N) S := ⟨_, rfl⟩
      rw [← hcc] at HC hcmp
      have hco : (cc = 0 ∧ o = false) ∨ (cc = 1 ∧ o = true) ∨ (cc = -1 ∧ o = true) := by
        have hv : cc = 0 ∨ cc = 1 ∨ cc = -1 := by rw [hcc]; unfold cmpN; split; simp; split <;> simp
        rcases hv with h | h | h
        · exact .inl ⟨h, by rw [← hcmp, h]; rfl⟩
        · exact .inr (.inl ⟨h, by rw [← hcmp, h]; rfl⟩)
        · exact .inr (.inr ⟨h, by rw [← hcmp, h]; rfl⟩)
      have HO := Lib.hid (fun (w : World) (h : Wds w A3 n3 c3 (nd r)) => HOF.out o w h)
      rw [z5] at HO
      clear HOF z5 hcc hcmp ho HF HW hF z1 z2 z3 z4 h2 h3 hr3
      have hO3 := ((hO.ext (hE2.trans hE3)).add hW3).add (hW2.ext hE3)
      clear hO hO' hf
      have hf := hO3.cells
      simp only [BC, CC, Nat.zero_add, Nat.reduceAdd, and_true] at hf
      go_wp2_with fail
      refine (HP.out _ hW3).mono ?_
      rintro e' w4 ⟨A4, n4, c4', rfl, hW4, hE4⟩
      have hO4 := (hO3.ext hE4).add hW4
      clear hf
      have hf := hO4.cells
      simp only [BC, CC, Nat.zero_add, Nat.reduceAdd, and_true] at hf
      rcases hco with ⟨rfl, rfl⟩ | ⟨rfl, rfl⟩ | ⟨rfl, rfl⟩
      · go_wp2_with fail
        refine wp_region_steady (Own w [⟨ga, 71, [.bool neg, .slice A l c, .int .i64 x]⟩] [⟨A4, n4, c4', nd (r ^ N)⟩, ⟨A2, n2', c2', nd S⟩, ⟨A3, n3, c3, nd r⟩, ⟨A, l, c, nd V⟩]) (by kernel_rfl) (by kernel_rfl) (hO4.ext (Ext.refl w4).drew) ?_
        repeat (refine wpG_step (fun K hK => ?_)
                go_simp
                apply StepG.mk
                intro wz hz
                have hf := hz.cells
                simp only [BC, CC, Nat.zero_add, Nat.reduceAdd, and_true] at hf
                first
                | (go_simp
                   first | exact rfl | exact ⟨rfl, hz⟩)
                | (go_simp
                   rw [if_neg hNn, HQ.out.1, HQ.out.2.1, HQ.out.2.2]
                   exact ⟨rfl, hz⟩)
                | (go_simp
                   go_at_call 95
                   (with_reducible refine (HC.out _ _ _ _ (hz.wd 0 rfl) (hz.wd 1 rfl)).mono ?_)
                   rintro e' w8 ⟨rfl, q, rfl⟩
                   exact ⟨rfl, hz.ext ((Ext.refl _).drewN q)⟩)
                | (go_simp
                   rw [HQ.out.1, HQ.out.2.1, HQ.out.2.2]
                   go_at_call 94
                   (with_reducible refine (HO.out _ (hz.wd 2 rfl)).mono ?_)
                   rintro e' w8 ⟨rfl, hE8⟩
                   exact ⟨rfl, hz.ext hE8⟩)
                refine hK _ ?_
                clear hK K)
        refine wpG_nil ?_
        intro w5 hO5
        go_wp2
        go_ret
        exact ⟨rfl, hO5.toExt⟩
      · go_wp2_with fail
        refine wp_region_steady (Own w [⟨ga, 71, [.bool neg, .slice A l c, .int .i64 x]⟩] [⟨A4, n4, c4', nd (r ^ N)⟩, ⟨A2, n2', c2', nd S⟩, ⟨A3, n3, c3, nd r⟩, ⟨A, l, c, nd V⟩]) (by kernel_rfl) (by kernel_rfl) (hO4.ext (Ext.refl w4).drew) ?_
        repeat (refine wpG_step (fun K hK => ?_)
                go_simp
                apply StepG.mk
                intro wz hz
                have hf := hz.cells
                simp only [BC, CC, Nat.zero_add, Nat.reduceAdd, and_true] at hf
                first
                | (go_simp
                   first | exact rfl | exact ⟨rfl, hz⟩)
                | (go_simp
                   rw [if_neg hNn, HQ.out.1, HQ.out.2.1, HQ.out.2.2]
                   exact ⟨rfl, hz⟩)
                | (go_simp
                   go_at_call 95
                   (with_reducible refine (HC.out _ _ _ _ (hz.wd 0 rfl) (hz.wd 1 rfl)).mono ?_)
                   rintro e' w8 ⟨rfl, q, rfl⟩
                   exact ⟨rfl, hz.ext ((Ext.refl _).drewN q)⟩)
                | (go_simp
                   rw [HQ.out.1, HQ.out.2.1, HQ.out.2.2]
                   go_at_call 94
                   (with_reducible refine (HO.out _ (hz.wd 2 rfl)).mono ?_)
                   rintro e' w8 ⟨rfl, hE8⟩
                   exact ⟨rfl, hz.ext hE8⟩)
                refine hK _ ?_
                clear hK K)
        refine wpG_nil ?_
        intro w5 hO5
        go_wp2
        go_ret
        exact ⟨rfl, hO5.toExt⟩
      · go_wp2_with fail
        refine wp_region_steady (Own w [⟨ga, 71, [.bool neg, .slice A l c, .int .i64 x]⟩] [⟨A4, n4, c4', nd (r ^ N)⟩, ⟨A2, n2', c2', nd S⟩, ⟨A3, n3, c3, nd r⟩, ⟨A, l, c, nd V⟩]) (by kernel_rfl) (by kernel_rfl) (hO4.ext (Ext.refl w4).drew) ?_
        repeat (refine wpG_step (fun K hK => ?_)
                go_simp
                apply StepG.mk
                intro wz hz
                have hf := hz.cells
                simp only [BC, CC, Nat.zero_add, Nat.reduceAdd, and_true] at hf
                first
                | (go_simp
                   first | exact rfl | exact ⟨rfl, hz⟩)
                | (go_simp
                   rw [if_neg hNn, HQ.out.1, HQ.out.2.1, HQ.out.2.2]
                   exact ⟨rfl, hz⟩)
                | (go_simp
                   go_at_call 95
                   (with_reducible refine (HC.out _ _ _ _ (hz.wd 0 rfl) (hz.wd 1 rfl)).mono ?_)
                   rintro e' w8 ⟨rfl, q, rfl⟩
                   exact ⟨rfl, hz.ext ((Ext.refl _).drewN q)⟩)
                | (go_simp
                   rw [HQ.out.1, HQ.out.2.1, HQ.out.2.2]
                   go_at_call 94
                   (with_reducible refine (HO.out _ (hz.wd 2 rfl)).mono ?_)
                   rintro e' w8 ⟨rfl, hE8⟩
                   exact ⟨rfl, hz.ext hE8⟩)
                refine hK _ ?_
                clear hK K)
        refine wpG_nil ?_
        intro w5 hO5
        go_wp2
        go_ret
        exact ⟨rfl, hO5.toExt⟩
end Go.Proofs.Ytmcfflecaklpcaa

/-
  The contracts of the program's quick road: plain, middle, nudge, halves, missed, odd; math.Nextafter. Conditions: those that each theorem names.
-/
namespace Go.Proofs.Ytmcfflecaklpcaa
open Go.RowKit Nm Rn
set_option maxRecDepth 100000
set_option linter.unusedVariables false
set_option linter.unusedSimpArgs false

set_option maxHeartbeats 400000 in
theorem rplain_any (b : Nat) (w : World) (h : b < 18446744073709551616) :
    Calls Try.prog 49 #[.float .f64 b] w fun e w' => e = .returned (.float .f64 (pl b)) ∧ w = w' := by
  have hq := fo_eq h (show 0 < 18446744073709551616 by omega)
  rw [eq0 h] at hq
  by_cases h0 : b = 0 ∨ b = 9223372036854775808
  · rw [decide_eq_true h0] at hq
    have HF : Hid (0 = pl b) := Lib.hid (by unfold pl; rcases h0 with h0 | h0 <;> subst h0 <;> rfl)
    clear h0 h
    go_enter Try.func49, Try.ntmps49
    go_wp2
    go_ret
    exact ⟨ret_float HF.out, rfl⟩
  · rw [decide_eq_false h0] at hq
    have HF : Hid (b = pl b) := Lib.hid (by unfold pl; rw [if_neg (fun h => h0 (.inr h))])
    clear h0 h
    go_enter Try.func49, Try.ntmps49
    go_wp2
    go_ret
    exact ⟨ret_float HF.out, rfl⟩

/-- The next pattern up, and down. -/
def nup (s : Nat) : Nat := if mg s = 0 then 1 else if sg s then s - 1 else s + 1
def ndn (s : Nat) : Nat := if mg s = 0 then 9223372036854775809 else if sg s then s + 1 else s - 1
theorem fin_bd {s : Nat} (hs : s < 18446744073709551616) (h : mg s < infR) : s < 9218868437227405312 ∨ (9223372036854775808 ≤ s ∧ s < 18442240474082181120) := by
  rw [infR_val] at h
  unfold mg at h
  omega
theorem pl_nup {s : Nat} (hs : s < 18446744073709551616) (h : mg s < infR) : pl (nup s) = kp (key s + 1) ∧ nup s < 18446744073709551616 := by
  have hb := fin_bd hs h
  unfold nup pl kp pat key sg
  by_cases h0 : mg s = 0
  · rw [if_pos h0, h0]
    refine ⟨?_, by omega⟩
    by_cases h1 : 9223372036854775808 ≤ s <;> simp [h1]
  · rw [if_neg h0]
    have hm : mg s = if 9223372036854775808 ≤ s then s - 9223372036854775808 else s := by unfold mg; split <;> omega
    by_cases h1 : 9223372036854775808 ≤ s
    · rw [if_pos h1] at hm
      simp only [h1, decide_true, if_true]
      rw [hm] at h0 ⊢
      refine ⟨?_, by omega⟩
      by_cases h2 : s = 9223372036854775809
      · subst h2; rfl
      · rw [if_neg (by omega), if_neg (by omega), decide_eq_true (by omega), if_pos rfl]
        omega
    · rw [if_neg h1] at hm
      simp only [h1, decide_false, Bool.false_eq_true, if_false]
      rw [hm] at h0 ⊢
      refine ⟨?_, by omega⟩
      rw [if_neg (by omega), if_neg (by omega), decide_eq_false (by omega), if_neg (by simp)]
      omega
theorem pl_ndn {s : Nat} (hs : s < 18446744073709551616) (h : mg s < infR) : pl (ndn s) = kp (key s - 1) ∧ ndn s < 18446744073709551616 := by
  have hb := fin_bd hs h
  unfold ndn pl kp pat key sg
  by_cases h0 : mg s = 0
  · rw [if_pos h0, h0]
    refine ⟨?_, by omega⟩
    by_cases h1 : 9223372036854775808 ≤ s <;> simp [h1]
  · rw [if_neg h0]
    have hm : mg s = if 9223372036854775808 ≤ s then s - 9223372036854775808 else s := by unfold mg; split <;> omega
    by_cases h1 : 9223372036854775808 ≤ s
    · rw [if_pos h1] at hm
      simp only [h1, decide_true, if_true]
      rw [hm] at h0 ⊢
      refine ⟨?_, by omega⟩
      rw [if_neg (by omega), if_neg (by omega), decide_eq_true (by omega), if_pos rfl]
      omega
    · rw [if_neg h1] at hm
      simp only [h1, decide_false, Bool.false_eq_true, if_false]
      rw [hm] at h0 ⊢
      refine ⟨?_, by omega⟩
      by_cases h2 : s = 1
      · subst h2; rfl
      · rw [if_neg (by omega), if_neg (by omega), decide_eq_false (by omega), if_neg (by simp)]
        omega

theorem csign_p (w : World) : Calls Try.prog 145 #[.float .f64 1, .float .f64 infR] w fun e w' => e = .returned (.float .f64 1) ∧ w = w' := by
  have h1 : bits .andNot .u64 1 9223372036854775808 = 1 := by decide
  have h2 : bits .and .u64 (infR : Int) 9223372036854775808 = 0 := by decide
  have h3 : bits .or .u64 1 0 = 1 := by decide
  go_enter Try.func145, Try.ntmps145
  go_wp2
  go_ret
  exact ⟨rfl, rfl⟩
theorem csign_m (w : World) : Calls Try.prog 145 #[.float .f64 1, .float .f64 minf] w fun e w' => e = .returned (.float .f64 9223372036854775809) ∧ w = w' := by
  have h1 : bits .andNot .u64 1 9223372036854775808 = 1 := by decide
  have h2 : bits .and .u64 (minf : Int) 9223372036854775808 = 9223372036854775808 := by decide
  have h3 : bits .or .u64 1 9223372036854775808 = 9223372036854775809 := by decide
  go_enter Try.func145, Try.ntmps145
  go_wp2
  go_ret
  exact ⟨rfl, rfl⟩

set_option maxHeartbeats 2000000 in
theorem next_up (s : Nat) (w : World) (hs : s < 18446744073709551616) (hf : mg s < infR) :
    Calls Try.prog 103 #[.float .f64 s, .float .f64 infR] w fun e w' => e = .returned (.float .f64 (nup s)) ∧ w = w' := by
  have hb := fin_bd hs hf
  have hns : isNaN s = false := by unfold isNaN; exact decide_eq_false (by omega)
  have hN1 := fun w => mnan_any s w hs
  have hN2 := fun w => mnan_any infR w infR_lt
  rw [hns] at hN1
  rw [nan_inf] at hN2
  have q1 := fo_eq hs infR_lt
  have e1 : eqB s infR = false := by
    unfold eqB; rw [hns, nan_inf, key_inf]
    have hk : key s ≠ 9218868437227405312 := by unfold key mg sg; split <;> omega
    simp [hk]
  rw [e1] at q1
  have q2 := fo_eq hs (show 0 < 18446744073709551616 by omega)
  rw [eq0 hs] at q2
  have q3 := fo_gt infR_lt hs
  have e3 : ltB s infR = true := by
    unfold ltB; rw [hns, nan_inf, key_inf]
    have hk : key s < 9218868437227405312 := by unfold key mg sg; split <;> omega
    simp [hk]
  rw [e3] at q3
  have q4 := fo_gt hs (show 0 < 18446744073709551616 by omega)
  have e4 : ltB 0 s = (decide (mg s ≠ 0) && !sg s) := by
    unfold ltB; rw [hns, show isNaN 0 = false from rfl, show key 0 = 0 from rfl]
    unfold key
    cases sg s
    · rw [Bool.eq_iff_iff]; simp; omega
    · simp
  rw [e4] at q4
  have HN1 := Lib.hid hN1
  have HN2 := Lib.hid hN2
  have HC := Lib.hid (fun w => csign_p w)
  clear hns hN1 hN2 e1 e3 e4
  by_cases h0 : mg s = 0
  · have h00 : s = 0 ∨ s = 9223372036854775808 := by unfold mg at h0; omega
    rw [decide_eq_true h00] at q2
    have HF : Hid (1 = nup s) := Lib.hid (by unfold nup; rw [if_pos h0])
    clear h0 h00 q4 q3 hb hf hs
    go_enter Try.func103, Try.ntmps103
    go_wp2_with (first | (go_at_call 39; ((with_reducible refine (HN1.out _).mono ?_); rintro e w' ⟨rfl, rfl⟩)) | (go_at_call 39; ((with_reducible refine (HN2.out _).mono ?_); rintro e w' ⟨rfl, rfl⟩)) | (go_at_call 145; refine (HC.out _).mono ?_; rintro e w' ⟨rfl, rfl⟩))
    go_ret
    exact ⟨ret_float HF.out, rfl⟩
  · have h00 : ¬ (s = 0 ∨ s = 9223372036854775808) := by unfold mg at h0; omega
    rw [decide_eq_false h00] at q2
    rw [decide_eq_true h0, Bool.true_and] at q4
    have hsv : sg s = decide (9223372036854775808 ≤ s) := rfl
    have HF : Hid ((if sg s = true then s - 1 else s + 1) = nup s) := Lib.hid (by unfold nup; rw [if_neg h0])
    obtain ⟨S, hS⟩ : ∃ S, S = sg s := ⟨_, rfl⟩
    rw [← hS] at q4 HF hsv
    have hs1 : 1 ≤ s := by omega
    have hs2 : s ≤ 18442240474082181119 := by omega
    clear h0 h00 hb hf hs hS hsv
    cases S
    all_goals
      go_enter Try.func103, Try.ntmps103
      go_wp2_with (first | (go_at_call 39; ((with_reducible refine (HN1.out _).mono ?_); rintro e w' ⟨rfl, rfl⟩)) | (go_at_call 39; ((with_reducible refine (HN2.out _).mono ?_); rintro e w' ⟨rfl, rfl⟩)) | (go_at_call 145; refine (HC.out _).mono ?_; rintro e w' ⟨rfl, rfl⟩))
      go_ret
      exact ⟨ret_float (by rw [← HF.out]; first | rfl | (simp; omega)), rfl⟩
set_option maxHeartbeats 2000000 in
theorem next_down (s : Nat) (w : World) (hs : s < 18446744073709551616) (hf : mg s < infR) :
    Calls Try.prog 103 #[.float .f64 s, .float .f64 minf] w fun e w' => e = .returned (.float .f64 (ndn s)) ∧ w = w' := by
  have hb := fin_bd hs hf
  have hns : isNaN s = false := by unfold isNaN; exact decide_eq_false (by omega)
  have hN1 := fun w => mnan_any s w hs
  have hN2 := fun w => mnan_any minf w minf_lt
  rw [hns] at hN1
  rw [nan_minf] at hN2
  have q1 := fo_eq hs minf_lt
  have e1 : eqB s minf = false := by
    unfold eqB; rw [hns, nan_minf, key_minf]
    have hk : key s ≠ -9218868437227405312 := by unfold key mg sg; split <;> omega
    simp [hk]
  rw [e1] at q1
  have q2 := fo_eq hs (show 0 < 18446744073709551616 by omega)
  rw [eq0 hs] at q2
  have q3 := fo_gt minf_lt hs
  have e3 : ltB s minf = false := by
    unfold ltB; rw [hns, nan_minf, key_minf]
    have hk : ¬ key s < -9218868437227405312 := by unfold key mg sg; split <;> omega
    simp [hk]
  rw [e3] at q3
  have q4 := fo_gt hs (show 0 < 18446744073709551616 by omega)
  have e4 : ltB 0 s = (decide (mg s ≠ 0) && !sg s) := by
    unfold ltB; rw [hns, show isNaN 0 = false from rfl, show key 0 = 0 from rfl]
    unfold key
    cases sg s
    · rw [Bool.eq_iff_iff]; simp; omega
    · simp
  rw [e4] at q4
  have HN1 := Lib.hid hN1
  have HN2 := Lib.hid hN2
  have HC := Lib.hid (fun w => csign_m w)
  clear hns hN1 hN2 e1 e3 e4
  by_cases h0 : mg s = 0
  · have h00 : s = 0 ∨ s = 9223372036854775808 := by unfold mg at h0; omega
    rw [decide_eq_true h00] at q2
    have HF : Hid (9223372036854775809 = ndn s) := Lib.hid (by unfold ndn; rw [if_pos h0])
    clear h0 h00 q4 q3 hb hf hs
    go_enter Try.func103, Try.ntmps103
    go_wp2_with (first | (go_at_call 39; ((with_reducible refine (HN1.out _).mono ?_); rintro e w' ⟨rfl, rfl⟩)) | (go_at_call 39; ((with_reducible refine (HN2.out _).mono ?_); rintro e w' ⟨rfl, rfl⟩)) | (go_at_call 145; refine (HC.out _).mono ?_; rintro e w' ⟨rfl, rfl⟩))
    go_ret
    exact ⟨ret_float HF.out, rfl⟩
  · have h00 : ¬ (s = 0 ∨ s = 9223372036854775808) := by unfold mg at h0; omega
    rw [decide_eq_false h00] at q2
    rw [decide_eq_true h0, Bool.true_and] at q4
    have hsv : sg s = decide (9223372036854775808 ≤ s) := rfl
    have HF : Hid ((if sg s = true then s + 1 else s - 1) = ndn s) := Lib.hid (by unfold ndn; rw [if_neg h0])
    obtain ⟨S, hS⟩ : ∃ S, S = sg s := ⟨_, rfl⟩
    rw [← hS] at q4 HF hsv
    have hs1 : 1 ≤ s := by omega
    have hs2 : s ≤ 18442240474082181119 := by omega
    clear h0 h00 hb hf hs hS hsv
    cases S
    all_goals
      go_enter Try.func103, Try.ntmps103
      go_wp2_with (first | (go_at_call 39; ((with_reducible refine (HN1.out _).mono ?_); rintro e w' ⟨rfl, rfl⟩)) | (go_at_call 39; ((with_reducible refine (HN2.out _).mono ?_); rintro e w' ⟨rfl, rfl⟩)) | (go_at_call 145; refine (HC.out _).mono ?_; rintro e w' ⟨rfl, rfl⟩))
      go_ret
      exact ⟨ret_float (by rw [← HF.out]; first | rfl | (simp; omega)), rfl⟩

set_option maxHeartbeats 2000000 in
/-- nudge: the pattern s, and something of e's sign. -/
theorem nudge_any (d : Int) (s e : Nat) (E : Int) (w : World) (hs : s < 18446744073709551616) (hf : mg s < infR) (he : e < 18446744073709551616) (h1 : ltB e 0 = decide (E < 0)) (h2 : ltB 0 e = decide (0 < E)) :
    Calls Try.prog 54 #[.int .i64 d, .float .f64 s, .float .f64 e] w fun en w' => en = .returned (.float .f64 (kp (key s + adj d E))) ∧ w = w' := by
  have q1 := fo_lt he (show 0 < 18446744073709551616 by omega)
  have q2 := fo_gt he (show 0 < 18446744073709551616 by omega)
  rw [h1] at q1
  rw [h2] at q2
  have hU := pl_nup hs hf
  have hD := pl_ndn hs hf
  have HP := Lib.hid (fun w => rplain_any s w hs)
  have HPU := Lib.hid (fun w => rplain_any (nup s) w hU.2)
  have HPD := Lib.hid (fun w => rplain_any (ndn s) w hD.2)
  have HNU := Lib.hid (fun w => next_up s w hs hf)
  have HND := Lib.hid (fun w => next_down s w hs hf)
  have HI := Lib.hid (fun w => inf_p w)
  have HJ := Lib.hid (fun w => inf_m w)
  have hK := kp_key hs
  have hcase : ((d == -1) = true ∧ (d == 1) = false) ∨ ((d == -1) = false ∧ (d == 1) = true) ∨ ((d == -1) = false ∧ (d == 1) = false) := by
    by_cases a : d = -1
    · left; subst a; exact ⟨rfl, rfl⟩
    · by_cases b : d = 1
      · right; left; subst b; exact ⟨rfl, rfl⟩
      · right; right; simp [a, b]
  have hres : ∃ R, R = kp (key s + adj d E) ∧ (((d == -1) = true ∧ decide (E < 0) = true ∧ R = pl (ndn s)) ∨ ((d == -1) = true ∧ decide (E < 0) = false ∧ R = pl s) ∨ ((d == 1) = true ∧ decide (0 < E) = true ∧ R = pl (nup s)) ∨ ((d == 1) = true ∧ decide (0 < E) = false ∧ R = pl s) ∨ ((d == -1) = false ∧ (d == 1) = false ∧ R = pl s)) := by
    refine ⟨_, rfl, ?_⟩
    unfold adj
    rw [hD.1, hU.1, ← hK]
    by_cases a : d = -1
    · subst a
      by_cases b : E < 0
      · left; simp [b]; rfl
      · right; left; simp [b]
    · by_cases a2 : d = 1
      · subst a2
        by_cases b : 0 < E
        · right; right; left; simp [b]
        · right; right; right; left; simp [b]
      · right; right; right; right
        simp [a, a2]
  obtain ⟨R, hR, hr⟩ := hres
  rw [← hR]
  generalize decide (E < 0) = b1 at *
  generalize decide (0 < E) = b2 at *
  generalize ndn s = sd at *
  generalize nup s = su at *
  clear hR hK hU hD h1 h2 hs hf he
  rcases hcase with ⟨c1, c2⟩ | ⟨c1, c2⟩ | ⟨c1, c2⟩
  all_goals
    rw [c1, c2] at hr
    simp only [Bool.false_eq_true, Bool.true_eq_false, true_and, false_and, or_false, false_or] at hr
  · rcases hr with ⟨rfl, hr⟩ | ⟨rfl, hr⟩
    all_goals
      have HR := Lib.hid hr
      clear hr
      go_enter Try.func54, Try.ntmps54
      go_wp2_with (first | (go_at_call 104; ((with_reducible refine (HI.out _).mono ?_); rintro e w' ⟨rfl, rfl⟩)) | (go_at_call 104; ((with_reducible refine (HJ.out _).mono ?_); rintro e w' ⟨rfl, rfl⟩)) | (go_at_call 103; ((with_reducible refine (HNU.out _).mono ?_); rintro e w' ⟨rfl, rfl⟩)) | (go_at_call 103; ((with_reducible refine (HND.out _).mono ?_); rintro e w' ⟨rfl, rfl⟩)) | (go_at_call 49; ((with_reducible refine (HP.out _).mono ?_); rintro e w' ⟨rfl, rfl⟩)) | (go_at_call 49; ((with_reducible refine (HPU.out _).mono ?_); rintro e w' ⟨rfl, rfl⟩)) | (go_at_call 49; ((with_reducible refine (HPD.out _).mono ?_); rintro e w' ⟨rfl, rfl⟩)))
      go_ret
      exact ⟨ret_float HR.out.symm, rfl⟩
  · rcases hr with ⟨rfl, hr⟩ | ⟨rfl, hr⟩
    all_goals
      have HR := Lib.hid hr
      clear hr
      go_enter Try.func54, Try.ntmps54
      go_wp2_with (first | (go_at_call 104; ((with_reducible refine (HI.out _).mono ?_); rintro e w' ⟨rfl, rfl⟩)) | (go_at_call 104; ((with_reducible refine (HJ.out _).mono ?_); rintro e w' ⟨rfl, rfl⟩)) | (go_at_call 103; ((with_reducible refine (HNU.out _).mono ?_); rintro e w' ⟨rfl, rfl⟩)) | (go_at_call 103; ((with_reducible refine (HND.out _).mono ?_); rintro e w' ⟨rfl, rfl⟩)) | (go_at_call 49; ((with_reducible refine (HP.out _).mono ?_); rintro e w' ⟨rfl, rfl⟩)) | (go_at_call 49; ((with_reducible refine (HPU.out _).mono ?_); rintro e w' ⟨rfl, rfl⟩)) | (go_at_call 49; ((with_reducible refine (HPD.out _).mono ?_); rintro e w' ⟨rfl, rfl⟩)))
      go_ret
      exact ⟨ret_float HR.out.symm, rfl⟩
  · have HR := Lib.hid hr
    clear hr
    go_enter Try.func54, Try.ntmps54
    go_wp2_with (go_at_call 49; refine (HP.out _).mono ?_; rintro e w' ⟨rfl, rfl⟩)
    go_ret
    exact ⟨ret_float HR.out.symm, rfl⟩
end Go.Proofs.Ytmcfflecaklpcaa
