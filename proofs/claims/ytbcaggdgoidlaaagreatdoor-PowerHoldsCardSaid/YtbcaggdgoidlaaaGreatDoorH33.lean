/-
 The contracts of the program's steps of one number: sign, floor, ceil, trunc, the nearest. Conditions: those that each theorem names.
-/
import Derived.Test.YtbcaggdgoidlaaaGreatDoorH32
import Derived.Test.YtbcaggdgoidlaaaGreatDoorH09
import Derived.Test.YtbcaggdgoidlaaaGreatDoorH07
import Derived.Test.YtbcaggdgoidlaaaGreatDoorH06
import Derived.Test.YtbcaggdgoidlaaaGreatDoorH29
import Derived.Test.YtbcaggdgoidlaaaGreatDoorH12
import Derived.Test.YtbcaggdgoidlaaaGreatDoorH27
import Derived.Test.YtbcaggdgoidlaaaGreatDoorH20
namespace Go.Proofs.YtbcaggdgoidlaaaGreatDoor
open Go.RowKit Nm Rn
set_option maxRecDepth 100000
set_option linter.unusedVariables false
set_option linter.unusedSimpArgs false
theorem toInt_run {way : Ieee.Toward} {k : Nat} (hw : (way = .down ∧ k = 1) ∨ (way = .up ∧ k = 2) ∨ (way = .zero ∧ k = 3) ∨ (way = .even ∧ k = 4)) (nm : String) {x : Nat} (hx : x < 18446744073709551616) (hn : isNaN x = false) (P : Program) (w : World) :
   (Extern.MathFloor.toIntegral nm way #[.float .f64 x]).run P w = .ok (.float .f64 (stP k x)) w := by
 have h := integral_eq hw hx hn
 have hnn : ∀ s t, Ieee.double.read x ≠ .nan s t := by
   intro s t e
   unfold isNaN at hn
   have hn' := of_decide_eq_false hn
   by_cases hf : mg x < infR
   · obtain ⟨m, e2, hr, _, _⟩ := read_fin hx hf
     rw [hr] at e
     cases e
   · rw [read_inf hx (by omega)] at e
     cases e
 have e : Extern.MathFloor.toIntegral nm way #[.float .f64 x] = (match Ieee.double.read x with
   | .nan s t =>
     if FloatKind.f64.format.quiet t = t then pure (.float .f64 x) else do
     let kept ← choose (.extern "math.Floor,Ceil,Trunc,RoundToEven.signallingNaN kept" 2)
     pure (.float .f64 (if kept == 1 then x else FloatKind.f64.encode (.nan s (FloatKind.f64.format.quiet t))))
   | d => pure (.float .f64 (Ieee.double.write (d.integral way)))) := rfl
 rw [e]
 cases hr : Ieee.double.read x with
 | nan s t => exact absurd hr (hnn s t)
 | number s m i =>
   rw [hr] at h
   show (pure (Value.float .f64 (Ieee.double.write ((Ieee.Datum.number s m i).integral way))) : Sem Value).run P w = _
   rw [h]
   rfl
 | infinity s =>
   rw [hr] at h
   show (pure (Value.float .f64 (Ieee.double.write ((Ieee.Datum.infinity s).integral way))) : Sem Value).run P w = _
   rw [h]
   rfl
theorem callFloor {x : Nat} (hx : x < 18446744073709551616) (hn : isNaN x = false) (w : World) : (callFunc 88 #[.float .f64 x]).run Tryz.prog w = .ok (.value (.float .f64 (stP 1 x))) w := by
 have h : (callFunc 88 #[.float .f64 x]).run Tryz.prog w = ((Extern.MathFloor.toIntegral "math.archFloor" .down #[.float .f64 x]).run Tryz.prog w).andThen fun v w' => .ok (.value v) w' :=
   run_callFunc_extern Tryz.func88 (by kernel_rfl) (by kernel_rfl) (by kernel_rfl) (by kernel_rfl) _ w
 rw [h, toInt_run (.inl ⟨rfl, rfl⟩) _ hx hn]
 rfl
theorem callCeil {x : Nat} (hx : x < 18446744073709551616) (hn : isNaN x = false) (w : World) : (callFunc 90 #[.float .f64 x]).run Tryz.prog w = .ok (.value (.float .f64 (stP 2 x))) w := by
 have h : (callFunc 90 #[.float .f64 x]).run Tryz.prog w = ((Extern.MathFloor.toIntegral "math.archCeil" .up #[.float .f64 x]).run Tryz.prog w).andThen fun v w' => .ok (.value v) w' :=
   run_callFunc_extern Tryz.func90 (by kernel_rfl) (by kernel_rfl) (by kernel_rfl) (by kernel_rfl) _ w
 rw [h, toInt_run (.inr (.inl ⟨rfl, rfl⟩)) _ hx hn]
 rfl
theorem callTrunc {x : Nat} (hx : x < 18446744073709551616) (hn : isNaN x = false) (w : World) : (callFunc 92 #[.float .f64 x]).run Tryz.prog w = .ok (.value (.float .f64 (stP 3 x))) w := by
 have h : (callFunc 92 #[.float .f64 x]).run Tryz.prog w = ((Extern.MathFloor.toIntegral "math.archTrunc" .zero #[.float .f64 x]).run Tryz.prog w).andThen fun v w' => .ok (.value v) w' :=
   run_callFunc_extern Tryz.func92 (by kernel_rfl) (by kernel_rfl) (by kernel_rfl) (by kernel_rfl) _ w
 rw [h, toInt_run (.inr (.inr (.inl ⟨rfl, rfl⟩))) _ hx hn]
 rfl
theorem callEven {x : Nat} (hx : x < 18446744073709551616) (hn : isNaN x = false) (w : World) : (callFunc 57 #[.float .f64 x]).run Tryz.prog w = .ok (.value (.float .f64 (stP 4 x))) w := by
 have h : (callFunc 57 #[.float .f64 x]).run Tryz.prog w = ((Extern.MathFloor.toIntegral "math.RoundToEven" .even #[.float .f64 x]).run Tryz.prog w).andThen fun v w' => .ok (.value v) w' :=
   run_callFunc_extern Tryz.func57 (by kernel_rfl) (by kernel_rfl) (by kernel_rfl) (by kernel_rfl) _ w
 rw [h, toInt_run (.inr (.inr (.inr ⟨rfl, rfl⟩))) _ hx hn]
 rfl
set_option maxHeartbeats 400000 in
theorem mfloor_any {x : Nat} (hx : x < 18446744073709551616) (hn : isNaN x = false) (w : World) : Calls Tryz.prog 74 #[.float .f64 x] w fun e w' => e = .returned (.float .f64 (stP 1 x)) ∧ w = w' := by
 have hd := fun w => callFloor hx hn w
 obtain ⟨r, hr⟩ : ∃ r, r = stP 1 x := ⟨_, rfl⟩
 rw [← hr] at hd ⊢
 clear hr
 go_enter Tryz.func74, Tryz.ntmps74
 go_wp2
 go_ret
 exact ⟨rfl, rfl⟩
set_option maxHeartbeats 400000 in
theorem mceil_any {x : Nat} (hx : x < 18446744073709551616) (hn : isNaN x = false) (w : World) : Calls Tryz.prog 75 #[.float .f64 x] w fun e w' => e = .returned (.float .f64 (stP 2 x)) ∧ w = w' := by
 have hd := fun w => callCeil hx hn w
 obtain ⟨r, hr⟩ : ∃ r, r = stP 2 x := ⟨_, rfl⟩
 rw [← hr] at hd ⊢
 clear hr
 go_enter Tryz.func75, Tryz.ntmps75
 go_wp2
 go_ret
 exact ⟨rfl, rfl⟩
set_option maxHeartbeats 400000 in
theorem mtrunc_any {x : Nat} (hx : x < 18446744073709551616) (hn : isNaN x = false) (w : World) : Calls Tryz.prog 76 #[.float .f64 x] w fun e w' => e = .returned (.float .f64 (stP 3 x)) ∧ w = w' := by
 have hd := fun w => callTrunc hx hn w
 obtain ⟨r, hr⟩ : ∃ r, r = stP 3 x := ⟨_, rfl⟩
 rw [← hr] at hd ⊢
 clear hr
 go_enter Tryz.func76, Tryz.ntmps76
 go_wp2
 go_ret
 exact ⟨rfl, rfl⟩
def sgP (x : Nat) : Nat := if key x < 0 then 13830554455654793216 else if 0 < key x then 4607182418800017408 else 0
set_option maxHeartbeats 400000 in
theorem psign_any {x : Nat} (hx : x < 18446744073709551616) (hn : isNaN x = false) (w : World) : Calls Tryz.prog 73 #[.float .f64 x] w fun e w' => e = .returned (.float .f64 (sgP x)) ∧ w = w' := by
 have z0 : (0 : Nat) < 18446744073709551616 := by omega
 have n0 : isNaN 0 = false := rfl
 have k0 : key 0 = 0 := rfl
 have hl := fo_lt hx z0
 have hg := fo_gt hx z0
 unfold ltB at hl hg
 rw [hn, n0, k0] at hl hg
 simp only [Bool.not_false, Bool.true_and] at hl hg
 unfold sgP
 by_cases h1 : key x < 0
 · rw [if_pos h1]
   rw [decide_eq_true h1] at hl
   clear hg h1 hn
   go_enter Tryz.func73, Tryz.ntmps73
   go_wp2
   go_ret
   exact ⟨rfl, rfl⟩
 · rw [if_neg h1]
   rw [decide_eq_false h1] at hl
   by_cases h2 : 0 < key x
   · rw [if_pos h2]
     rw [decide_eq_true h2] at hg
     clear h1 h2 hn
     go_enter Tryz.func73, Tryz.ntmps73
     go_wp2
     go_ret
     exact ⟨rfl, rfl⟩
   · rw [if_neg h2]
     rw [decide_eq_false h2] at hg
     clear h1 h2 hn
     go_enter Tryz.func73, Tryz.ntmps73
     go_wp2
     go_ret
     exact ⟨rfl, rfl⟩
end Go.Proofs.YtbcaggdgoidlaaaGreatDoor

set_option linter.unusedVariables false
set_option linter.unusedSimpArgs false
set_option maxRecDepth 100000
namespace Go.Proofs.YtbcaggdgoidlaaaGreatDoor
open Nm Rn
noncomputable def stF (k x : Nat) : Nat := if k = 0 then sgP x else stP k x
noncomputable def piLo (k x1 x2 : Nat) : Nat := if emp x1 x2 then infR else rdLo (stF k (rdLo x1 x2)) (stF k (rdHi x1 x2))
noncomputable def piHi (k x1 x2 : Nat) : Nat := if emp x1 x2 then minf else rdHi (stF k (rdLo x1 x2)) (stF k (rdHi x1 x2))
theorem stQ_mono (k : Nat) (s : Bool) {T T' K : Nat} (hK : 0 < K) (h : T ≤ T') : stQ k s T K ≤ stQ k s T' K := by
 have hq := Nat.div_le_div_right (c := K) h
 have h1 := Nat.div_add_mod T K
 have h2 := Nat.div_add_mod T' K
 rcases Nat.lt_or_eq_of_le hq with g | g
 · have a := Bool.toNat_le (stMo k s T K)
   unfold stQ
   omega
 · unfold stQ
   rw [g] at h1 ⊢
   have hr : T % K ≤ T' % K := by omega
   have : (stMo k s T K).toNat ≤ (stMo k s T' K).toNat := by
     have himp : stMo k s T K = true → stMo k s T' K = true := by
       unfold stMo
       rw [g]
       split
       · cases s
         · simp
         · simp; omega
       · split
         · cases s
           · simp; omega
           · simp
         · split
           · simp
           · simp only [Bool.or_eq_true, Bool.and_eq_true, decide_eq_true_eq]
             intro hh
             rcases hh with hh | ⟨hh, hh2⟩
             · left; omega
             · rcases Nat.lt_or_eq_of_le hr with c | c
               · left; omega
               · right; exact ⟨by omega, hh2⟩
     cases hc : stMo k s T K
     · simp
     · rw [himp hc]; exact Nat.le_refl _
   omega
theorem stR_mono (k : Nat) (s : Bool) {f g : Nat} (h : f ≤ g) : stR k s f ≤ stR k s g := by
 unfold stR
 exact rung_mono (Nat.mul_le_mul_right _ (stQ_mono k s K74_pos (rv_le h)))
noncomputable def stM' (k : Nat) (s : Bool) (m : Nat) : Nat := if m < infR then stR k s m else m
theorem stM_mono (k : Nat) (s : Bool) {f g : Nat} (hg : g ≤ infR) (h : f ≤ g) : stM' k s f ≤ stM' k s g := by
 unfold stM'
 split
 · rename_i h1
   split
   · exact stR_mono k s h
   · have := (stR_spec h1 k s).1
     omega
 · rename_i h1
   rw [if_neg (by omega)]
   exact h
theorem stM_lt (k : Nat) (s : Bool) {f : Nat} (h : f < infR) : stM' k s f < infR := by
 unfold stM'
 rw [if_pos h]
 exact (stR_spec h k s).1
theorem stP_word {k x : Nat} (hx : x < 18446744073709551616) (hn : isNaN x = false) : stP k x = Ieee.double.word (sg x) (stM' k (sg x) (mg x)) ∧ stM' k (sg x) (mg x) ≤ infR := by
 unfold isNaN at hn
 have hn' := of_decide_eq_false hn
 unfold stP stM'
 by_cases h : mg x < infR
 · rw [if_pos h, if_pos h]
   exact ⟨rfl, Nat.le_of_lt (stR_spec h k (sg x)).1⟩
 · rw [if_neg h, if_neg h]
   refine ⟨?_, by omega⟩
   rw [word_eq]
   exact split_pat hx
theorem key_word {s : Bool} {r : Nat} (hr : r ≤ infR) : key (Ieee.double.word s r) = (if s then -(r : Int) else (r : Int)) ∧ isNaN (Ieee.double.word s r) = false ∧ Ieee.double.word s r < 18446744073709551616 := by
 have hi := infR_val
 have h1 : r < 9223372036854775808 := by omega
 refine ⟨?_, ?_, word_lt h1⟩
 · unfold key
   rw [sg_word h1, mg_word h1]
 · unfold isNaN
   rw [mg_word h1]
   exact decide_eq_false (by omega)
theorem pl_word {s : Bool} {r : Nat} (hr : r ≤ infR) : pl (Ieee.double.word s r) = pat s r := by
 have hi := infR_val
 cases s
 · show (if r = 9223372036854775808 then 0 else r) = (if r = 0 then 0 else r)
   rw [if_neg (by omega)]
   split <;> omega
 · show (if 9223372036854775808 + r = 9223372036854775808 then 0 else 9223372036854775808 + r) = (if r = 0 then 0 else 9223372036854775808 + r)
   by_cases h0 : r = 0
   · rw [if_pos h0, if_pos (by omega)]
   · rw [if_neg h0, if_neg (by omega)]
theorem one_rv : rv 4607182418800017408 = 1 * K74 := by
 obtain ⟨c, hc, hK⟩ : ∃ c : Nat, c = 1074 ∧ K74 = 2 ^ c := ⟨1074, rfl, K74_def⟩
 rw [show (4607182418800017408 : Nat) = (c - 52) * 4503599627370496 + 4503599627370496 by omega, rv_form (c - 52) 4503599627370496 (by omega) (fun _ => Nat.le_refl _), hK, show (4503599627370496 : Nat) = 2 ^ 52 by decide, ← Nat.pow_add, Nat.one_mul]
 congr 1
 omega
theorem key_sg {x : Nat} : (key x < 0 ↔ sg x = true ∧ mg x ≠ 0) ∧ (0 < key x ↔ sg x = false ∧ mg x ≠ 0) := by
 unfold key
 cases sg x
 · simp; omega
 · simp; omega
theorem sgP_pl {x : Nat} : sgP x = (if mg x = 0 then 0 else pat (sg x) 4607182418800017408) := by
 obtain ⟨k1, k2⟩ := key_sg (x := x)
 unfold sgP
 by_cases h0 : mg x = 0
 · rw [if_neg (fun h => (k1.1 h).2 h0), if_neg (fun h => (k2.1 h).2 h0), if_pos h0]
 · rw [if_neg h0]
   cases hs : sg x
   · rw [if_neg (fun h => by have := (k1.1 h).1; rw [hs] at this; cases this), if_pos (k2.2 ⟨hs, h0⟩)]
     rfl
   · rw [if_pos (k1.2 ⟨hs, h0⟩)]
     rfl
theorem key_one (s : Bool) : key (pat s 4607182418800017408) = (if s then -4607182418800017408 else 4607182418800017408) ∧ isNaN (pat s 4607182418800017408) = false ∧ pat s 4607182418800017408 < 18446744073709551616 ∧ pl (pat s 4607182418800017408) = pat s 4607182418800017408 := by
 cases s <;> decide
theorem stF_facts (k : Nat) {x : Nat} (hx : x < 18446744073709551616) (hn : isNaN x = false) :
   stF k x < 18446744073709551616 ∧ isNaN (stF k x) = false ∧
     key (stF k x) = (if k = 0 then (if mg x = 0 then 0 else if sg x then -4607182418800017408 else 4607182418800017408) else if sg x then -(stM' k (sg x) (mg x) : Int) else (stM' k (sg x) (mg x) : Int)) ∧
     pl (stF k x) = (if k = 0 then (if mg x = 0 then 0 else pat (sg x) 4607182418800017408) else pat (sg x) (stM' k (sg x) (mg x))) := by
 unfold stF
 by_cases hk : k = 0
 · rw [if_pos hk, if_pos hk, if_pos hk, sgP_pl]
   obtain ⟨a1, a2, a3, a4⟩ := key_one (sg x)
   by_cases h0 : mg x = 0
   · rw [if_pos h0, if_pos h0]; decide
   · rw [if_neg h0, if_neg h0]; exact ⟨a3, a2, a1, a4⟩
 · rw [if_neg hk, if_neg hk, if_neg hk]
   obtain ⟨e, hle⟩ := stP_word (k := k) hx hn
   rw [e]
   obtain ⟨a1, a2, a3⟩ := key_word (s := sg x) hle
   exact ⟨a3, a2, a1, pl_word hle⟩
theorem stF_mono (k : Nat) {x y : Nat} (hx : x < 18446744073709551616) (hy : y < 18446744073709551616) (nx : isNaN x = false) (ny : isNaN y = false) (h : key x ≤ key y) : key (stF k x) ≤ key (stF k y) := by
 rw [(stF_facts k hx nx).2.2.1, (stF_facts k hy ny).2.2.1]
 have mx : mg x ≤ infR := by unfold isNaN at nx; have := of_decide_eq_false nx; omega
 have my : mg y ≤ infR := by unfold isNaN at ny; have := of_decide_eq_false ny; omega
 unfold key at h
 by_cases hk : k = 0
 · rw [if_pos hk, if_pos hk]
   cases hs : sg x <;> cases ht : sg y <;> rw [hs, ht] at h <;> simp only [Bool.false_eq_true, if_false, if_true] at h ⊢ <;> repeat' split
   all_goals omega
 · rw [if_neg hk, if_neg hk]
   cases hs : sg x <;> cases ht : sg y <;> rw [hs, ht] at h <;> simp only [Bool.false_eq_true, if_false, if_true] at h ⊢
   · have := stM_mono k false my (show mg x ≤ mg y by omega)
     omega
   · have e1 : mg x = 0 := by omega
     have e2 : mg y = 0 := by omega
     have z : ∀ s, stM' k s 0 = 0 := fun s => by
       unfold stM'
       rw [if_pos (by decide)]
       unfold stR
       rw [rv_zero]
       have hq : stQ k s 0 K74 = 0 := by
         have hK := K74_pos
         unfold stQ stMo
         rw [Nat.zero_div, Nat.zero_mod]
         have c1 : decide (K74 < 2 * 0) = false := decide_eq_false (by omega)
         have c2 : decide (2 * 0 = K74) = false := decide_eq_false (by omega)
         rw [c1, c2]
         simp
       rw [hq, Nat.zero_mul]
       exact rung_zero
     rw [e1, e2, z, z]
     simp
   · omega
   · have := stM_mono k true mx (show mg y ≤ mg x by omega)
     omega
theorem stF_snd (k : Nat) {a b : Nat} (g1 : a < 18446744073709551616) (g2 : b < 18446744073709551616) (g3 : isNaN a = false) (g4 : isNaN b = false) (g5 : a ≠ infR) (g6 : b ≠ minf) (g8 : key a ≤ key b) : sndB (stF k a) (stF k b) = true := by
 obtain ⟨a1, a2, a3, a4⟩ := stF_facts k g1 g3
 obtain ⟨b1, b2, b3, b4⟩ := stF_facts k g2 g4
 have hi := infR_val
 have hm := minf_val
 have ma : mg a ≤ infR := by unfold isNaN at g3; have := of_decide_eq_false g3; omega
 have mb : mg b ≤ infR := by unfold isNaN at g4; have := of_decide_eq_false g4; omega
 have h1 := stF_mono k g1 g2 g3 g4 g8
 have h2 : key (stF k a) < 9218868437227405312 := by
   rw [a3]
   by_cases hk : k = 0
   · rw [if_pos hk]; repeat' split
     all_goals omega
   · rw [if_neg hk]
     split
     · omega
     · rename_i hsa
       have : mg a < infR := by
         rcases Nat.lt_or_ge (mg a) infR with h | h
         · exact h
         · exfalso
           apply g5
           have hsf : sg a = false := by cases hh : sg a; rfl; exact absurd hh hsa
           have := split_pat g1
           rw [hsf] at this
           simp at this
           omega
       have := stM_lt k (sg a) this
       omega
 have h3 : -9218868437227405312 < key (stF k b) := by
   rw [b3]
   by_cases hk : k = 0
   · rw [if_pos hk]; repeat' split
     all_goals omega
   · rw [if_neg hk]
     split
     · rename_i hsb
       have : mg b < infR := by
         rcases Nat.lt_or_ge (mg b) infR with h | h
         · exact h
         · exfalso
           apply g6
           have := split_pat g2
           rw [hsb] at this
           simp at this
           omega
       have := stM_lt k (sg b) this
       omega
     · omega
 unfold sndB leB ltB
 rw [a2, b2, nan_inf, nan_minf, key_inf, key_minf, decide_eq_true h1, decide_eq_true h2, decide_eq_true h3]
 rfl
end Go.Proofs.YtbcaggdgoidlaaaGreatDoor

namespace Go.Proofs.YtbcaggdgoidlaaaGreatDoor
open Go.RowKit Nm Rn
set_option maxRecDepth 100000
set_option linter.unusedVariables false
set_option linter.unusedSimpArgs false
theorem fr_one (q : Nat) : fracN q 1 0 = q ∧ fracD q 1 0 = 1 := by
 have hv := frac_val (n := q) (d := 1) (e := 0) (p := 0) (q := 0) rfl
 have hd := fracD_le_z (n := q) (d := 1) (by omega)
 have hp := fracD_pos (n := q) (d := 1) 0 (by omega)
 have e1 : fracD q 1 0 = 1 := by omega
 rw [e1] at hv
 simp at hv
 exact ⟨hv, e1⟩
def RetBW (b : Bool) (V : Nat) (w : World) (e : Ending) (w' : World) : Prop := ∃ A n c, e = .returned (.tuple #[.bool b, .slice A n c]) ∧ Wds w' A n c (nd V) ∧ Ext w w'
set_option maxHeartbeats 2000000 in
theorem rfloor_f (A : Option Addr) (l c : Nat) (B : Option Addr) (k d N D : Nat) (w : World) (h : RatAt w A l c B k d N D) (hN : nw N ≤ 1073741824) (hD : nw D ≤ 1073741824) (hp : 0 < D) :
   Calls Tryz.prog 78 #[.agg #[.bool false, .slice A l c, .slice B k d]] w (RetBW false (N / D) w) := by
 have hlb : l ≤ 1073741824 := by have := h.lenN; omega
 have hkb : k ≤ 1073741824 := by have := h.lenD; omega
 have HBY : Hid (∀ w, Wds w A l c (nd N) → Wds w B k d (nd D) → Calls Tryz.prog 94 #[.slice A l c, .slice B k d] w (RetWW (N / D) (N % D) w)) := Lib.hid (fun w h1 h2 => by
   have := by_any A l c (nd N) B k d (nd D) w h1 (by omega) h2 (by omega) (by rw [nv_nd]; exact hp)
   rwa [nv_nd, nv_nd] at this)
 have hqn : nw (N / D) ≤ 1073741824 := Nat.le_trans (nw_mono (Nat.div_le_self N D)) hN
 obtain ⟨q, hq⟩ : ∃ q, q = N / D := ⟨_, rfl⟩
 obtain ⟨r, hr⟩ : ∃ r, r = N % D := ⟨_, rfl⟩
 rw [← hq, ← hr] at HBY
 rw [← hq] at hqn
 have hO := ((Own.start w).add h.1).add h.2
 have hf : True := trivial
 rw [← hq]
 clear hq hr h hN hD hp
 go_enter Tryz.func78, Tryz.ntmps78
 go_wp2_with ((with_reducible refine at_box ?_); refine own_box (cs := [.bool false, .slice A l c, .slice B k d]) hO rfl rfl ?_; clear hO; intro ga wa hO; clear hf; have hf := hO.cells; simp only [BC, CC, Nat.zero_add, Nat.reduceAdd, and_true] at hf)
 refine (HBY.out _ (hO.wd 1 rfl) (hO.wd 0 rfl)).mono ?_
 rintro e w2 ⟨A1, n1, c1, A2, n2, c2, rfl, hW1, hW2, hE1⟩
 have hl1 : n1 = nw q := by have := hW1.len; rw [nd_length] at this; omega
 have hl2 : n2 = nw r := by have := hW2.len; rw [nd_length] at this; omega
 have hO := ((hO.ext hE1).add hW1).add hW2
 clear hW1 hW2 hE1
 clear hf
 have hf := hO.cells
 simp only [BC, CC, Nat.zero_add, Nat.reduceAdd, and_true] at hf
 clear hl1 hl2 hqn
 go_wp2
 go_ret2
 exact ⟨_, _, _, rfl, hO.wd 1 rfl, hO.toExt⟩
set_option maxHeartbeats 2000000 in
theorem rfloor_t0 (A : Option Addr) (l c : Nat) (B : Option Addr) (k d N D : Nat) (w : World) (h : RatAt w A l c B k d N D) (hN : nw N ≤ 1073741824) (hD : nw D ≤ 1073741824) (hp : 0 < D) (hz : N % D = 0) :
   Calls Tryz.prog 78 #[.agg #[.bool true, .slice A l c, .slice B k d]] w (RetBW (decide (N / D ≠ 0)) (N / D) w) := by
 have hlb : l ≤ 1073741824 := by have := h.lenN; omega
 have hkb : k ≤ 1073741824 := by have := h.lenD; omega
 have HBY : Hid (∀ w, Wds w A l c (nd N) → Wds w B k d (nd D) → Calls Tryz.prog 94 #[.slice A l c, .slice B k d] w (RetWW (N / D) (N % D) w)) := Lib.hid (fun w h1 h2 => by
   have := by_any A l c (nd N) B k d (nd D) w h1 (by omega) h2 (by omega) (by rw [nv_nd]; exact hp)
   rwa [nv_nd, nv_nd] at this)
 have hqn : nw (N / D) ≤ 1073741824 := Nat.le_trans (nw_mono (Nat.div_le_self N D)) hN
 obtain ⟨q, hq⟩ : ∃ q, q = N / D := ⟨_, rfl⟩
 obtain ⟨r, hr⟩ : ∃ r, r = N % D := ⟨_, rfl⟩
 rw [← hq, ← hr] at HBY
 rw [← hq] at hqn
 have hO := ((Own.start w).add h.1).add h.2
 have hf : True := trivial
 rw [← hq]
 rw [← hr] at hz
 obtain ⟨bb, hbb⟩ : ∃ b, b = decide (q ≠ 0) := ⟨_, rfl⟩
 rw [← hbb]
 have HBB := Lib.hid hbb
 clear hbb
 clear hq hr h hN hD hp
 go_enter Tryz.func78, Tryz.ntmps78
 go_wp2_with ((with_reducible refine at_box ?_); refine own_box (cs := [.bool true, .slice A l c, .slice B k d]) hO rfl rfl ?_; clear hO; intro ga wa hO; clear hf; have hf := hO.cells; simp only [BC, CC, Nat.zero_add, Nat.reduceAdd, and_true] at hf)
 refine (HBY.out _ (hO.wd 1 rfl) (hO.wd 0 rfl)).mono ?_
 rintro e w2 ⟨A1, n1, c1, A2, n2, c2, rfl, hW1, hW2, hE1⟩
 have hl1 : n1 = nw q := by have := hW1.len; rw [nd_length] at this; omega
 have hl2 : n2 = nw r := by have := hW2.len; rw [nd_length] at this; omega
 have hO := ((hO.ext hE1).add hW1).add hW2
 clear hW1 hW2 hE1
 clear hf
 have hf := hO.cells
 simp only [BC, CC, Nat.zero_add, Nat.reduceAdd, and_true] at hf
 have z2 : n2 = 0 := by rw [hl2, hz]; rfl
 have hb : decide (0 < n1) = bb := by
   rw [HBB.out]
   refine decide_eq_decide.2 ?_
   have := nw_eq_zero (n := q)
   omega
 have g2 : decide (0 < n2) = false := decide_eq_false (by omega)
 clear hl1 hl2 hqn z2 hz
 go_wp2
 go_ret2
 exact ⟨_, _, _, rfl, hO.wd 1 rfl, hO.toExt⟩
set_option maxHeartbeats 2000000 in
theorem rfloor_t1 (A : Option Addr) (l c : Nat) (B : Option Addr) (k d N D : Nat) (w : World) (h : RatAt w A l c B k d N D) (hN : nw N ≤ 1073741824) (hD : nw D ≤ 1073741824) (hp : 0 < D) (hz : N % D ≠ 0) :
   Calls Tryz.prog 78 #[.agg #[.bool true, .slice A l c, .slice B k d]] w (RetBW true (N / D + 1) w) := by
 have hlb : l ≤ 1073741824 := by have := h.lenN; omega
 have hkb : k ≤ 1073741824 := by have := h.lenD; omega
 have HBY : Hid (∀ w, Wds w A l c (nd N) → Wds w B k d (nd D) → Calls Tryz.prog 94 #[.slice A l c, .slice B k d] w (RetWW (N / D) (N % D) w)) := Lib.hid (fun w h1 h2 => by
   have := by_any A l c (nd N) B k d (nd D) w h1 (by omega) h2 (by omega) (by rw [nv_nd]; exact hp)
   rwa [nv_nd, nv_nd] at this)
 have hqn : nw (N / D) ≤ 1073741824 := Nat.le_trans (nw_mono (Nat.div_le_self N D)) hN
 obtain ⟨q, hq⟩ : ∃ q, q = N / D := ⟨_, rfl⟩
 obtain ⟨r, hr⟩ : ∃ r, r = N % D := ⟨_, rfl⟩
 rw [← hq, ← hr] at HBY
 rw [← hq] at hqn
 have hO := ((Own.start w).add h.1).add h.2
 have hf : True := trivial
 rw [← hq]
 rw [← hr] at hz
 clear hq hr h hN hD hp
 go_enter Tryz.func78, Tryz.ntmps78
 go_wp2_with ((with_reducible refine at_box ?_); refine own_box (cs := [.bool true, .slice A l c, .slice B k d]) hO rfl rfl ?_; clear hO; intro ga wa hO; clear hf; have hf := hO.cells; simp only [BC, CC, Nat.zero_add, Nat.reduceAdd, and_true] at hf)
 refine (HBY.out _ (hO.wd 1 rfl) (hO.wd 0 rfl)).mono ?_
 rintro e w2 ⟨A1, n1, c1, A2, n2, c2, rfl, hW1, hW2, hE1⟩
 have hl1 : n1 = nw q := by have := hW1.len; rw [nd_length] at this; omega
 have hl2 : n2 = nw r := by have := hW2.len; rw [nd_length] at this; omega
 have hO := ((hO.ext hE1).add hW1).add hW2
 clear hW1 hW2 hE1
 clear hf
 have hf := hO.cells
 simp only [BC, CC, Nat.zero_add, Nat.reduceAdd, and_true] at hf
 have g2 : decide (0 < n2) = true := by
   refine decide_eq_true ?_
   have := nw_eq_zero (n := r)
   omega
 have hn1 : n1 ≤ 1073741824 := by omega
 have HPL : Hid (∀ w, Wds w A1 n1 c1 (nd q) → Wds (w.alloc (.cells #[.int .u32 1] 61)) (some ⟨w.heap.size, 0, none⟩) 1 1 [1] → Calls Tryz.prog 79 #[.slice A1 n1 c1, .slice (some ⟨w.heap.size, 0, none⟩) 1 1] (w.alloc (.cells #[.int .u32 1] 61)) (RetW (q + 1) (w.alloc (.cells #[.int .u32 1] 61)))) := Lib.hid (fun w h1 h2 => by
   have := plus_any A1 n1 c1 (nd q) (some ⟨w.heap.size, 0, none⟩) 1 1 [1] (w.alloc (.cells #[.int .u32 1] 61)) (h1.alloc _) (by omega) h2 (by omega)
   rwa [nv_nd, show nv [1] = 1 from rfl] at this)
 have hw1 := hO.wd 1 rfl
 have HO1 := Lib.hid (hO.ext ((Ext.refl w2).alloc (.cells #[.int .u32 1] 61)))
 have HP2 := Lib.hid (HPL.out w2 hw1 (one_wds w2 rfl))
 clear hl1 hl2 hqn hz hn1 hw1 HPL hO
 go_upto_region 3 with fail
 clear hf
 go_wp2_with fail
 refine HP2.out.mono ?_
 rintro e w3 ⟨A3, n3, c3, rfl, hW3, hE3⟩
 have hl3 : n3 = nw (q + 1) := by have := hW3.len; rw [nd_length] at this; omega
 have g3 : decide (0 < n3) = true := by
   refine decide_eq_true ?_
   have := nw_eq_zero (n := q + 1)
   omega
 have hO := (HO1.out.ext hE3).add hW3
 clear hW3 hE3 hl3 HO1 HP2
 have hf := hO.cells
 simp only [BC, CC, Nat.zero_add, Nat.reduceAdd, and_true] at hf
 go_wp2
 go_ret2
 exact ⟨_, _, _, rfl, hO.wd 0 rfl, hO.toExt⟩
theorem st1 (s : Bool) (N D : Nat) : stQ 1 s N D = N / D + (s && decide (N % D ≠ 0)).toNat := by
 unfold stQ stMo
 rw [if_pos rfl]
theorem rfloor_any (s : Bool) (A : Option Addr) (l c : Nat) (B : Option Addr) (k d N D : Nat) (w : World) (h : RatAt w A l c B k d N D) (hN : nw N ≤ 1073741824) (hD : nw D ≤ 1073741824) (hp : 0 < D) :
   Calls Tryz.prog 78 #[.agg #[.bool s, .slice A l c, .slice B k d]] w (RetBW (s && decide (stQ 1 s N D ≠ 0)) (stQ 1 s N D) w) := by
 rw [st1]
 cases s
 · simp only [Bool.false_and, Bool.toNat_false, Nat.add_zero]
   exact rfloor_f A l c B k d N D w h hN hD hp
 · by_cases hz : N % D = 0
   · rw [hz]
     simp only [Bool.true_and, show decide ((0 : Nat) ≠ 0) = false from rfl, Bool.toNat_false, Nat.add_zero]
     exact rfloor_t0 A l c B k d N D w h hN hD hp hz
   · rw [decide_eq_true hz]
     simp only [Bool.true_and, Bool.toNat_true]
     rw [decide_eq_true (Nat.succ_ne_zero (N / D))]
     exact rfloor_t1 A l c B k d N D w h hN hD hp hz
set_option maxHeartbeats 2000000 in
theorem floor7_any (s : Bool) (A : Option Addr) (l c : Nat) (B : Option Addr) (k d N D : Nat) (w : World) (h : RatAt w A l c B k d N D) (hN : nw N ≤ 1048576) (hD : nw D ≤ 1048576) (hp : 0 < D) :
   Calls Tryz.prog 51 #[.agg #[.bool s, .slice A l c, .slice B k d]] w (RetR (s && decide (stQ 1 s N D ≠ 0)) (stQ 1 s N D) 1 w) := by
 have HRF : Hid (∀ w, RatAt w A l c B k d N D → Calls Tryz.prog 78 #[.agg #[.bool s, .slice A l c, .slice B k d]] w (RetBW (s && decide (stQ 1 s N D ≠ 0)) (stQ 1 s N D) w)) := Lib.hid (fun w h => rfloor_any s A l c B k d N D w h (by omega) (by omega) hp)
 have hq1 : nw (stQ 1 s N D) ≤ 1048577 := by
   have h1 : stQ 1 s N D ≤ N + 1 := by
     rw [st1]
     have h2 := Nat.div_le_self N D
     have h3 := Bool.toNat_le (s && decide (N % D ≠ 0))
     omega
   refine Nat.le_trans (nw_mono h1) ((nw_le_iff _ _).2 ?_)
   obtain ⟨e, he⟩ : ∃ e : Nat, e = 1048576 := ⟨_, rfl⟩
   rw [← he] at hN
   rw [show (1048577 : Nat) = e + 1 by omega, Nat.pow_succ]
   have h2 := lt_pow_nw N
   have h3 : 4294967296 ^ nw N ≤ 4294967296 ^ e := Nat.pow_le_pow_right (by omega) hN
   omega
 obtain ⟨q, hq⟩ : ∃ q, q = stQ 1 s N D := ⟨_, rfl⟩
 rw [← hq] at HRF hq1 ⊢
 obtain ⟨b, hb⟩ : ∃ b, b = (s && decide (q ≠ 0)) := ⟨_, rfl⟩
 rw [← hb] at HRF ⊢
 have hbb : (b && decide (q ≠ 0)) = b := by rw [hb, Bool.and_assoc, Bool.and_self]
 have HFR : Hid (∀ (A1 : Option Addr) (n1 c1 : Nat) (w : World), Wds w A1 n1 c1 (nd q) → Calls Tryz.prog 33 #[.bool b, .slice A1 n1 c1, .slice (some ⟨w.heap.size, 0, none⟩) 1 1, .int .i64 0] (w.alloc (.cells #[.int .u32 1] 61)) (RetR b q 1 (w.alloc (.cells #[.int .u32 1] 61)))) := Lib.hid (fun A1 n1 c1 w h1 => by
   have hl : n1 = nw q := by have := h1.len; rw [nd_length] at this; omega
   have := frac_any b A1 n1 c1 (nd q) (some ⟨w.heap.size, 0, none⟩) 1 1 [1] 0 (w.alloc (.cells #[.int .u32 1] 61)) (h1.alloc _) (by omega) (one_wds w rfl) (by omega) (by omega) (by omega) (by decide)
   rwa [nv_nd, show nv [1] = 1 from rfl, (fr_one q).1, (fr_one q).2, hbb] at this)
 have hO := ((Own.start w).add h.1).add h.2
 have hf : True := trivial
 clear h hN hD hp hq1 hb hbb hq
 go_enter Tryz.func51, Tryz.ntmps51
 go_wp2_with (first | ((with_reducible refine at_box ?_); refine own_box (cs := [.bool s, .slice A l c, .slice B k d]) hO rfl rfl ?_; clear hO; intro ga wa hO; clear hf; have hf := hO.cells; simp only [BC, CC, Nat.zero_add, Nat.reduceAdd, and_true] at hf) | ((with_reducible refine at_alloc ?_); refine own_alloc hO zero_rat rfl rfl ?_; clear hO; intro g wb hO; clear hf; have hf := hO.cells; simp only [BC, CC, Nat.zero_add, Nat.reduceAdd, and_true] at hf))
 refine (HRF.out _ ⟨hO.wd 1 rfl, hO.wd 0 rfl⟩).mono ?_
 rintro e w2 ⟨A1, n1, c1, rfl, hW1, hE1⟩
 have hO := (hO.ext hE1).add hW1
 clear hE1
 have HP2 := Lib.hid (HFR.out A1 n1 c1 w2 hW1)
 have HO1 := Lib.hid (hO.ext ((Ext.refl w2).alloc (.cells #[.int .u32 1] 61)))
 clear hW1 hO hf HFR
 go_wp2_with fail
 refine HP2.out.mono ?_
 rintro e w3 ⟨A3, n3, c3, A4, n4, c4, rfl, hW3, hW4, hE3⟩
 have hO := ((HO1.out.ext hE3).add hW3).add hW4
 clear hW3 hW4 hE3 HO1 HP2
 have hf := hO.cells
 simp only [BC, CC, Nat.zero_add, Nat.reduceAdd, and_true] at hf
 go_wp2_with ((with_reducible refine at_store (T := 37) ?_); refine own_store (T := 37) hO 0 rfl rfl rfl size_rat rfl rfl rfl ?_; clear hO; intro w4 hO; simp only [List.set_cons_zero, List.set_cons_succ, spl, List.take_succ_cons, List.take_zero, List.nil_append, List.cons_append, List.length_cons, List.length_nil, List.drop_succ_cons, List.drop_zero, List.drop_nil, Nat.reduceAdd, Nat.zero_add, List.append_nil] at hO; clear hf; have hf := hO.cells; simp only [BC, CC, Nat.zero_add, Nat.reduceAdd, and_true] at hf)
 exact own_ret hO 0 rfl rfl rfl agg_rat size_rat rfl ⟨_, _, _, _, _, _, rfl, hO.wd 1 rfl, hO.wd 0 rfl, hO.toExt⟩
set_option maxHeartbeats 1000000 in
theorem intm1_any (w : World) :
   Calls Tryz.prog 19 #[.int .i64 (-1)] w (RetR true 1 1 w) := by
 have HSM : Hid (∀ w, Calls Tryz.prog 34 #[.int .u64 1] w (RetW 1 w)) := Lib.hid (fun w => by
   have := small_any 1 w (by omega) (by omega)
   exact this)
 have HFR : Hid (∀ (A1 : Option Addr) (n1 c1 : Nat) (w : World), Wds w A1 n1 c1 (nd 1) → Calls Tryz.prog 33 #[.bool true, .slice A1 n1 c1, .slice (some ⟨w.heap.size, 0, none⟩) 1 1, .int .i64 0] (w.alloc (.cells #[.int .u32 1] 61)) (RetR true 1 1 (w.alloc (.cells #[.int .u32 1] 61)))) := Lib.hid (fun A1 n1 c1 w h1 => by
   have hl := h1.len
   rw [show (nd 1).length = 1 by decide] at hl
   have := frac_any true A1 n1 c1 (nd 1) (some ⟨w.heap.size, 0, none⟩) 1 1 [1] 0 (w.alloc (.cells #[.int .u32 1] 61)) (h1.alloc _) (by omega) (one_wds w rfl) (by omega) (by omega) (by omega) (by decide)
   rwa [nv_nd, show nv [1] = 1 from rfl, (fr_one 1).1, (fr_one 1).2, show (true && decide ((1 : Nat) ≠ 0)) = true from rfl] at this)
 have hO := Own.start w
 have hf : True := trivial
 go_enter Tryz.func19, Tryz.ntmps19
 go_wp2_with ((with_reducible refine at_alloc ?_); refine own_alloc hO zero_rat rfl rfl ?_; clear hO; intro g wb hO; clear hf; have hf := hO.cells; simp only [BC, CC, Nat.zero_add, Nat.reduceAdd, and_true] at hf)
 refine (HSM.out _).mono ?_
 rintro e w2 ⟨A1, n1, c1, rfl, hW1, hE1⟩
 have hO := hO.ext hE1
 clear hE1
 have HP2 := Lib.hid (HFR.out A1 n1 c1 w2 hW1)
 have HO1 := Lib.hid (hO.ext ((Ext.refl w2).alloc (.cells #[.int .u32 1] 61)))
 clear hW1 hO hf HFR
 go_wp2_with fail
 refine HP2.out.mono ?_
 rintro e w3 ⟨A3, n3, c3, A4, n4, c4, rfl, hW3, hW4, hE3⟩
 have hO := ((HO1.out.ext hE3).add hW3).add hW4
 clear hW3 hW4 hE3 HO1 HP2
 have hf := hO.cells
 simp only [BC, CC, Nat.zero_add, Nat.reduceAdd, and_true] at hf
 go_wp2_with ((with_reducible refine at_store (T := 37) ?_); refine own_store (T := 37) hO 0 rfl rfl rfl size_rat rfl rfl rfl ?_; clear hO; intro w4 hO; simp only [List.set_cons_zero, List.set_cons_succ, spl, List.take_succ_cons, List.take_zero, List.nil_append, List.cons_append, List.length_cons, List.length_nil, List.drop_succ_cons, List.drop_zero, List.drop_nil, Nat.reduceAdd, Nat.zero_add, List.append_nil] at hO; clear hf; have hf := hO.cells; simp only [BC, CC, Nat.zero_add, Nat.reduceAdd, and_true] at hf)
 exact own_ret hO 0 rfl rfl rfl agg_rat size_rat rfl ⟨_, _, _, _, _, _, rfl, hO.wd 1 rfl, hO.wd 0 rfl, hO.toExt⟩
end Go.Proofs.YtbcaggdgoidlaaaGreatDoor
