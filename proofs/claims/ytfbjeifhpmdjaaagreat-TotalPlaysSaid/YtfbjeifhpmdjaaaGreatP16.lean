/-
  Plain: a sum's words of 64 bits, in two's complement. Conditions: those that each theorem names.
-/
import Derived.Test.YtfbjeifhpmdjaaaGreatP03
import Derived.Test.YtfbjeifhpmdjaaaGreatP07
import Derived.Laws.Externs
import Derived.Laws.DeepNot64
import Derived.Test.YtfbjeifhpmdjaaaGreatP15
import Derived.Test.YtfbjeifhpmdjaaaGreatP13
import Derived.Lib.Mul64
namespace Go.Proofs.YtfbjeifhpmdjaaaGreat
open Nm Rn
set_option linter.unusedVariables false
set_option linter.unusedSimpArgs false

/-- The value of a list of words of 64 bits, the lowest first. -/
def vl : List Nat → Nat
  | [] => 0
  | x :: l => x + 18446744073709551616 * vl l
def W6 (l : List Nat) : Prop := ∀ x ∈ l, x < 18446744073709551616
/-- So many words of a value. -/
def dg : Nat → Nat → List Nat
  | 0, _ => []
  | n + 1, v => v % 18446744073709551616 :: dg n (v / 18446744073709551616)
theorem dg_len : ∀ (n v : Nat), (dg n v).length = n
  | 0, _ => rfl
  | n + 1, v => by simp [dg, dg_len n]
theorem dg_w6 : ∀ (n v : Nat), W6 (dg n v)
  | 0, _ => fun x h => by cases h
  | n + 1, v => fun x h => by
    rcases List.mem_cons.1 h with rfl | h
    · omega
    · exact dg_w6 n _ x h
theorem W6.get {l : List Nat} (h : W6 l) {k : Nat} (hk : k < l.length) : l[k] < 18446744073709551616 := h _ (List.getElem_mem hk)
theorem W6.set {l : List Nat} (h : W6 l) (k : Nat) {x : Nat} (hx : x < 18446744073709551616) : W6 (l.set k x) := by
  intro y hy
  rcases List.mem_or_eq_of_mem_set hy with hy | rfl
  · exact h y hy
  · exact hx
theorem W6.tail {x : Nat} {l : List Nat} (h : W6 (x :: l)) : W6 l := fun y hy => h y (List.mem_cons_of_mem _ hy)
theorem W6.head {x : Nat} {l : List Nat} (h : W6 (x :: l)) : x < 18446744073709551616 := h x List.mem_cons_self
theorem vl_lt : ∀ {l : List Nat}, W6 l → vl l < 18446744073709551616 ^ l.length
  | [], _ => by simp [vl]
  | x :: l, h => by
    have h1 := vl_lt h.tail
    have h2 := h.head
    rw [List.length_cons, Nat.pow_succ, vl]
    generalize 18446744073709551616 ^ l.length = P at *
    omega
theorem vl_dg : ∀ (n v : Nat), vl (dg n v) = v % 18446744073709551616 ^ n
  | 0, v => by simp [vl, dg, Nat.mod_one]
  | n + 1, v => by
    rw [dg, vl, vl_dg n, Nat.pow_succ, Nat.mul_comm (18446744073709551616 ^ n), Nat.mod_mul]
theorem dg_vl : ∀ {l : List Nat}, W6 l → dg l.length (vl l) = l
  | [], _ => rfl
  | x :: l, h => by
    have h2 := h.head
    rw [List.length_cons, dg, vl, show (x + 18446744073709551616 * vl l) / 18446744073709551616 = vl l by omega, dg_vl h.tail, show (x + 18446744073709551616 * vl l) % 18446744073709551616 = x by omega]
theorem vl_set : ∀ {l : List Nat} {k : Nat} (hk : k < l.length) (y : Nat), vl (l.set k y) + 18446744073709551616 ^ k * l[k] = vl l + 18446744073709551616 ^ k * y
  | [], k, hk, _ => by simp at hk
  | x :: l, 0, hk, y => by simp [vl]; omega
  | x :: l, k + 1, hk, y => by
    have hk1 : k < l.length := by simpa using hk
    have := vl_set hk1 y
    simp only [List.set_cons_succ, vl, List.getElem_cons_succ, Nat.pow_succ]
    generalize 18446744073709551616 ^ k = P at *
    rw [Nat.mul_right_comm P _ (l[k]'hk1), Nat.mul_right_comm P _ y]
    omega
theorem vl_take_succ : ∀ {l : List Nat} {k : Nat} (hk : k < l.length), vl (l.take (k + 1)) = vl (l.take k) + 18446744073709551616 ^ k * l[k]
  | [], k, hk => by simp at hk
  | x :: l, 0, hk => by simp [vl]
  | x :: l, k + 1, hk => by
    have := vl_take_succ (l := l) (k := k) (by simpa using hk)
    simp only [List.take_succ_cons, vl, List.getElem_cons_succ, Nat.pow_succ] at this ⊢
    rw [this]
    generalize 18446744073709551616 ^ k = P at *
    rw [Nat.mul_right_comm P]
    omega
/-- The words' number of values. -/
def MM : Nat := 18446744073709551616 ^ 68
theorem MM_pos : 0 < MM := Nat.pow_pos (by decide)
/-- A sum's words. -/
def sw (T : Int) : List Nat := dg 68 (T % (MM : Int)).toNat
theorem sw_len (T : Int) : (sw T).length = 68 := dg_len _ _
theorem sw_w6 (T : Int) : W6 (sw T) := dg_w6 _ _
theorem mm_mod (T : Int) : (((T % (MM : Int)).toNat : Nat) : Int) = T % (MM : Int) := by
  have := MM_pos
  exact Int.toNat_of_nonneg (Int.emod_nonneg _ (by omega))
theorem mm_lt (T : Int) : (T % (MM : Int)).toNat < MM := by
  have := MM_pos
  have h1 := Int.emod_lt_of_pos T (show (0 : Int) < MM by omega)
  have h2 := mm_mod T
  omega
theorem vl_sw (T : Int) : (vl (sw T) : Int) = T % (MM : Int) := by
  unfold sw
  rw [vl_dg, show 18446744073709551616 ^ 68 = MM from rfl, Nat.mod_eq_of_lt (mm_lt T), mm_mod]
theorem sw_of {l : List Nat} {T : Int} (hl : l.length = 68) (h : W6 l) (e : (vl l : Int) = T % (MM : Int)) : l = sw T := by
  unfold sw
  rw [← e, Int.toNat_natCast, ← hl, dg_vl h]
/-- What a chain leaves. -/
theorem sw_end {l : List Nat} {T : Int} {c : Int} (hl : l.length = 68) (h : W6 l) (e : (vl l : Int) + c * (MM : Int) = T) : l = sw T := by
  refine sw_of hl h ?_
  have h1 := vl_lt h
  rw [hl, show 18446744073709551616 ^ 68 = MM from rfl] at h1
  rw [← e, Int.add_mul_emod_self_right]
  exact (Int.emod_eq_of_lt (by omega) (by omega)).symm
theorem sw_congr {S T : Int} (h : S % (MM : Int) = T % (MM : Int)) : sw S = sw T := by unfold sw; rw [h]

/-- One step of a chain: a word is added, or taken away. -/
theorem lay_step {l : List Nat} {p c x r c' : Nat} {s : Bool} {V Xp : Int} (hp : p < l.length) (hr : (r : Int) + sn s (18446744073709551616 * c') = (l[p] : Int) + sn s (x + c))
    (h : (vl l : Int) + sn s (c * 18446744073709551616 ^ p) = V + Xp) : (vl (l.set p r) : Int) + sn s (c' * 18446744073709551616 ^ (p + 1)) = V + (Xp + sn s (x * 18446744073709551616 ^ p)) := by
  have hs := vl_set hp r
  rw [Nat.pow_succ]
  generalize (18446744073709551616 : Nat) ^ p = P at *
  generalize l[p] = o at *
  generalize vl (l.set p r) = A at *
  generalize vl l = B at *
  have h2 := congrArg (fun z : Int => (P : Int) * z) hr
  have h3 : ((A + P * o : Nat) : Int) = ((B + P * r : Nat) : Int) := by rw [hs]
  simp only [Int.natCast_add, Int.natCast_mul] at h3
  unfold sn at *
  cases s
  · simp only [Bool.false_eq_true, if_false, Int.natCast_add, Int.natCast_mul, Int.mul_add] at *
    rw [Int.mul_comm (P : Int) c, Int.mul_comm (P : Int) x, show (P : Int) * ((18446744073709551616 : Nat) * (c' : Int)) = (c' : Int) * ((P : Int) * (18446744073709551616 : Nat)) by rw [Int.mul_comm (18446744073709551616 : Nat) (c' : Int), ← Int.mul_assoc, Int.mul_comm (P : Int) (c' : Int), Int.mul_assoc]] at h2
    omega
  · simp only [if_true, Int.natCast_add, Int.natCast_mul, Int.mul_add, Int.mul_neg, Int.neg_add] at *
    rw [Int.mul_comm (P : Int) c, Int.mul_comm (P : Int) x, show (P : Int) * ((18446744073709551616 : Nat) * (c' : Int)) = (c' : Int) * ((P : Int) * (18446744073709551616 : Nat)) by rw [Int.mul_comm (18446744073709551616 : Nat) (c' : Int), ← Int.mul_assoc, Int.mul_comm (P : Int) (c' : Int), Int.mul_assoc]] at h2
    omega
theorem add_word {x y c : Nat} : (((x + y + c) % 18446744073709551616 : Nat) : Int) + sn false (18446744073709551616 * ((x + y + c) / 18446744073709551616)) = (x : Int) + sn false (y + c) := by
  unfold sn
  simp only [Bool.false_eq_true, if_false]
  omega
theorem sub_word {x y c : Nat} (hx : x < 18446744073709551616) (hy : y < 18446744073709551616) (hc : c ≤ 1) : (((x + 18446744073709551616 - y - c) % 18446744073709551616 : Nat) : Int) + sn true (18446744073709551616 * (if x < y + c then 1 else 0)) = (x : Int) + sn true (y + c) := by
  unfold sn
  simp only [if_true]
  split <;> omega
/-- One step of the turning. -/
theorem neg_step {l l0 : List Nat} {j c r c' : Nat} (hj : j < l.length) (hj0 : j < l0.length) (ho : l[j] = l0[j]) (hr : r + 18446744073709551616 * c' = 18446744073709551615 - l0[j] + c) (h0 : l0[j] < 18446744073709551616)
    (h : (vl l : Int) + c * (18446744073709551616 ^ j : Nat) = vl l0 - 2 * vl (l0.take j) + (18446744073709551616 ^ j : Nat)) :
    (vl (l.set j r) : Int) + c' * (18446744073709551616 ^ (j + 1) : Nat) = vl l0 - 2 * vl (l0.take (j + 1)) + (18446744073709551616 ^ (j + 1) : Nat) := by
  have hs := vl_set hj r
  rw [vl_take_succ hj0, Nat.pow_succ]
  rw [ho] at hs
  generalize (18446744073709551616 : Nat) ^ j = P at *
  generalize l0[j] = o at *
  generalize vl (l.set j r) = A at *
  generalize vl l = B at *
  have h2 := congrArg (fun z : Nat => P * z) (show r + 18446744073709551616 * c' + o + 1 = 18446744073709551616 + c by omega)
  simp only [Nat.mul_add] at h2
  rw [← Nat.mul_assoc, Nat.mul_comm P 18446744073709551616, Nat.mul_assoc] at h2
  rw [Nat.mul_comm P c] at h2
  have h4 : (c' : Int) * ((P * 18446744073709551616 : Nat) : Int) = 18446744073709551616 * ((P * c' : Nat) : Int) := by
    rw [Int.natCast_mul, Int.natCast_mul, ← Int.mul_assoc, Int.mul_comm (c' : Int) P, Int.mul_comm]
    rfl
  rw [h4]
  have h5 : (c : Int) * (P : Int) = ((c * P : Nat) : Int) := by rw [Int.natCast_mul]
  rw [h5] at h
  generalize P * c' = q1 at *
  generalize c * P = q2 at *
  generalize P * o = q3 at *
  generalize P * r = q4 at *
  omega
end Go.Proofs.YtfbjeifhpmdjaaaGreat

/-
  What the library's functions without a body answer. Conditions: those that each theorem names.
-/
namespace Go.Proofs.YtfbjeifhpmdjaaaGreat
open Go.RowKit Nm Rn
set_option maxRecDepth 100000
set_option linter.unusedVariables false
set_option linter.unusedSimpArgs false

@[go_sem] theorem run_store_float (P : Program) (w : World) (a : Addr) (m : Mode) (k : FloatKind) (b : Nat) : (store a (.float k b) m).run P w = stored P w a (.float k b) m := run_store P w a _ m rfl

theorem callF64b (args : Array Value) (w : World) : (callFunc 39 args).run Tryz.prog w = ((Extern.MathFloatBits.float64bits args).run Tryz.prog w).andThen fun v w' => .ok (.value v) w' :=
  run_callFunc_extern Tryz.func39 (by kernel_rfl) (by kernel_rfl) (by kernel_rfl) (by kernel_rfl) args w
@[go_sem] theorem callF64b' (b : Nat) (w : World) : (callFunc 39 #[.float .f64 b]).run Tryz.prog w = .ok (.value (.int .u64 (b : Int))) w := by
  rw [callF64b]; rfl
theorem callF64f (args : Array Value) (w : World) : (callFunc 51 args).run Tryz.prog w = ((Extern.MathFloatBits.float64frombits args).run Tryz.prog w).andThen fun v w' => .ok (.value v) w' :=
  run_callFunc_extern Tryz.func51 (by kernel_rfl) (by kernel_rfl) (by kernel_rfl) (by kernel_rfl) args w
@[go_sem] theorem callF64f' (n : Int) (w : World) : (callFunc 51 #[.int .u64 n]).run Tryz.prog w = .ok (.value (.float .f64 n.toNat)) w := by
  rw [callF64f]; rfl

/-- The sign's place. -/
theorem andNot_top (b : Nat) (h : b < 18446744073709551616) : bits .andNot .u64 (b : Int) 9223372036854775808 = (mg b : Int) := by
  have e : (9223372036854775808 : Int) = ((9223372036854775808 : Nat) : Int) := rfl
  rw [e, u64_andNot_nat _ _ h (by omega)]
  congr 1
  have e2 : (18446744073709551615 - 9223372036854775808 : Nat) = 2 ^ 63 - 1 := by decide
  rw [e2, Nat.and_two_pow_sub_one_eq_mod]
  rfl

set_option maxHeartbeats 400000 in
theorem isnan_any (b : Nat) (w : World) (h : b < 18446744073709551616) :
    Calls Tryz.prog 53 #[.int .u64 (b : Int)] w fun e w' => e = .returned (.bool (isNaN b)) ∧ w = w' := by
  have g := andNot_top b h
  have HF : Hid (decide ((9218868437227405312 : Int) < (mg b : Int)) = isNaN b) := Lib.hid (by unfold isNaN; rw [infR_val]; exact decide_eq_decide.2 (by omega))
  clear h
  go_enter Tryz.func53, Tryz.ntmps53
  go_wp2
  go_ret
  exact ⟨ret_bool HF.out, rfl⟩
set_option maxHeartbeats 400000 in
theorem isinf3_any (b : Nat) (w : World) (h : b < 18446744073709551616) :
    Calls Tryz.prog 54 #[.int .u64 (b : Int)] w fun e w' => e = .returned (.bool (isInf b)) ∧ w = w' := by
  have g := andNot_top b h
  have HF : Hid (((mg b : Int) == 9218868437227405312) = isInf b) := Lib.hid (by unfold isInf; rw [infR_val, Bool.eq_iff_iff, beq_iff_eq, decide_eq_true_iff]; omega)
  clear h
  go_enter Tryz.func54, Tryz.ntmps54
  go_wp2
  go_ret
  exact ⟨ret_bool HF.out, rfl⟩
set_option maxHeartbeats 400000 in
theorem neg3_any (b : Nat) (w : World) :
    Calls Tryz.prog 55 #[.int .u64 (b : Int)] w fun e w' => e = .returned (.bool (decide (9223372036854775808 < b))) ∧ w = w' := by
  have HF : Hid (decide ((9223372036854775808 : Int) < (b : Int)) = decide (9223372036854775808 < b)) := Lib.hid (decide_eq_decide.2 (by omega))
  go_enter Tryz.func55, Tryz.ntmps55
  go_wp2
  go_ret
  exact ⟨ret_bool HF.out, rfl⟩
end Go.Proofs.YtfbjeifhpmdjaaaGreat

/-
  Comparisons of floats in the walk's own form; what math.Inf, Abs, IsNaN and IsInf answer. Conditions: those that each theorem names.
-/
namespace Go.Proofs.YtfbjeifhpmdjaaaGreat
open Go.RowKit Nm Rn
set_option maxRecDepth 100000
set_option linter.unusedVariables false
set_option linter.unusedSimpArgs false

theorem fo_lt {x y : Nat} (hx : x < 18446744073709551616) (hy : y < 18446744073709551616) : (FloatKind.f64.format.order x y == some .lt) = ltB x y := order_lt hx hy
theorem fo_eq {x y : Nat} (hx : x < 18446744073709551616) (hy : y < 18446744073709551616) : (FloatKind.f64.format.order x y == some .eq) = eqB x y := order_eqv hx hy
theorem fo_ne {x y : Nat} (hx : x < 18446744073709551616) (hy : y < 18446744073709551616) : (FloatKind.f64.format.order x y != some .eq) = !eqB x y := by rw [bne, fo_eq hx hy]
theorem fo_gt {x y : Nat} (hx : x < 18446744073709551616) (hy : y < 18446744073709551616) : (FloatKind.f64.format.order x y == some .gt) = ltB y x := order_gt hx hy
theorem fo_le {x y : Nat} (hx : x < 18446744073709551616) (hy : y < 18446744073709551616) : (FloatKind.f64.format.order x y == some .lt || FloatKind.f64.format.order x y == some .eq) = leB x y := order_le hx hy
theorem fo_ge {x y : Nat} (hx : x < 18446744073709551616) (hy : y < 18446744073709551616) : (FloatKind.f64.format.order x y == some .gt || FloatKind.f64.format.order x y == some .eq) = leB y x := order_ge hx hy
theorem infR_lt : infR < 18446744073709551616 := by rw [infR_val]; omega
theorem minf_lt : minf < 18446744073709551616 := by rw [minf_val]; omega

set_option maxHeartbeats 400000 in
theorem inf_p (w : World) : Calls Tryz.prog 71 #[.int .i64 1] w fun e w' => e = .returned (.float .f64 infR) ∧ w = w' := by
  go_enter Tryz.func71, Tryz.ntmps71
  go_wp2
  go_ret
  exact ⟨rfl, rfl⟩
set_option maxHeartbeats 400000 in
theorem inf_m (w : World) : Calls Tryz.prog 71 #[.int .i64 (-1)] w fun e w' => e = .returned (.float .f64 minf) ∧ w = w' := by
  go_enter Tryz.func71, Tryz.ntmps71
  go_wp2
  go_ret
  exact ⟨rfl, rfl⟩

theorem mg_lt64 (b : Nat) : mg b < 18446744073709551616 := by have := mg_lt b; omega
theorem sg_mg (b : Nat) : sg (mg b) = false := by unfold sg; exact decide_eq_false (by have := mg_lt b; omega)
theorem mg_mg (b : Nat) : mg (mg b) = mg b := by unfold mg; omega
theorem key_mg (b : Nat) : key (mg b) = (mg b : Int) := by unfold key; rw [sg_mg, mg_mg]; rfl
theorem nan_mg (b : Nat) : isNaN (mg b) = isNaN b := by unfold isNaN; rw [mg_mg]
theorem eqB_self (b : Nat) : eqB b b = !isNaN b := by unfold eqB; cases isNaN b <;> simp
theorem lt_max (b : Nat) : ltB 9218868437227405311 (mg b) = isInf b := by
  unfold ltB
  rw [nan_mg, key_mg, show isNaN 9218868437227405311 = false from rfl, show key 9218868437227405311 = 9218868437227405311 from rfl]
  unfold isNaN isInf
  rw [infR_val, Bool.eq_iff_iff]
  simp
  omega

set_option maxHeartbeats 400000 in
theorem mabs_any (b : Nat) (w : World) (h : b < 18446744073709551616) :
    Calls Tryz.prog 78 #[.float .f64 b] w fun e w' => e = .returned (.float .f64 (mg b)) ∧ w = w' := by
  have g := andNot_top b h
  go_enter Tryz.func78, Tryz.ntmps78
  go_wp2
  go_ret
  exact ⟨rfl, rfl⟩
set_option maxHeartbeats 400000 in
theorem mnan_any (b : Nat) (w : World) (h : b < 18446744073709551616) :
    Calls Tryz.prog 47 #[.float .f64 b] w fun e w' => e = .returned (.bool (isNaN b)) ∧ w = w' := by
  have hq := fo_ne h h
  rw [eqB_self, Bool.not_not] at hq
  clear h
  go_enter Tryz.func47, Tryz.ntmps47
  go_wp2
  go_ret
  exact ⟨rfl, rfl⟩
set_option maxHeartbeats 400000 in
theorem misinf_any (b : Nat) (w : World) (h : b < 18446744073709551616) :
    Calls Tryz.prog 48 #[.float .f64 b, .int .i64 0] w fun e w' => e = .returned (.bool (isInf b)) ∧ w = w' := by
  have hq := fo_gt (mg_lt64 b) (show 9218868437227405311 < 18446744073709551616 by omega)
  rw [lt_max] at hq
  have HA := Lib.hid (fun w => mabs_any b w h)
  clear h
  go_enter Tryz.func48, Tryz.ntmps48
  go_wp2_with (go_at_call 78; refine (HA.out _).mono ?_; rintro e w' ⟨rfl, rfl⟩)
  go_ret
  exact ⟨rfl, rfl⟩
end Go.Proofs.YtfbjeifhpmdjaaaGreat

/-
  The contracts of the program's sums, first part: count, State, split, Mul64. Conditions: those that each theorem names.
-/
namespace Go.Proofs.YtfbjeifhpmdjaaaGreat
open Go.RowKit Nm Rn
set_option maxRecDepth 100000
set_option linter.unusedVariables false
set_option linter.unusedSimpArgs false

theorem size_u64 (w : World) : (sizeOf 24).run Tryz.prog w = .ok 1 w := by kernel_rfl
theorem size_bool (w : World) : (sizeOf 4).run Tryz.prog w = .ok 1 w := by kernel_rfl

/-- The number of terms, and whether they are too many. -/
def cnt (t n : Nat) : Nat := if 4611686018427387904 < t + n then 4611686018427387904 else t + n
def cntN (b : Bool) (t n : Nat) : Bool := b || decide (4611686018427387904 < t + n)
theorem cnt_le (t n : Nat) : cnt t n ≤ 4611686018427387904 := by unfold cnt; split <;> omega
/-- State's answer. -/
def stt (p m n : Bool) : Int := if n || (p && m) then 2 else if p then 1 else if m then -1 else 0

section
variable {w0 w : World} {L : List Bx} {W : List Sw} {g : Nat} {ws : List Nat} {p m b : Bool} {t : Nat}
set_option maxHeartbeats 1000000 in
theorem tcount_any (n : Nat) (hl : ws.length = 68) (ht : t ≤ 4611686018427387904) (hn : n ≤ 4611686018427387904) (hO : Own w0 (⟨g, 55, sc ws p m b t⟩ :: L) W w) :
    Calls Tryz.prog 46 #[.pointer (some ⟨g, 0, none⟩), .int .u64 (n : Int)] w fun e w' => e = .returned (.tuple #[]) ∧ Own w0 (⟨g, 55, sc ws p m (cntN b t n) (cnt t n)⟩ :: L) W w' := by
  obtain ⟨tn, htn⟩ : ∃ tn, tn = t + n := ⟨_, rfl⟩
  have e1 : (t : Int) + (n : Int) = (tn : Int) := by omega
  have hb1 : tn < 18446744073709551616 := by omega
  have HC : Hid (cnt t n = if 4611686018427387904 < tn then 4611686018427387904 else tn) := Lib.hid (by rw [htn]; rfl)
  have HN : Hid (cntN b t n = (b || decide (4611686018427387904 < tn))) := Lib.hid (by rw [htn]; rfl)
  have HL := Lib.hid hl
  have hc := (hO.cell 0 rfl 71).trans (sc_t hl)
  clear htn ht hn hl
  by_cases hd : 4611686018427387904 < tn
  · have g1 : decide ((4611686018427387904 : Int) < (tn : Int)) = true := decide_eq_true (by omega)
    have HD := Lib.hid hd
    clear hd
    go_enter Tryz.func46, Tryz.ntmps46
    go_wp2_with (first | ((with_reducible refine at_store (T := 24) ?_); refine own_store (vs := [.int .u64 (tn : Int)]) (T := 24) hO 0 rfl rfl rfl size_u64 rfl rfl (by rw [sc_len HL.out]; rfl) ?_; clear hO; intro w2 hO; simp only [List.set_cons_zero, List.set_cons_succ, spl, sc_sett HL.out] at hO; have hc := (hO.cell 0 rfl 71).trans (sc_t HL.out)) | ((with_reducible refine at_store (T := 4) ?_); refine own_store (vs := [.bool true]) (T := 4) hO 0 rfl rfl rfl size_bool rfl rfl (by rw [sc_len HL.out]; rfl) ?_; clear hO; intro w3 hO; simp only [List.set_cons_zero, List.set_cons_succ, spl, sc_setn HL.out] at hO; skip) | ((with_reducible refine at_store (T := 24) ?_); refine own_store (vs := [.int .u64 ((4611686018427387904 : Nat) : Int)]) (T := 24) hO 0 rfl rfl rfl size_u64 rfl rfl (by rw [sc_len HL.out]; rfl) ?_; clear hO; intro w4 hO; simp only [List.set_cons_zero, List.set_cons_succ, spl, sc_sett HL.out] at hO; skip))
    go_end0
    have hd := HD.out
    rw [HC.out, HN.out, if_pos hd, decide_eq_true hd, Bool.or_true]
    exact ⟨rfl, hO⟩
  · have g1 : decide ((4611686018427387904 : Int) < (tn : Int)) = false := decide_eq_false (by omega)
    have HD := Lib.hid hd
    clear hd
    go_enter Tryz.func46, Tryz.ntmps46
    go_wp2_with (first | ((with_reducible refine at_store (T := 24) ?_); refine own_store (vs := [.int .u64 (tn : Int)]) (T := 24) hO 0 rfl rfl rfl size_u64 rfl rfl (by rw [sc_len HL.out]; rfl) ?_; clear hO; intro w2 hO; simp only [List.set_cons_zero, List.set_cons_succ, spl, sc_sett HL.out] at hO; have hc := (hO.cell 0 rfl 71).trans (sc_t HL.out)) | ((with_reducible refine at_store (T := 4) ?_); refine own_store (vs := [.bool true]) (T := 4) hO 0 rfl rfl rfl size_bool rfl rfl (by rw [sc_len HL.out]; rfl) ?_; clear hO; intro w3 hO; simp only [List.set_cons_zero, List.set_cons_succ, spl, sc_setn HL.out] at hO; skip) | ((with_reducible refine at_store (T := 24) ?_); refine own_store (vs := [.int .u64 ((4611686018427387904 : Nat) : Int)]) (T := 24) hO 0 rfl rfl rfl size_u64 rfl rfl (by rw [sc_len HL.out]; rfl) ?_; clear hO; intro w4 hO; simp only [List.set_cons_zero, List.set_cons_succ, spl, sc_sett HL.out] at hO; skip))
    go_end0
    have hd := HD.out
    rw [HC.out, HN.out, if_neg hd, decide_eq_false hd, Bool.or_false]
    exact ⟨rfl, hO⟩

set_option maxHeartbeats 1000000 in
theorem tstate_any (hl : ws.length = 68) (hO : Own w0 (⟨g, 55, sc ws p m b t⟩ :: L) W w) :
    Calls Tryz.prog 36 #[.pointer (some ⟨g, 0, none⟩)] w fun e w' => e = .returned (.int .i64 (stt p m b)) ∧ w = w' := by
  have hc1 := (hO.cell 0 rfl 68).trans (sc_p hl)
  have hc2 := (hO.cell 0 rfl 69).trans (sc_m hl)
  have hc3 := (hO.cell 0 rfl 70).trans (sc_n hl)
  clear hO hl
  cases p <;> cases m <;> cases b
  all_goals
    go_enter Tryz.func36, Tryz.ntmps36
    go_wp2
    go_ret
    exact ⟨rfl, rfl⟩
end

set_option maxHeartbeats 1000000 in
theorem tsplit_any (b : Nat) (w : World) (hb : b < 18446744073709551616) :
    Calls Tryz.prog 49 #[.float .f64 b] w fun e w' => e = .returned (.tuple #[.bool (sg b), .int .u64 (fbSig b : Nat), .int .i64 (fbExp b)]) ∧ w = w' := by
  obtain ⟨E, hE⟩ : ∃ E, E = b / 4503599627370496 % 2048 := ⟨_, rfl⟩
  obtain ⟨F, hF⟩ : ∃ F, F = b % 4503599627370496 := ⟨_, rfl⟩
  have g1 : bits .and .u64 ((b : Int) / 4503599627370496) 2047 = (E : Int) := by
    rw [show (b : Int) / 4503599627370496 = ((b / 4503599627370496 : Nat) : Int) by omega, show (2047 : Int) = ((2047 : Nat) : Int) from rfl, u64_and_nat _ _ (by omega) (by omega), nat_mask11, hE]
  have g2 : bits .and .u64 (b : Int) 4503599627370495 = (F : Int) := by
    rw [show (4503599627370495 : Int) = ((4503599627370495 : Nat) : Int) from rfl, u64_and_nat _ _ (by omega) (by omega), hF]
    congr 1
    exact Nat.and_two_pow_sub_one_eq_mod b 52
  have hEb : E < 2048 := by omega
  have hFb : F < 4503599627370496 := by omega
  have g4 : bits .or .u64 (F : Int) 4503599627370496 = ((F + 4503599627370496 : Nat) : Int) := by
    rw [show (4503599627370496 : Int) = ((4503599627370496 : Nat) : Int) from rfl, u64_or_nat _ _ (by omega) (by omega), Nat.or_comm, show (4503599627370496 : Nat) = 1 * 2 ^ 52 by rfl, nat_join 52 _ _ (Nat.mul_mod_left _ _) (by omega)]
    omega
  obtain ⟨T, hT⟩ : ∃ T, T = b / 9223372036854775808 := ⟨_, rfl⟩
  have g3 : (b : Int) / 9223372036854775808 = (T : Int) := by omega
  have hS : Hid (sg b = ((T : Int) == 1)) := Lib.hid (by unfold sg; rw [Bool.eq_iff_iff, beq_iff_eq, decide_eq_true_iff]; omega)
  have hTb : T ≤ 1 := by omega
  have hsig : Hid (fbSig b = if E = 0 then F else F + 4503599627370496) := Lib.hid (by unfold fbSig; rw [hE, hF])
  have hexp : Hid (fbExp b = (if E = 0 then 0 else (E : Int) - 1) - 1074) := Lib.hid (by unfold fbExp; rw [hE])
  clear hE hF hT hb
  by_cases h0 : E = 0
  · have d1 : decide (0 < E) = false := decide_eq_false (by omega)
    have hs := Lib.hid (hsig.out.trans (if_pos h0))
    have he := Lib.hid (hexp.out.trans (congrArg (· - 1074) (if_pos h0)))
    have HE0 := Lib.hid (show (E : Int) = 0 by omega)
    clear h0
    go_enter Tryz.func49, Tryz.ntmps49
    go_wp2
    go_ret3
    rw [hS.out, hs.out, he.out, HE0.out]
    exact ⟨rfl, rfl⟩
  · have d1 : decide (0 < E) = true := decide_eq_true (by omega)
    have hs := Lib.hid (hsig.out.trans (if_neg h0))
    have he := Lib.hid (hexp.out.trans (congrArg (· - 1074) (if_neg h0)))
    clear h0
    go_enter Tryz.func49, Tryz.ntmps49
    go_wp2
    go_ret3
    rw [hS.out, hs.out, he.out]
    exact ⟨rfl, rfl⟩

theorem u64_mask32 (a : Nat) (ha : a < 18446744073709551616) : bits .and .u64 (a : Int) 4294967295 = ((a % 4294967296 : Nat) : Int) := and_mask a _ ha rfl
set_option maxHeartbeats 1000000 in
theorem tmul64_any (x y : Nat) (w : World) (hx : x < 18446744073709551616) (hy : y < 18446744073709551616) :
    Calls Tryz.prog 58 #[.int .u64 (x : Int), .int .u64 (y : Int)] w fun e w' => e = .returned (.tuple #[.int .u64 ((x * y / 18446744073709551616 : Nat) : Int), .int .u64 ((x * y % 18446744073709551616 : Nat) : Int)]) ∧ w = w' := by
  obtain ⟨bd, bt, bw, hhi⟩ := Lib.mul64_hi x y hx hy
  have ba := Lib.half_mul_le (a := x / 4294967296) (b := y / 4294967296) (by omega) (by omega)
  have bb := Lib.half_mul_le (a := x / 4294967296) (b := y % 4294967296) (by omega) (by omega)
  have bc := Lib.half_mul_le (a := x % 4294967296) (b := y / 4294967296) (by omega) (by omega)
  have ml := fun (a b : Nat) => Int.natCast_mul a b
  have mx := u64_mask32 x hx
  have my := u64_mask32 y hy
  have dx : (x : Int) / 4294967296 = ((x / 4294967296 : Nat) : Int) := by omega
  have dy : (y : Int) / 4294967296 = ((y / 4294967296 : Nat) : Int) := by omega
  have mxy : IntKind.u64.wrap ((x : Int) * (y : Int)) = ((x * y % 18446744073709551616 : Nat) : Int) := by rw [← Int.natCast_mul, IntKind.wrap_u64]; omega
  obtain ⟨HI, hHI⟩ : ∃ H, H = x * y / 18446744073709551616 := ⟨_, rfl⟩
  obtain ⟨LO, hLO⟩ : ∃ H, H = x * y % 18446744073709551616 := ⟨_, rfl⟩
  rw [← hLO] at mxy
  rw [← hHI] at hhi
  rw [← hHI, ← hLO]
  clear hHI hLO
  generalize x % 4294967296 = x0 at *
  generalize x / 4294967296 = x1 at *
  generalize y % 4294967296 = y0 at *
  generalize y / 4294967296 = y1 at *
  obtain ⟨p00, h00⟩ : ∃ p, p = x0 * y0 := ⟨_, rfl⟩
  obtain ⟨p10, h10⟩ : ∃ p, p = x1 * y0 := ⟨_, rfl⟩
  obtain ⟨p01, h01⟩ : ∃ p, p = x0 * y1 := ⟨_, rfl⟩
  obtain ⟨p11, h11⟩ : ∃ p, p = x1 * y1 := ⟨_, rfl⟩
  have m00 := ml x0 y0
  have m10 := ml x1 y0
  have m01 := ml x0 y1
  have m11 := ml x1 y1
  rw [← h00] at m00 bd bt bw hhi
  rw [← h10] at m10 bt bw hhi bb
  rw [← h01] at m01 bw hhi bc
  rw [← h11] at m11 hhi ba
  replace m00 := m00.symm
  replace m10 := m10.symm
  replace m01 := m01.symm
  replace m11 := m11.symm
  obtain ⟨q0, hq0⟩ : ∃ q, q = p00 / 4294967296 := ⟨_, rfl⟩
  have e0 : (p00 : Int) / 4294967296 = (q0 : Int) := by omega
  rw [← hq0] at bt bw hhi
  obtain ⟨t, ht⟩ : ∃ t, t = p10 + q0 := ⟨_, rfl⟩
  have e1 : (p10 : Int) + (q0 : Int) = (t : Int) := by omega
  rw [← ht] at bt bw hhi
  have e2 := u64_mask32 t (by omega)
  have e3 : (t : Int) / 4294967296 = ((t / 4294967296 : Nat) : Int) := by omega
  generalize t % 4294967296 = tl at *
  generalize t / 4294967296 = th at *
  obtain ⟨v, hv⟩ : ∃ v, v = tl + p01 := ⟨_, rfl⟩
  have e4 : (tl : Int) + (p01 : Int) = (v : Int) := by omega
  rw [← hv] at bw hhi
  have e5 : (v : Int) / 4294967296 = ((v / 4294967296 : Nat) : Int) := by omega
  generalize v / 4294967296 = vh at *
  obtain ⟨z, hz⟩ : ∃ z, z = p11 + th := ⟨_, rfl⟩
  have e6 : (p11 : Int) + (th : Int) = (z : Int) := by omega
  rw [← hz] at hhi
  have e7 : (z : Int) + (vh : Int) = (HI : Int) := by omega
  clear hz hv ht hq0 h00 h10 h01 h11 ml hx hy hhi
  go_enter Tryz.func58, Tryz.ntmps58
  go_wp2
  skip
  go_ret2
  exact ⟨rfl, rfl⟩
end Go.Proofs.YtfbjeifhpmdjaaaGreat
