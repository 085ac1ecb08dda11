/-
  Plain: a sum's words of 64 bits, in two's complement. Conditions: those that each theorem names.
-/
import Derived.Test.YtfbjeifhpmdjaaaZ04
import Derived.Test.YtfbjeifhpmdjaaaZ02
import Derived.Laws.Externs
import Derived.Laws.DeepNot64
import Derived.Orders
import Derived.Still
import Derived.Tactics
import Derived.KernelRfl
namespace Go.Proofs.Ytfbjeifhpmdjaaa
open Nm Rn
set_option linter.unusedVariables false
set_option linter.unusedSimpArgs false

/-- The value of a list of words of 64 bits, the lowest first. -/
def vl : List Nat → Nat
  | [] => 0
  | x :: l => x + 18446744073709551616 * vl l
def W6 (l : List Nat) : Prop := ∀ x ∈ l, x < 18446744073709551616
/-- So many words of a value. -/
def dg : Nat → Nat → List Nat
  | 0, _ => []
  | n + 1, v => v % 18446744073709551616 :: dg n (v / 18446744073709551616)
theorem dg_len : ∀ (n v : Nat), (dg n v).length = n
  | 0, _ => rfl
  | n + 1, v => by simp [dg, dg_len n]
theorem dg_w6 : ∀ (n v : Nat), W6 (dg n v)
  | 0, _ => fun x h => by cases h
  | n + 1, v => fun x h => by
    rcases List.mem_cons.1 h with rfl | h
    · omega
    · exact dg_w6 n _ x h
theorem W6.get {l : List Nat} (h : W6 l) {k : Nat} (hk : k < l.length) : l[k] < 18446744073709551616 := h _ (List.getElem_mem hk)
theorem W6.set {l : List Nat} (h : W6 l) (k : Nat) {x : Nat} (hx : x < 18446744073709551616) : W6 (l.set k x) := by
  intro y hy
  rcases List.mem_or_eq_of_mem_set hy with hy | rfl
  · exact h y hy
  · exact hx
theorem W6.tail {x : Nat} {l : List Nat} (h : W6 (x :: l)) : W6 l := fun y hy => h y (List.mem_cons_of_mem _ hy)
theorem W6.head {x : Nat} {l : List Nat} (h : W6 (x :: l)) : x < 18446744073709551616 := h x List.mem_cons_self
theorem vl_lt : ∀ {l : List Nat}, W6 l → vl l < 18446744073709551616 ^ l.length
  | [], _ => by simp [vl]
  | x :: l, h => by
    have h1 := vl_lt h.tail
    have h2 := h.head
    rw [List.length_cons, Nat.pow_succ, vl]
    generalize 18446744073709551616 ^ l.length = P at *
    omega
theorem vl_dg : ∀ (n v : Nat), vl (dg n v) = v % 18446744073709551616 ^ n
  | 0, v => by simp [vl, dg, Nat.mod_one]
  | n + 1, v => by
    rw [dg, vl, vl_dg n, Nat.pow_succ, Nat.mul_comm (18446744073709551616 ^ n), Nat.mod_mul]
theorem dg_vl : ∀ {l : List Nat}, W6 l → dg l.length (vl l) = l
  | [], _ => rfl
  | x :: l, h => by
    have h2 := h.head
    rw [List.length_cons, dg, vl, show (x + 18446744073709551616 * vl l) / 18446744073709551616 = vl l by omega, dg_vl h.tail, show (x + 18446744073709551616 * vl l) % 18446744073709551616 = x by omega]
theorem vl_set : ∀ {l : List Nat} {k : Nat} (hk : k < l.length) (y : Nat), vl (l.set k y) + 18446744073709551616 ^ k * l[k] = vl l + 18446744073709551616 ^ k * y
  | [], k, hk, _ => by simp at hk
  | x :: l, 0, hk, y => by simp [vl]; omega
  | x :: l, k + 1, hk, y => by
    have hk1 : k < l.length := by simpa using hk
    have := vl_set hk1 y
    simp only [List.set_cons_succ, vl, List.getElem_cons_succ, Nat.pow_succ]
    generalize 18446744073709551616 ^ k = P at *
    rw [Nat.mul_right_comm P _ (l[k]'hk1), Nat.mul_right_comm P _ y]
    omega
theorem vl_take_succ : ∀ {l : List Nat} {k : Nat} (hk : k < l.length), vl (l.take (k + 1)) = vl (l.take k) + 18446744073709551616 ^ k * l[k]
  | [], k, hk => by simp at hk
  | x :: l, 0, hk => by simp [vl]
  | x :: l, k + 1, hk => by
    have := vl_take_succ (l := l) (k := k) (by simpa using hk)
    simp only [List.take_succ_cons, vl, List.getElem_cons_succ, Nat.pow_succ] at this ⊢
    rw [this]
    generalize 18446744073709551616 ^ k = P at *
    rw [Nat.mul_right_comm P]
    omega
/-- The words' number of values. -/
def MM : Nat := 18446744073709551616 ^ 68
theorem MM_pos : 0 < MM := Nat.pow_pos (by decide)
/-- A sum's words. -/
def sw (T : Int) : List Nat := dg 68 (T % (MM : Int)).toNat
theorem sw_len (T : Int) : (sw T).length = 68 := dg_len _ _
theorem sw_w6 (T : Int) : W6 (sw T) := dg_w6 _ _
theorem mm_mod (T : Int) : (((T % (MM : Int)).toNat : Nat) : Int) = T % (MM : Int) := by
  have := MM_pos
  exact Int.toNat_of_nonneg (Int.emod_nonneg _ (by omega))
theorem mm_lt (T : Int) : (T % (MM : Int)).toNat < MM := by
  have := MM_pos
  have h1 := Int.emod_lt_of_pos T (show (0 : Int) < MM by omega)
  have h2 := mm_mod T
  omega
theorem vl_sw (T : Int) : (vl (sw T) : Int) = T % (MM : Int) := by
  unfold sw
  rw [vl_dg, show 18446744073709551616 ^ 68 = MM from rfl, Nat.mod_eq_of_lt (mm_lt T), mm_mod]
theorem sw_of {l : List Nat} {T : Int} (hl : l.length = 68) (h : W6 l) (e : (vl l : Int) = T % (MM : Int)) : l = sw T := by
  unfold sw
  rw [← e, Int.toNat_natCast, ← hl, dg_vl h]
/-- What a chain leaves. -/
theorem sw_end {l : List Nat} {T : Int} {c : Int} (hl : l.length = 68) (h : W6 l) (e : (vl l : Int) + c * (MM : Int) = T) : l = sw T := by
  refine sw_of hl h ?_
  have h1 := vl_lt h
  rw [hl, show 18446744073709551616 ^ 68 = MM from rfl] at h1
  rw [← e, Int.add_mul_emod_self_right]
  exact (Int.emod_eq_of_lt (by omega) (by omega)).symm
theorem sw_congr {S T : Int} (h : S % (MM : Int) = T % (MM : Int)) : sw S = sw T := by unfold sw; rw [h]

/-- One step of a chain: a word is added, or taken away. -/
theorem lay_step {l : List Nat} {p c x r c' : Nat} {s : Bool} {V Xp : Int} (hp : p < l.length) (hr : (r : Int) + sn s (18446744073709551616 * c') = (l[p] : Int) + sn s (x + c))
    (h : (vl l : Int) + sn s (c * 18446744073709551616 ^ p) = V + Xp) : (vl (l.set p r) : Int) + sn s (c' * 18446744073709551616 ^ (p + 1)) = V + (Xp + sn s (x * 18446744073709551616 ^ p)) := by
  have hs := vl_set hp r
  rw [Nat.pow_succ]
  generalize (18446744073709551616 : Nat) ^ p = P at *
  generalize l[p] = o at *
  generalize vl (l.set p r) = A at *
  generalize vl l = B at *
  have h2 := congrArg (fun z : Int => (P : Int) * z) hr
  have h3 : ((A + P * o : Nat) : Int) = ((B + P * r : Nat) : Int) := by rw [hs]
  simp only [Int.natCast_add, Int.natCast_mul] at h3
  unfold sn at *
  cases s
  · simp only [Bool.false_eq_true, if_false, Int.natCast_add, Int.natCast_mul, Int.mul_add] at *
    rw [Int.mul_comm (P : Int) c, Int.mul_comm (P : Int) x, show (P : Int) * ((18446744073709551616 : Nat) * (c' : Int)) = (c' : Int) * ((P : Int) * (18446744073709551616 : Nat)) by rw [Int.mul_comm (18446744073709551616 : Nat) (c' : Int), ← Int.mul_assoc, Int.mul_comm (P : Int) (c' : Int), Int.mul_assoc]] at h2
    omega
  · simp only [if_true, Int.natCast_add, Int.natCast_mul, Int.mul_add, Int.mul_neg, Int.neg_add] at *
    rw [Int.mul_comm (P : Int) c, Int.mul_comm (P : Int) x, show (P : Int) * ((18446744073709551616 : Nat) * (c' : Int)) = (c' : Int) * ((P : Int) * (18446744073709551616 : Nat)) by rw [Int.mul_comm (18446744073709551616 : Nat) (c' : Int), ← Int.mul_assoc, Int.mul_comm (P : Int) (c' : Int), Int.mul_assoc]] at h2
    omega
theorem add_word {x y c : Nat} : (((x + y + c) % 18446744073709551616 : Nat) : Int) + sn false (18446744073709551616 * ((x + y + c) / 18446744073709551616)) = (x : Int) + sn false (y + c) := by
  unfold sn
  simp only [Bool.false_eq_true, if_false]
  omega
theorem sub_word {x y c : Nat} (hx : x < 18446744073709551616) (hy : y < 18446744073709551616) (hc : c ≤ 1) : (((x + 18446744073709551616 - y - c) % 18446744073709551616 : Nat) : Int) + sn true (18446744073709551616 * (if x < y + c then 1 else 0)) = (x : Int) + sn true (y + c) := by
  unfold sn
  simp only [if_true]
  split <;> omega
/-- One step of the turning. -/
theorem neg_step {l l0 : List Nat} {j c r c' : Nat} (hj : j < l.length) (hj0 : j < l0.length) (ho : l[j] = l0[j]) (hr : r + 18446744073709551616 * c' = 18446744073709551615 - l0[j] + c) (h0 : l0[j] < 18446744073709551616)
    (h : (vl l : Int) + c * (18446744073709551616 ^ j : Nat) = vl l0 - 2 * vl (l0.take j) + (18446744073709551616 ^ j : Nat)) :
    (vl (l.set j r) : Int) + c' * (18446744073709551616 ^ (j + 1) : Nat) = vl l0 - 2 * vl (l0.take (j + 1)) + (18446744073709551616 ^ (j + 1) : Nat) := by
  have hs := vl_set hj r
  rw [vl_take_succ hj0, Nat.pow_succ]
  rw [ho] at hs
  generalize (18446744073709551616 : Nat) ^ j = P at *
  generalize l0[j] = o at *
  generalize vl (l.set j r) = A at *
  generalize vl l = B at *
  have h2 := congrArg (fun z : Nat => P * z) (show r + 18446744073709551616 * c' + o + 1 = 18446744073709551616 + c by omega)
  simp only [Nat.mul_add] at h2
  rw [← Nat.mul_assoc, Nat.mul_comm P 18446744073709551616, Nat.mul_assoc] at h2
  rw [Nat.mul_comm P c] at h2
  have h4 : (c' : Int) * ((P * 18446744073709551616 : Nat) : Int) = 18446744073709551616 * ((P * c' : Nat) : Int) := by
    rw [Int.natCast_mul, Int.natCast_mul, ← Int.mul_assoc, Int.mul_comm (c' : Int) P, Int.mul_comm]
    rfl
  rw [h4]
  have h5 : (c : Int) * (P : Int) = ((c * P : Nat) : Int) := by rw [Int.natCast_mul]
  rw [h5] at h
  generalize P * c' = q1 at *
  generalize c * P = q2 at *
  generalize P * o = q3 at *
  generalize P * r = q4 at *
  omega
end Go.Proofs.Ytfbjeifhpmdjaaa

/-
  What the library's functions without a body answer. Conditions: those that each theorem names.
-/
namespace Go.Proofs.Ytfbjeifhpmdjaaa
open Go.RowKit Nm Rn
set_option maxRecDepth 100000
set_option linter.unusedVariables false
set_option linter.unusedSimpArgs false

@[go_sem] theorem run_store_float (P : Program) (w : World) (a : Addr) (m : Mode) (k : FloatKind) (b : Nat) : (store a (.float k b) m).run P w = stored P w a (.float k b) m := run_store P w a _ m rfl

theorem callF64b (args : Array Value) (w : World) : (callFunc 52 args).run Try.prog w = ((Extern.MathFloatBits.float64bits args).run Try.prog w).andThen fun v w' => .ok (.value v) w' :=
  run_callFunc_extern Try.func52 (by kernel_rfl) (by kernel_rfl) (by kernel_rfl) (by kernel_rfl) args w
@[go_sem] theorem callF64b' (b : Nat) (w : World) : (callFunc 52 #[.float .f64 b]).run Try.prog w = .ok (.value (.int .u64 (b : Int))) w := by
  rw [callF64b]; rfl
theorem callF64f (args : Array Value) (w : World) : (callFunc 47 args).run Try.prog w = ((Extern.MathFloatBits.float64frombits args).run Try.prog w).andThen fun v w' => .ok (.value v) w' :=
  run_callFunc_extern Try.func47 (by kernel_rfl) (by kernel_rfl) (by kernel_rfl) (by kernel_rfl) args w
@[go_sem] theorem callF64f' (n : Int) (w : World) : (callFunc 47 #[.int .u64 n]).run Try.prog w = .ok (.value (.float .f64 n.toNat)) w := by
  rw [callF64f]; rfl

/-- The sign's place. -/
theorem andNot_top (b : Nat) (h : b < 18446744073709551616) : bits .andNot .u64 (b : Int) 9223372036854775808 = (mg b : Int) := by
  have e : (9223372036854775808 : Int) = ((9223372036854775808 : Nat) : Int) := rfl
  rw [e, u64_andNot_nat _ _ h (by omega)]
  congr 1
  have e2 : (18446744073709551615 - 9223372036854775808 : Nat) = 2 ^ 63 - 1 := by decide
  rw [e2, Nat.and_two_pow_sub_one_eq_mod]
  rfl

set_option maxHeartbeats 400000 in
theorem isnan_any (b : Nat) (w : World) (h : b < 18446744073709551616) :
    Calls Try.prog 53 #[.int .u64 (b : Int)] w fun e w' => e = .returned (.bool (isNaN b)) ∧ w = w' := by
  have g := andNot_top b h
  have HF : Hid (decide ((9218868437227405312 : Int) < (mg b : Int)) = isNaN b) := Lib.hid (by unfold isNaN; rw [infR_val]; exact decide_eq_decide.2 (by omega))
  clear h
  go_enter Try.func53, Try.ntmps53
  go_wp2
  go_ret
  exact ⟨ret_bool HF.out, rfl⟩
set_option maxHeartbeats 400000 in
theorem plain3_any (b : Nat) (w : World) (h : b < 18446744073709551616) :
    Calls Try.prog 19 #[.int .u64 (b : Int)] w fun e w' => e = .returned (.int .u64 (plN b : Nat)) ∧ w = w' := by
  have hn := isnan_any b w h
  by_cases h0 : b = 9223372036854775808
  · have HF : Hid ((0 : Int) = (plN b : Nat)) := Lib.hid (by unfold plN; rw [if_pos h0]; rfl)
    clear hn h
    have h1 : ((b : Int) == 9223372036854775808) = true := by rw [beq_iff_eq]; omega
    clear h0
    go_enter Try.func19, Try.ntmps19
    go_wp2
    go_ret
    exact ⟨ret_int HF.out, rfl⟩
  · have h1 : ((b : Int) == 9223372036854775808) = false := by rw [beq_eq_false_iff_ne]; omega
    cases h2 : isNaN b
    · have HF : Hid ((b : Int) = (plN b : Nat)) := Lib.hid (by unfold plN; rw [if_neg h0, h2, if_neg (by simp)])
      rw [h2] at hn
      have HN := Lib.hid hn
      clear hn h h0 h2
      go_enter Try.func19, Try.ntmps19
      go_wp2_with fail
      refine HN.out.mono ?_
      rintro e w1 ⟨rfl, rfl⟩
      go_wp2
      go_ret
      exact ⟨ret_int HF.out, rfl⟩
    · have HF : Hid ((9221120237041090561 : Int) = (plN b : Nat)) := Lib.hid (by unfold plN; rw [if_neg h0, h2, if_pos rfl]; rfl)
      rw [h2] at hn
      have HN := Lib.hid hn
      clear hn h h0 h2
      go_enter Try.func19, Try.ntmps19
      go_wp2_with fail
      refine HN.out.mono ?_
      rintro e w1 ⟨rfl, rfl⟩
      go_wp2
      go_ret
      exact ⟨ret_int HF.out, rfl⟩
end Go.Proofs.Ytfbjeifhpmdjaaa

/-
  Comparisons of floats in the walk's own form; what math.Inf, Abs, IsNaN and IsInf answer. Conditions: those that each theorem names.
-/
namespace Go.Proofs.Ytfbjeifhpmdjaaa
open Go.RowKit Nm Rn
set_option maxRecDepth 100000
set_option linter.unusedVariables false
set_option linter.unusedSimpArgs false

theorem fo_lt {x y : Nat} (hx : x < 18446744073709551616) (hy : y < 18446744073709551616) : (FloatKind.f64.format.order x y == some .lt) = ltB x y := order_lt hx hy
theorem fo_eq {x y : Nat} (hx : x < 18446744073709551616) (hy : y < 18446744073709551616) : (FloatKind.f64.format.order x y == some .eq) = eqB x y := order_eqv hx hy
theorem fo_ne {x y : Nat} (hx : x < 18446744073709551616) (hy : y < 18446744073709551616) : (FloatKind.f64.format.order x y != some .eq) = !eqB x y := by rw [bne, fo_eq hx hy]
theorem fo_gt {x y : Nat} (hx : x < 18446744073709551616) (hy : y < 18446744073709551616) : (FloatKind.f64.format.order x y == some .gt) = ltB y x := order_gt hx hy
theorem fo_le {x y : Nat} (hx : x < 18446744073709551616) (hy : y < 18446744073709551616) : (FloatKind.f64.format.order x y == some .lt || FloatKind.f64.format.order x y == some .eq) = leB x y := order_le hx hy
theorem fo_ge {x y : Nat} (hx : x < 18446744073709551616) (hy : y < 18446744073709551616) : (FloatKind.f64.format.order x y == some .gt || FloatKind.f64.format.order x y == some .eq) = leB y x := order_ge hx hy
theorem infR_lt : infR < 18446744073709551616 := by rw [infR_val]; omega
theorem minf_lt : minf < 18446744073709551616 := by rw [minf_val]; omega

set_option maxHeartbeats 400000 in
theorem inf_p (w : World) : Calls Try.prog 70 #[.int .i64 1] w fun e w' => e = .returned (.float .f64 infR) ∧ w = w' := by
  go_enter Try.func70, Try.ntmps70
  go_wp2
  go_ret
  exact ⟨rfl, rfl⟩
set_option maxHeartbeats 400000 in
theorem inf_m (w : World) : Calls Try.prog 70 #[.int .i64 (-1)] w fun e w' => e = .returned (.float .f64 minf) ∧ w = w' := by
  go_enter Try.func70, Try.ntmps70
  go_wp2
  go_ret
  exact ⟨rfl, rfl⟩

theorem mg_lt64 (b : Nat) : mg b < 18446744073709551616 := by have := mg_lt b; omega
theorem sg_mg (b : Nat) : sg (mg b) = false := by unfold sg; exact decide_eq_false (by have := mg_lt b; omega)
theorem mg_mg (b : Nat) : mg (mg b) = mg b := by unfold mg; omega
theorem key_mg (b : Nat) : key (mg b) = (mg b : Int) := by unfold key; rw [sg_mg, mg_mg]; rfl
theorem nan_mg (b : Nat) : isNaN (mg b) = isNaN b := by unfold isNaN; rw [mg_mg]
theorem eqB_self (b : Nat) : eqB b b = !isNaN b := by unfold eqB; cases isNaN b <;> simp
theorem lt_max (b : Nat) : ltB 9218868437227405311 (mg b) = isInf b := by
  unfold ltB
  rw [nan_mg, key_mg, show isNaN 9218868437227405311 = false from rfl, show key 9218868437227405311 = 9218868437227405311 from rfl]
  unfold isNaN isInf
  rw [infR_val, Bool.eq_iff_iff]
  simp
  omega

set_option maxHeartbeats 400000 in
theorem mabs_any (b : Nat) (w : World) (h : b < 18446744073709551616) :
    Calls Try.prog 76 #[.float .f64 b] w fun e w' => e = .returned (.float .f64 (mg b)) ∧ w = w' := by
  have g := andNot_top b h
  go_enter Try.func76, Try.ntmps76
  go_wp2
  go_ret
  exact ⟨rfl, rfl⟩
set_option maxHeartbeats 400000 in
theorem mnan_any (b : Nat) (w : World) (h : b < 18446744073709551616) :
    Calls Try.prog 43 #[.float .f64 b] w fun e w' => e = .returned (.bool (isNaN b)) ∧ w = w' := by
  have hq := fo_ne h h
  rw [eqB_self, Bool.not_not] at hq
  clear h
  go_enter Try.func43, Try.ntmps43
  go_wp2
  go_ret
  exact ⟨rfl, rfl⟩
set_option maxHeartbeats 400000 in
theorem misinf_any (b : Nat) (w : World) (h : b < 18446744073709551616) :
    Calls Try.prog 44 #[.float .f64 b, .int .i64 0] w fun e w' => e = .returned (.bool (isInf b)) ∧ w = w' := by
  have hq := fo_gt (mg_lt64 b) (show 9218868437227405311 < 18446744073709551616 by omega)
  rw [lt_max] at hq
  have HA := Lib.hid (fun w => mabs_any b w h)
  clear h
  go_enter Try.func44, Try.ntmps44
  go_wp2_with (go_at_call 76; refine (HA.out _).mono ?_; rintro e w' ⟨rfl, rfl⟩)
  go_ret
  exact ⟨rfl, rfl⟩
end Go.Proofs.Ytfbjeifhpmdjaaa

/-
  Plain, over whatever program: a region whose order is open, in which each operation gives one and the same value from every world of a kind and stays in that kind: walked once, in the order of the text. Conditions: those that each theorem names.
-/
namespace Go.Proofs.Ytfbjeifhpmdjaaa
open Go
set_option linter.unusedVariables false

section
variable {P : Program} {ops : Array Oper} {md : Region.Mode} {S : World → Prop}

/-- The operation's outcome is the value v, in a world of the kind. -/
def Gives (P : Program) (S : World → Prop) (v : Value) : Result Next → Prop
  | .ok (.value u) w' => u = v ∧ S w'
  | .ok .skip w' => undef = v ∧ S w'
  | .ok (.enter f args) w' => Calls P f args w' fun e w'' => e = .returned v ∧ S w''
  | _ => False
@[go_sem] theorem gives_value (v u : Value) (w : World) : Gives P S v (.ok (.value u) w) = (u = v ∧ S w) := rfl
@[go_sem] theorem gives_skip (v : Value) (w : World) : Gives P S v (.ok .skip w) = (undef = v ∧ S w) := rfl
@[go_sem] theorem gives_enter (v : Value) (f : FuncId) (args : Array Value) (w : World) : Gives P S v (.ok (.enter f args) w) = Calls P f args w (fun e w'' => e = .returned v ∧ S w'') := rfl

/-- What one operation does, from every world of the kind. -/
def Steady (P : Program) (ops : Array Oper) (S : World → Prop) (o : Oper) (v : Value) (a : Act) : Prop :=
  (Region.wanted o (yielded ops a.tmps) = true ∧ ∀ w, S w → Gives P S v ((execOp a.eval o).run P w)) ∨ (Region.wanted o (yielded ops a.tmps) = false ∧ v = undef)

theorem Steady.of_same {o : Oper} {v : Value} {a a' : Act} (h : Steady P ops S o v a) (he : execOp a'.eval o = execOp a.eval o)
    (hw : Region.wanted o (yielded ops a'.tmps) = Region.wanted o (yielded ops a.tmps)) : Steady P ops S o v a' := by
  unfold Steady at *
  rw [he, hw]
  exact h

theorem Steady.wpOp {i : Nat} {o : Oper} {v : Value} {a : Act} {w : World} {K : Act → World → Prop} {Q : Exit → Act → World → Prop} (hi : ops[i]? = some o) (h : Steady P ops S o v a) (hw : S w)
    (hK : ∀ w', S w' → K (a.put o.dst v) w') : wpOp P ops Q i K a w := by
  unfold Go.wpOp
  simp only [hi]
  rcases h with ⟨h1, h2⟩ | ⟨h1, rfl⟩
  · rw [if_pos h1]
    refine .inl ?_
    have h3 := h2 w hw
    unfold Oper.wp
    generalize (execOp a.eval o).run P w = r at h3
    cases r with
    | ok n w' =>
      cases n <;> simp only [Gives] at h3 <;> simp only [Oper.upon]
      case value u => obtain ⟨rfl, h4⟩ := h3; exact hK _ h4
      case skip => obtain ⟨rfl, h4⟩ := h3; exact hK _ h4
      case enter f args => exact h3.mono fun e w'' ⟨he, h4⟩ => by subst he; exact hK _ h4
    | halt x w' => simp only [Gives] at h3
  · rw [if_neg (by rw [h1]; simp)]
    exact hK _ hw

/-- What may come up, whatever comes up, in whatever world of the kind. -/
def wpAnyG (P : Program) (md : Region.Mode) (ops : Array Oper) (S : World → Prop) (Q : Act → Prop) : Nat → Array Bool → Act → Prop
  | 0, listed, a => Region.ready md ops listed = [] ∧ Q a
  | f + 1, listed, a => (Region.ready md ops listed = [] → Q a) ∧
    ∀ i ∈ Region.ready md ops listed, ∃ o v, ops[i]? = some o ∧ Steady P ops S o v a ∧ wpAnyG P md ops S Q f (listed.setIfInBounds i true) (a.put o.dst v)

theorem wpAny_of_G {Q : Act → Prop} {Q' : Exit → Act → World → Prop} (hQ : ∀ a w, Q a → S w → Q' .normal a w) : ∀ (f : Nat) (listed : Array Bool) (a : Act) (w : World), S w →
    wpAnyG P md ops S Q f listed a → wpAny P md ops Q' f listed a w
  | 0, _, _, _, hS, h => ⟨h.1, hQ _ _ h.2 hS⟩
  | f + 1, _, _, _, hS, h => ⟨fun h0 => hQ _ _ (h.1 h0) hS, fun i hi => by
      obtain ⟨o, v, h1, h2, h3⟩ := h.2 i hi
      exact h2.wpOp h1 hS fun w' hS' => wpAny_of_G hQ f _ _ w' hS' h3⟩

theorem not_listed {i : Nat} {listed : Array Bool} (h : listed.getD i true = false) : ¬ listed.getD i false = true := by
  intro h'
  rcases Nat.lt_or_ge i listed.size with h1 | h1
  · simp [h1] at h h'
    rw [h] at h'
    cases h'
  · simp [Array.getElem?_eq_none h1] at h

/-- One that is ready, and on which none of the others looks, may come first. -/
theorem wpAnyG_first {Q : Act → Prop} {i : Nat} {oi : Oper} {v : Value} (hi : ops[i]? = some oi) (hsel : Region.noSelect ops = true) :
    ∀ (f : Nat) (listed : Array Bool) (a : Act),
      (∀ j oj, ops[j]? = some oj → j ≠ i → listed.getD j true = false → (∀ e ∈ oj.after, Region.binds md e = true → e.on ≠ i) → oi.apart ops oj = true) →
      i ∈ Region.ready md ops listed → Steady P ops S oi v a → wpAnyG P md ops S Q f (listed.setIfInBounds i true) (a.put oi.dst v) → wpAnyG P md ops S Q (f + 1) listed a := by
  intro f
  induction f with
  | zero =>
    intro listed a _ hr hy H
    refine ⟨fun h => (by rw [h] at hr; cases hr), fun j hj => ?_⟩
    by_cases hji : j = i
    · subst hji; exact ⟨oi, v, hi, hy, H⟩
    · have h1 := ready_mono hj hji
      rw [H.1] at h1
      cases h1
  | succ f ih =>
    intro listed a hfree hr hy H
    refine ⟨fun h => (by rw [h] at hr; cases hr), fun j hj => ?_⟩
    by_cases hji : j = i
    · subst hji; exact ⟨oi, v, hi, hy, H⟩
    · obtain ⟨o', u, h1, h2, h3⟩ := H.2 j (ready_mono hj hji)
      obtain ⟨hjun, oj, hoj, hall⟩ := mem_ready.1 hj
      have e0 : o' = oj := Option.some.inj (h1.symm.trans hoj)
      subst e0
      have hnot : ∀ e ∈ o'.after, Region.binds md e = true → e.on ≠ i := fun e he hb heq => by
        have h4 := hall e he hb
        rw [heq] at h4
        exact not_listed (mem_ready.1 hr).1 h4
      obtain ⟨a1, a2, a3⟩ := Oper.apart_spec (hfree j o' hoj hji hjun hnot)
      have s1 := Region.noSelect_spec hsel j o'
      have s2 := Region.noSelect_spec hsel i oi
      refine ⟨o', u, hoj, h2.of_same (execOp_put o' (fun cs b => s1 cs b hoj) a oi.dst v a1).symm (wanted_put o' a oi.dst v a1).symm, ?_⟩
      refine ih (listed.setIfInBounds j true) _ (fun k ok hk hki hun hno => ?_) (ready_mono hr (Ne.symm hji)) ?_ ?_
      · refine hfree k ok hk hki ?_ hno
        by_cases hjk : j = k
        · subst hjk; exact hjun
        · rw [getD_set_ne true hjk] at hun; exact hun
      · exact hy.of_same (execOp_put oi (fun cs b => s2 cs b hi) a o'.dst u a3) (wanted_put oi a o'.dst u a3)
      · rw [Array.setIfInBounds_comm _ _ hji, ← Act.put_comm a v u a2]
        exact h3

/-- In the order of the text. -/
def wpG (P : Program) (ops : Array Oper) (S : World → Prop) (Q : Act → Prop) : List Oper → Act → Prop
  | [], a => Q a
  | o :: rest, a => if Region.wanted o (yielded ops a.tmps) then ∃ v, (∀ w, S w → Gives P S v ((execOp a.eval o).run P w)) ∧ wpG P ops S Q rest (a.put o.dst v) else wpG P ops S Q rest (a.put o.dst undef)

theorem wpG_lex {Q : Act → Prop} (hs : Region.noSelect ops = true) : ∀ (l : List Oper) (k : Nat) (listed : Array Bool) (a : Act), (∀ j, l[j]? = ops[k + j]?) →
    Region.lexFrom md ops l.length k listed = true → wpG P ops S Q l a → wpAnyG P md ops S Q l.length listed a
  | [], _, _, _, _, hB, h => ⟨by simpa [Region.lexFrom] using hB, h⟩
  | o :: l, k, listed, a, hl, hB, h => by
    have h0 : ops[k]? = some o := by simpa using (hl 0).symm
    simp only [List.length_cons, Region.lexFrom, Bool.and_eq_true] at hB
    obtain ⟨⟨hr, hf⟩, hB'⟩ := hB
    have step : ∃ v, Steady P ops S o v a ∧ wpG P ops S Q l (a.put o.dst v) := by
      unfold wpG at h
      by_cases hw : Region.wanted o (yielded ops a.tmps) = true
      · rw [if_pos hw] at h
        obtain ⟨v, h1, h2⟩ := h
        exact ⟨v, .inl ⟨hw, h1⟩, h2⟩
      · rw [if_neg hw] at h
        exact ⟨undef, .inr ⟨by simpa using hw, rfl⟩, h⟩
    obtain ⟨v, hy, hK⟩ := step
    exact wpAnyG_first h0 hs l.length listed a (Region.free_spec h0 hf) (by simpa using hr) hy
      (wpG_lex hs l (k + 1) _ _ (fun j => by have := hl (j + 1); simpa [Nat.add_assoc, Nat.add_comm 1 j] using this) hB' hK)

theorem wp_region_steady {id : Nat} {Q : Exit → Act → World → Prop} {a : Act} {w : World} {l : List Oper} (S : World → Prop) (hm : P.follows .mixedOrders = true) (hB : Region.lexB .any l.toArray = true)
    (hS : S { w with drawn := w.drawn + 1 }) (h : wpG P l.toArray S (fun a' => ∀ w', S w' → Q .normal a' w') l a) : (Code.region id l.toArray true).wp P Q a w := by
  simp only [Region.lexB, Bool.and_eq_true] at hB
  refine wp_region_any hm (wpAny_of_G (S := S) (Q := fun a' => ∀ w', S w' → Q .normal a' w') (fun _ w' h hS => h w' hS) _ _ _ _ hS ?_)
  have := wpG_lex (md := .any) hB.1 l 0 (Array.replicate l.toArray.size false) a (by simp) (by simpa using hB.2) h
  simpa using this

theorem wpG_nil {Q : Act → Prop} {a : Act} (h : Q a) : wpG P ops S Q [] a := h
/-- One step, closed to the walk. -/
def StepG (P : Program) (S : World → Prop) (o : Oper) (a : Act) (K : Act → Prop) : Prop := ∃ v, (∀ w, S w → Gives P S v ((execOp a.eval o).run P w)) ∧ K (a.put o.dst v)
theorem StepG.mk {o : Oper} {a : Act} {K : Act → Prop} {v : Value} (h : ∀ w, S w → Gives P S v ((execOp a.eval o).run P w)) (k : K (a.put o.dst v)) : StepG P S o a K := ⟨v, h, k⟩
theorem wpG_step {Q : Act → Prop} {a : Act} {o : Oper} {rest : List Oper}
    (h : ∀ K : Act → Prop, (∀ a, wpG P ops S Q rest a → K a) → if Region.wanted o (yielded ops a.tmps) then StepG P S o a K else K (a.put o.dst undef)) : wpG P ops S Q (o :: rest) a :=
  h _ fun _ h => h
end
end Go.Proofs.Ytfbjeifhpmdjaaa
