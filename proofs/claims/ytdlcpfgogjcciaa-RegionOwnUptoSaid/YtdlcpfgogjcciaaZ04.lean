/- append at bytes: a text's bytes, noughts, two bytes. Plain functions of chapter 1 on lists of bytes and integers: what the numbers' bytes are. No program in sight. Facts on words of bits, as the walks of numbers meet them. The walks of package num (layer 1): what each function answers. No statement of the seat is proved here. -/
import Derived.Test.YtdlcpfgogjcciaaZ02
import Derived.Lib.AppendStr
namespace Go.Proofs.Ytdlcpfgogjcciaa
open Go.RowKit

theorem zeros_cells (m : Nat) : Builtin.zeroCells (Value.int .u8 0).cells m = (Lib.strCells ⟨Array.replicate m 0⟩).toArray := by
  apply Array.ext
  · simp [Builtin.zeroCells, Lib.strCells, Value.cells]
  · intro j h1 h2
    simp [Builtin.zeroCells, Lib.strCells, Value.cells, Nat.mod_one]

theorem run_append_zeros_eq {P : Program} (w : World) (t ti u ty e : TypeId) (i : TypeInfo) (k : IntKind) (ht : P.underlying t = some (.slice e)) (hti : P.underlying ti = some (.int k)) (hu : P.underlying u = some .string)
    (hi : P.info? e = some i) (hz : i.zero = some (.int .u8 0)) (hsize : i.size = 1) (hby : i.bytes = 1) (A : Option Addr) (n c m : Nat) (hnm : n + m ≤ 140737488355328) :
    (Builtin.append_ #[t, ti] ty #[.slice A n c, .int .i64 m]).run P w = (Builtin.append_ #[t, u] ty #[.slice A n c, .string ⟨Array.replicate m 0⟩]).run P w := by
  have hsz : (ByteArray.mk (Array.replicate m 0)).size = m := by show (Array.replicate m (0 : UInt8)).size = m; simp
  have hf : ∀ w', (Builtin.firstCells 1 m (.string ⟨Array.replicate m 0⟩)).run P w' = .ok (Lib.strCells ⟨Array.replicate m 0⟩).toArray w' := by
    intro w'
    have := Lib.run_firstCells_string (P := P) w' 1 ⟨Array.replicate m 0⟩
    rwa [hsz] at this
  have hwr : IntKind.i64.wrap (m : Int) = m := by
    exact IntWalk.i64_in _ (by omega)
  have hai : ∀ w', (asIntOf (.int .i64 (m : Int))).run P w' = .ok (.i64, (m : Int)) w' := fun _ => rfl
  have hm0 : ¬ ((m : Int) < 0) := by omega
  have hm1 : ¬ (281474976710656 < (m : Int)) := by omega
  have hnil : m = 0 → (Lib.strCells ⟨Array.replicate m 0⟩).toArray = #[] := by rintro rfl; rfl
  have hz0 := zeros_cells m
  by_cases hroom : n + m ≤ c
  · by_cases h0 : m = 0
    · subst h0
      replace hwr : IntKind.i64.wrap 0 = 0 := hwr
      replace hai : ∀ w', (asIntOf (.int .i64 0)).run P w' = .ok (.i64, 0) w' := hai
      have hsz0 : (ByteArray.mk #[]).size = 0 := rfl
      have hf0 : ∀ w', (Builtin.firstCells 1 0 (.string ⟨#[]⟩)).run P w' = .ok #[] w' := hf
      clear hf hsz hnil hz0
      simp [Builtin.append_, run_underlying ht, run_underlying hti, run_underlying hu, sizeOf, typeInfo, hi, hsize, hby, Builtin.lenOf, asInt, hai, hwr, hsz0, (show n ≤ c by omega), hf0, zeroValue, hz]
    · simp [Builtin.append_, run_underlying ht, run_underlying hti, run_underlying hu, sizeOf, typeInfo, hi, hsize, hby, Builtin.lenOf, asInt, hai, hwr, hsz, hroom, hf, hm0, hm1, h0, hz0, zeroValue, hz]
  · have h63 : ¬ (9223372036854775807 < ((n : Int) + (m : Int))) := by omega
    have h48 : ¬ (281474976710656 < Builtin.nextslicecap (n + m) c) := by
      have := growslice_fits (need := n + m) (old := c) (bytes := 1) (by omega) (by omega)
      omega
    by_cases h0 : m = 0
    · subst h0
      replace hwr : IntKind.i64.wrap 0 = 0 := hwr
      replace hai : ∀ w', (asIntOf (.int .i64 0)).run P w' = .ok (.i64, 0) w' := hai
      have hsz0 : (ByteArray.mk #[]).size = 0 := rfl
      have hf0 : ∀ w', (Builtin.firstCells 1 0 (.string ⟨#[]⟩)).run P w' = .ok #[] w' := hf
      clear hf hsz hnil hz0
      simp [Builtin.append_, run_underlying ht, run_underlying hti, run_underlying hu, sizeOf, typeInfo, hi, hsize, hby, Builtin.lenOf, asInt, hai, hwr, hsz0, (show ¬ n ≤ c by omega), hf0, (show ¬ (9223372036854775807 < (n : Int)) by omega), (show ¬ (281474976710656 < Builtin.nextslicecap n c) by simpa using h48), zeroValue, hz]
    · simp [Builtin.append_, run_underlying ht, run_underlying hti, run_underlying hu, sizeOf, typeInfo, hi, hsize, hby, Builtin.lenOf, asInt, hai, hwr, hsz, hroom, hf, hm0, hm1, h63, h48, h0, hz0, zeroValue, hz]

theorem strCells_bvs (s : ByteArray) : Lib.strCells s = bvs s.data.toList := rfl
theorem data_length (s : ByteArray) : s.data.toList.length = s.size := by rw [Array.length_toList]; rfl

/-- 'append(out, s...)': a text's bytes. -/
theorem wpList_appS {w : World} {ops : Array Oper} {rest : List Oper} {o : Oper} {a : Act} {Q : Exit → Act → World → Prop} (hgd : o.guard = none) (s x : Operand)
    (ho : o.op = .call { callee := .builtin .append, args := #[s, x], argTypes := #[44, 9] })
    (base : Nat) (v : Value) (bs : List UInt8) (hs : a.eval s = v) (hown : OB w base v bs) (t : ByteArray) (hx : a.eval x = .string t)
    (h63 : bs.length + t.size ≤ 140737488355328) (hbase : base ≤ w.heap.size)
    (h : ∀ v' w', OB w' base v' (bs ++ t.data.toList) → Below base w w' → wpList Try.prog ops Q rest (a.put o.dst v') w') : wpList Try.prog ops Q (o :: rest) a w := by
  obtain ⟨i0, hi, hz, h1, h2⟩ := info_parts byte_info
  refine Lib.wpList_append_own_string w hgd s x _ _ ho base 5 i0 Try.underlying44 Try.underlying9 hi hz h1 h2 v bs.length (bvs bs) hs hown t hx (by unfold maxLen; omega) h63 hbase ?_
  intro v' w' h3 h4 _
  refine h v' w' ?_ ((Below.refl _ _).grown h4 hbase (fun k hk => (hown.lt k hk).1))
  unfold OB
  rw [List.length_append, bvs_append, data_length]
  exact h3

/-- 'append(out, make([]byte, m)...)': noughts. -/
theorem wpList_appZ {w : World} {ops : Array Oper} {rest : List Oper} {o : Oper} {a : Act} {Q : Exit → Act → World → Prop} (hgd : o.guard = none) (s x : Operand)
    (ho : o.op = .call { callee := .builtin .append, args := #[s, x], argTypes := #[44, 3] })
    (base : Nat) (v : Value) (bs : List UInt8) (hs : a.eval s = v) (hown : OB w base v bs) (m : Nat) (z : Int) (hz0 : z = m) (hx : a.eval x = .int .i64 z)
    (h63 : bs.length + m ≤ 140737488355328) (hbase : base ≤ w.heap.size)
    (h : ∀ v' w', OB w' base v' (bs ++ List.replicate m 0) → Below base w w' → wpList Try.prog ops Q rest (a.put o.dst v') w') : wpList Try.prog ops Q (o :: rest) a w := by
  subst hz0
  obtain ⟨i0, hi, hz, h1, h2⟩ := info_parts byte_info
  have hsz : (ByteArray.mk (Array.replicate m 0)).size = m := by show (Array.replicate m (0 : UInt8)).size = m; simp
  obtain ⟨A, c, rfl, hc1, hc2, -, -⟩ := hown.form
  obtain ⟨v', w', hrun, h3, h4, -⟩ := Lib.run_append_own_string (P := Try.prog) w base 44 9 o.type 5 i0 Try.underlying44 Try.underlying9 hi hz h1 h2 (.slice A bs.length c) bs.length (bvs bs) hown ⟨Array.replicate m 0⟩
    (by rw [hsz]; unfold maxLen; omega) (by rw [hsz]; exact h63) hbase
  rw [← run_append_zeros_eq (P := Try.prog) w 44 3 9 o.type 5 i0 .i64 Try.underlying44 Try.underlying3 Try.underlying9 hi hz h1 h2 A bs.length c m h63] at hrun
  refine wpList_plain hgd fun K hK => ?_
  unfold Oper.wp execOp
  simp only [ho, resolve, invoke, builtin, Sem.run_bind, Sem.run_pure, Result.andThen_ok, List.map_toArray, List.map_cons, List.map_nil, hs, hx, hrun]
  refine hK _ _ (h v' w' ?_ ((Below.refl _ _).grown h4 hbase (fun k hk => (hown.lt k hk).1)))
  unfold OB
  rw [List.length_append, bvs_append, List.length_replicate]
  rw [hsz, strCells_bvs] at h3
  simpa using h3

/-- 'append(out, x, y)': two bytes, laid in a new block first. -/
theorem wpList_app2 {w : World} {ops : Array Oper} {rest : List Oper} {o : Oper} {a : Act} {Q : Exit → Act → World → Prop} (hgd : o.guard = none) (s x : Operand)
    (ho : o.op = .call { callee := .builtin .append, args := #[s, x], argTypes := #[44, 44] })
    (base : Nat) (v : Value) (bs : List UInt8) (hs : a.eval s = v) (z y : Int) (hx : a.eval x = .slice (some ⟨w.heap.size, 0, none⟩) 2 2) (hown : OB w base v bs)
    (u p : UInt8) (hu : (u.toNat : Int) = z) (hp : (p.toNat : Int) = y)
    (h63 : bs.length + 2 ≤ 140737488355328) (hbase : base ≤ w.heap.size)
    (h : ∀ v' w', OB w' base v' (bs ++ [u, p]) → Below base w w' → wpList Try.prog ops Q rest (a.put o.dst v') w') : wpList Try.prog ops Q (o :: rest) a (w.alloc (.cells #[.int .u8 z, .int .u8 y] 5)) := by
  subst hu
  subst hp
  refine wpList_appB hgd s x ho base v bs hs (hown.alloc _) (w.heap.size + 1) (some ⟨w.heap.size, 0, none⟩) 2 [u, p] 2 rfl hx (RB.lit w _ _ [u, p] rfl) h63 (by simp; omega) ?_
  intro v' w' h1 h2 _ _
  exact h v' w' h1 (((Below.refl _ _).alloc hbase _).trans h2)

end Go.Proofs.Ytdlcpfgogjcciaa

namespace Go.Proofs.Ytdlcpfgogjcciaa

/-- A width. -/
def isW (width : Int) : Bool := decide (width = 1 ∨ width = 2 ∨ width = 4 ∨ width = 8)
/-- A number fits a width. -/
def fitsB (n width : Int) : Bool := decide (0 ≤ n ∧ (width = 8 ∨ (width = 4 ∧ n < 4294967296) ∨ (width = 2 ∧ n < 65536) ∨ (width = 1 ∧ n < 256)))
/-- The least bytes of a number. -/
def leB (n : Nat) : Nat → List UInt8
  | 0 => []
  | k + 1 => UInt8.ofNat (n % 256) :: leB (n / 256) k
theorem leB_length (n k : Nat) : (leB n k).length = k := by
  induction k generalizing n with
  | zero => rfl
  | succ k ih => simp [leB, ih]
/-- Bytes, and a number behind them. -/
def putB (bs : List UInt8) (n width : Int) : List UInt8 := bs ++ if fitsB n width then leB n.toNat width.toNat else []

theorem leB_snoc (n k : Nat) : leB n (k + 1) = leB n k ++ [UInt8.ofNat (n / 256 ^ k % 256)] := by
  induction k generalizing n with
  | zero => simp [leB]
  | succ k ih =>
    rw [leB, ih, leB, List.cons_append, Nat.div_div_eq_div_mul, Nat.pow_succ, Nat.mul_comm 256]

theorem fits_width {n width : Int} (h : fitsB n width = true) : width = 8 ∨ width = 4 ∨ width = 2 ∨ width = 1 := by
  simp only [fitsB, decide_eq_true_eq] at h
  omega
theorem fits_nat {n width : Int} (h : fitsB n width = true) : 0 ≤ n := by
  simp only [fitsB, decide_eq_true_eq] at h
  omega

theorem leB_byte (n : Int) (k : Nat) (h : 0 ≤ n) : ((UInt8.ofNat (n.toNat / 256 ^ k % 256)).toNat : Int) = n / 2 ^ (8 * k) % 256 := by
  obtain ⟨m, rfl⟩ := Int.eq_ofNat_of_zero_le h
  have e : (2 : Int) ^ (8 * k) = ((256 ^ k : Nat) : Int) := by
    rw [show (256 : Nat) = 2 ^ 8 from rfl, ← Nat.pow_mul]; simp
  rw [e]
  simp

theorem putB_length (bs : List UInt8) (n x : Int) : (putB bs n x).length ≤ bs.length + 8 := by
  unfold putB
  split
  · rename_i h
    have := fits_width h
    rw [List.length_append, leB_length]
    omega
  · simp

/-- The number that bytes are, the least byte first. -/
def leVal : List UInt8 → Nat
  | [] => 0
  | u :: t => u.toNat + 256 * leVal t
theorem leVal_lt (bs : List UInt8) : leVal bs < 256 ^ bs.length := by
  induction bs with
  | nil => simp [leVal]
  | cons u t ih =>
    have := u.toNat_lt
    rw [leVal, List.length_cons, Nat.pow_succ]
    omega
theorem leVal_snoc (bs : List UInt8) (u : UInt8) : leVal (bs ++ [u]) = leVal bs + 256 ^ bs.length * u.toNat := by
  induction bs with
  | nil => simp [leVal]
  | cons x t ih =>
    rw [List.cons_append, leVal, ih, leVal, List.length_cons, Nat.pow_succ, Nat.mul_comm (256 ^ t.length) 256, Nat.mul_add, Nat.mul_assoc]
    omega
theorem leVal_leB (n k : Nat) : leVal (leB n k) = n % 256 ^ k := by
  induction k generalizing n with
  | zero => simp [leB, leVal, Nat.mod_one]
  | succ k ih =>
    rw [leB, leVal, ih, Nat.pow_succ, Nat.mul_comm (256 ^ k) 256, Nat.mod_mul]
    simp
theorem leB_leVal (bs : List UInt8) : leB (leVal bs) bs.length = bs := by
  induction bs with
  | nil => rfl
  | cons u t ih =>
    have h := u.toNat_lt
    rw [List.length_cons, leB, leVal, show (u.toNat + 256 * leVal t) % 256 = u.toNat by omega, show (u.toNat + 256 * leVal t) / 256 = leVal t by omega, ih]
    simp

/-- The number at a place, if there is one. -/
def getO (bs : List UInt8) (at_ width : Int) : Option Nat :=
  if isW width = true ∧ 0 ≤ at_ ∧ at_ + width ≤ bs.length then
    if leVal ((bs.drop at_.toNat).take width.toNat) < 9223372036854775808 then some (leVal ((bs.drop at_.toNat).take width.toNat)) else none
  else none
def getN (bs : List UInt8) (at_ width : Int) : Int := ((getO bs at_ width).getD 0 : Nat)
def getK (bs : List UInt8) (at_ width : Int) : Bool := (getO bs at_ width).isSome

theorem get_small {bs : List UInt8} {a k m : Nat} (hw : isW k = true) (hle : a + k ≤ bs.length) (hm : m = leVal ((bs.drop a).take k)) (h : m < 9223372036854775808) : getN bs a k = m ∧ getK bs a k = true := by
  have hc : isW (k : Int) = true ∧ 0 ≤ (a : Int) ∧ (a : Int) + k ≤ bs.length := ⟨hw, by omega, by omega⟩
  subst hm
  have e : getO bs a k = some (leVal ((bs.drop a).take k)) := by
    unfold getO
    rw [if_pos hc]
    simp only [Int.toNat_natCast]
    rw [if_pos h]
  exact ⟨by unfold getN; rw [e]; rfl, by unfold getK; rw [e]; rfl⟩
theorem get_large {bs : List UInt8} {a k m : Nat} (hm : m = leVal ((bs.drop a).take k)) (h : ¬ m < 9223372036854775808) : getN bs a k = 0 ∧ getK bs a k = false := by
  subst hm
  have e : getO bs a k = none := by
    unfold getO
    split
    · simp only [Int.toNat_natCast]
      rw [if_neg h]
    · rfl
  exact ⟨by unfold getN; rw [e]; rfl, by unfold getK; rw [e]; rfl⟩
theorem get_none {bs : List UInt8} {a k : Int} (h : ¬ (isW k = true ∧ 0 ≤ a ∧ a + k ≤ bs.length)) : getN bs a k = 0 ∧ getK bs a k = false := by
  have e : getO bs a k = none := by
    unfold getO
    rw [if_neg h]
  exact ⟨by unfold getN; rw [e]; rfl, by unfold getK; rw [e]; rfl⟩

theorem fits_pow {n : Int} {wd : Nat} (h : fitsB n wd = true) (h1 : n ≤ 9223372036854775807) : n.toNat < 256 ^ wd := by
  simp only [fitsB, decide_eq_true_eq] at h
  obtain ⟨h0, h⟩ := h
  have : wd = 8 ∨ wd = 4 ∨ wd = 2 ∨ wd = 1 := by omega
  rcases this with rfl | rfl | rfl | rfl <;> simp <;> omega
/-- What was put is got. -/
theorem get_put {n : Int} {wd : Nat} (h : fitsB n wd = true) (h1 : n ≤ 9223372036854775807) : getN (leB n.toNat wd) 0 wd = n ∧ getK (leB n.toNat wd) 0 wd = true := by
  have hw := fits_width h
  have hp := fits_pow h h1
  have h0 := fits_nat h
  have := get_small (bs := leB n.toNat wd) (a := 0) (k := wd) (m := n.toNat) (by simp [isW]; omega) (by rw [leB_length]; omega)
    (by rw [List.drop_zero, List.take_of_length_le (by rw [leB_length]; exact Nat.le_refl _), leVal_leB, Nat.mod_eq_of_lt hp]) (by omega)
  refine ⟨?_, this.2⟩
  have h2 := this.1
  rw [show ((0 : Nat) : Int) = 0 from rfl] at h2
  rw [h2]
  omega
theorem leB_inj {n m : Int} {wd : Nat} (h : fitsB n wd = true) (h' : fitsB m wd = true) (h1 : n ≤ 9223372036854775807) (h1' : m ≤ 9223372036854775807) : leB n.toNat wd = leB m.toNat wd ↔ n = m := by
  constructor
  · intro e
    have a := (get_put h h1).1
    have b := (get_put h' h1').1
    rw [e, b] at a
    exact a.symm
  · rintro rfl; rfl
/-- What is got and put is the same bytes. -/
theorem put_get {bs : List UInt8} {at_ x : Int} (h : getK bs at_ x = true) : ∃ a wd : Nat, at_ = a ∧ x = wd ∧ wd ≤ 8 ∧ 1 ≤ wd ∧ a + wd ≤ bs.length ∧ fitsB (getN bs at_ x) x = true ∧ leB (getN bs at_ x).toNat wd = (bs.drop a).take wd ∧ 0 ≤ getN bs at_ x ∧ getN bs at_ x ≤ 9223372036854775807 := by
  by_cases hc : isW x = true ∧ 0 ≤ at_ ∧ at_ + x ≤ bs.length
  · obtain ⟨hw, h0, hle⟩ := hc
    obtain ⟨a, rfl⟩ := Int.eq_ofNat_of_zero_le h0
    have hx : x = 1 ∨ x = 2 ∨ x = 4 ∨ x = 8 := by simpa [isW] using hw
    obtain ⟨wd, rfl⟩ : ∃ wd : Nat, x = wd := ⟨x.toNat, by omega⟩
    by_cases hs : leVal ((bs.drop a).take wd) < 9223372036854775808
    · have hg := get_small (bs := bs) (a := a) hw (by omega) rfl hs
      have hlen : ((bs.drop a).take wd).length = wd := by rw [List.length_take, List.length_drop]; omega
      have hlt := leVal_lt ((bs.drop a).take wd)
      rw [hlen] at hlt
      refine ⟨a, wd, rfl, rfl, by omega, by omega, by omega, ?_, ?_, ?_, ?_⟩
      · rw [hg.1]
        simp only [fitsB, decide_eq_true_eq]
        refine ⟨by omega, ?_⟩
        have : wd = 8 ∨ wd = 4 ∨ wd = 2 ∨ wd = 1 := by omega
        rcases this with rfl | rfl | rfl | rfl <;> simp at hlt ⊢ <;> omega
      · have := leB_leVal ((bs.drop a).take wd)
        rw [hlen] at this
        rw [hg.1]
        simpa using this
      · rw [hg.1]; omega
      · rw [hg.1]; omega
    · have hg := get_large (bs := bs) (a := a) (k := wd) rfl hs
      rw [hg.2] at h
      cases h
  · have := (get_none hc).2
    rw [this] at h
    cases h
theorem get_no {bs : List UInt8} {at_ x : Int} (h : getK bs at_ x = false) : getN bs at_ x = 0 := by
  unfold getK at h
  unfold getN
  cases hg : getO bs at_ x with
  | none => rfl
  | some m => rw [hg] at h; cases h

/-- Rounding. -/
def mayB (n to : Int) : Bool := decide (1 ≤ to ∧ to ≤ 1073741824 ∧ 0 ≤ n ∧ n ≤ 1152921504606846976)
def upN (n to : Int) : Int := if mayB n to then (n + to - 1) / to * to else n
def downN (n to : Int) : Int := if mayB n to then n / to * to else n
theorem may_iff {n to : Int} : mayB n to = true ↔ 1 ≤ to ∧ to ≤ 1073741824 ∧ 0 ≤ n ∧ n ≤ 1152921504606846976 := by simp [mayB]
theorem up_bounds {n to : Int} (h : 1 ≤ to) : n ≤ (n + to - 1) / to * to ∧ (n + to - 1) / to * to ≤ n + to - 1 := by
  have h1 := Int.emod_add_ediv_mul (n + to - 1) to
  have h2 := Int.emod_nonneg (n + to - 1) (show to ≠ 0 by omega)
  have h3 := Int.emod_lt_of_pos (n + to - 1) (show 0 < to by omega)
  omega
theorem down_bounds {n to : Int} (h : 1 ≤ to) : n - to < n / to * to ∧ n / to * to ≤ n := by
  have h1 := Int.emod_add_ediv_mul n to
  have h2 := Int.emod_nonneg n (show to ≠ 0 by omega)
  have h3 := Int.emod_lt_of_pos n (show 0 < to by omega)
  omega
theorem down_ref {n to : Int} : n / to * to = n - n % to := by
  have h1 := Int.emod_add_ediv_mul n to
  omega
theorem up_ref {n to : Int} (h : 1 ≤ to) : (n + to - 1) / to * to = if n % to = 0 then n else n - n % to + to := by
  have h1 := Int.emod_add_ediv_mul n to
  have h2 := Int.emod_nonneg n (show to ≠ 0 by omega)
  have h3 := Int.emod_lt_of_pos n (show 0 < to by omega)
  obtain ⟨r, hr⟩ : ∃ r, r = n % to := ⟨_, rfl⟩
  obtain ⟨q, hq⟩ : ∃ q, q = n / to := ⟨_, rfl⟩
  rw [← hr, ← hq] at h1
  rw [← hr] at h2 h3 ⊢
  have hn : n = r + q * to := by omega
  clear hr hq h1
  subst hn
  split
  · rename_i h0
    subst h0
    rw [show 0 + q * to + to - 1 = (to - 1) + q * to by omega, Int.add_mul_ediv_right _ _ (by omega), Int.ediv_eq_zero_of_lt (by omega) (by omega)]
    simp
  · rw [show r + q * to + to - 1 = (r - 1) + (q + 1) * to by rw [Int.add_mul]; omega, Int.add_mul_ediv_right _ _ (by omega), Int.ediv_eq_zero_of_lt (by omega) (by omega), Int.zero_add, Int.add_mul]
    omega

end Go.Proofs.Ytdlcpfgogjcciaa

namespace Go.Proofs.Ytdlcpfgogjcciaa
open Go.RowKit

theorem pow_byte (k : Nat) : (2 : Nat) ^ (8 * k) = 256 ^ k := by rw [show (256 : Nat) = 2 ^ 8 from rfl, ← Nat.pow_mul]

theorem or_byte (m k : Nat) (u : UInt8) (hm : m < 256 ^ k) (hk : k < 8) :
    bits .or .u64 (m : Int) (IntKind.u64.wrap (IntKind.u64.wrap (u.toNat : Int) * 2 ^ (8 * k))) = ((m + 256 ^ k * u.toNat : Nat) : Int) := by
  have hu := u.toNat_lt
  have hp : (256 : Nat) ^ k ≤ 256 ^ 7 := Nat.pow_le_pow_right (by omega) (by omega)
  have hp7 : (256 : Nat) ^ 7 = 72057594037927936 := by decide
  have hmul : 256 ^ k * u.toNat ≤ 72057594037927936 * 255 := Nat.mul_le_mul (by omega) (by omega)
  have e1 : IntKind.u64.wrap (u.toNat : Int) = (u.toNat : Int) := by simp [IntKind.wrap, IntKind.bits, IntKind.signed]; omega
  have e2 : ((u.toNat : Int) * 2 ^ (8 * k)) = ((256 ^ k * u.toNat : Nat) : Int) := by
    rw [← pow_byte k, Int.natCast_mul, Int.mul_comm]; simp
  have e3 : IntKind.u64.wrap ((256 ^ k * u.toNat : Nat) : Int) = ((256 ^ k * u.toNat : Nat) : Int) := by
    rw [IntKind.wrap_u64]
    omega
  rw [e1, e2, e3, u64_or_nat _ _ (by omega) (by omega), Nat.or_comm, nat_join (8 * k) _ _ (by rw [pow_byte]; simp) (by rw [pow_byte]; exact hm), Nat.add_comm]

end Go.Proofs.Ytdlcpfgogjcciaa

namespace Go.Proofs.Ytdlcpfgogjcciaa
open Go.RowKit

theorem num_is (x : Int) (w : World) :
    Calls Try.prog 96 #[.int .i64 x] w fun e w' => e = .returned (.bool (isW x)) ∧ w = w' := by
  go_enter Try.func96, Try.ntmps96
  go_wp2
  all_goals (go_ret; refine ⟨ret_bool ?_, rfl⟩)
  all_goals (rw [Bool.eq_iff_iff]; simp [isW])
  all_goals omega

theorem num_fits (n x : Int) (h0 : -9223372036854775808 ≤ n) (h1 : n ≤ 9223372036854775807) (w : World) :
    Calls Try.prog 68 #[.int .i64 n, .int .i64 x] w fun e w' => e = .returned (.bool (fitsB n x)) ∧ w = w' := by
  by_cases hw : x = 1 ∨ x = 2 ∨ x = 4 ∨ x = 8
  · rcases hw with rfl | rfl | rfl | rfl
    all_goals
      go_enter Try.func68, Try.ntmps68
      go_wp2
      all_goals (go_ret; refine ⟨ret_bool ?_, rfl⟩)
    all_goals (rw [Bool.eq_iff_iff]; simp [fitsB])
    all_goals omega
  · have hx : isW x = false := by simp [isW]; omega
    go_enter Try.func68, Try.ntmps68
    go_wp2_with (go_at_call 96; refine (num_is _ _).mono ?_; rintro e w' ⟨rfl, rfl⟩)
    go_ret
    refine ⟨ret_bool ?_, rfl⟩
    simp [fitsB]
    omega

theorem num_room (A : Option Addr) (l c : Nat) (at_ x : Int) (h0 : -9223372036854775808 ≤ at_) (h1 : at_ ≤ 9223372036854775807) (hl : l ≤ 9223372036854775807) (w : World) :
    Calls Try.prog 87 #[.slice A l c, .int .i64 at_, .int .i64 x] w fun e w' => e = .returned (.bool (isW x && decide (0 ≤ at_ ∧ at_ + x ≤ l))) ∧ w = w' := by
  by_cases hw : isW x = true
  · have hb : 1 ≤ x ∧ x ≤ 8 := by simp [isW] at hw; omega
    obtain ⟨hb0, hb1⟩ := hb
    go_enter Try.func87, Try.ntmps87
    go_wp2_with (go_at_call 96; refine (num_is _ _).mono ?_; rintro e w' ⟨rfl, rfl⟩)
    all_goals (go_ret; refine ⟨ret_bool ?_, rfl⟩)
    all_goals (rw [Bool.eq_iff_iff]; simp [hw])
    all_goals omega
  · have hw : isW x = false := by simpa using hw
    go_enter Try.func87, Try.ntmps87
    go_wp2_with (go_at_call 96; refine (num_is _ _).mono ?_; rintro e w' ⟨rfl, rfl⟩)
    go_ret
    refine ⟨ret_bool ?_, rfl⟩
    simp [hw]

/-- slices.Clone at bytes: a copy of the call's own; nil stays nil. -/
theorem clone_bytes (A : Option Addr) (bs : List UInt8) (c : Nat) (w : World) (hr : RB w w.heap.size A bs) (hl : bs.length ≤ 17592186044416) :
    Calls Try.prog 71 #[.slice A bs.length c] w fun e w' => ∃ v, e = .returned v ∧ OB w' w.heap.size v bs ∧ Below w.heap.size w w' := by
  rcases A with _ | a
  · have h0 : bs = [] := by
      rcases Nat.eq_zero_or_pos bs.length with h | h
      · exact List.eq_nil_of_length_eq_zero h
      · obtain ⟨_, _, h, _⟩ := hr.2 h; cases h
    subst h0
    have hq := eq_nilB
    go_enter Try.func71, Try.ntmps71
    go_wp2
    go_ret
    exact ⟨_, rfl, World.ownsRow_nil _ _ _ _, Below.refl _ _⟩
  · have hq := eq_nilB
    go_enter Try.func71, Try.ntmps71
    go_wp2_with (at_builtin; refine wpList_appB rfl (.tmp 5) (.tmp 6) rfl w.heap.size _ [] rfl (World.ownsRow_made w #[] 0 (Nat.le_refl _) (by unfold maxLen; omega) rfl) w.heap.size (some a) c bs bs.length rfl rfl (hr.alloc (Nat.le_refl _) _) (by simp; omega) (by simp) ?_; intro v1 w1 hown1 hb1 _ _)
    go_ret
    exact ⟨v1, rfl, by simpa using hown1, ((Below.refl _ _).alloc (Nat.le_refl _) _).trans hb1⟩

/-- num.Put: the number behind the bytes, in memory of the call's own. -/
theorem num_put (A : Option Addr) (bs : List UInt8) (c : Nat) (n x : Int) (h0 : -9223372036854775808 ≤ n) (h1 : n ≤ 9223372036854775807) (w : World) (hr : RB w w.heap.size A bs) (hl : bs.length ≤ 17592186044416) :
    Calls Try.prog 51 #[.slice A bs.length c, .int .i64 n, .int .i64 x] w fun e w' => ∃ v, e = .returned v ∧ OB w' w.heap.size v (putB bs n x) ∧ Below w.heap.size w w' := by
  by_cases hf : fitsB n x = true
  · go_enter Try.func51, Try.ntmps51
    go_wp2_with fail
    refine (clone_bytes A bs c w hr hl).mono ?_
    rintro e w1 ⟨v, rfl, hown, hb⟩
    go_wp2_with fail
    refine (num_fits n x h0 h1 _).mono ?_
    rintro e w2 ⟨rfl, rfl⟩
    go_wp2_with fail
    have hx := fits_width hf
    have hn := fits_nat hf
    obtain ⟨wd, rfl⟩ : ∃ wd : Nat, x = wd := ⟨x.toNat, by omega⟩
    have hwd : wd ≤ 8 := by omega
    clear hx
    go_loopw [0, 16] (fun v i wr => ∃ k : Nat, k ≤ wd ∧ i = .int .i64 k ∧ OB wr w.heap.size v (bs ++ leB n.toNat k) ∧ Below w.heap.size w wr) (fun _ i _ => wd - (intOf i).toNat)
    case atStart => exact ⟨0, Nat.zero_le _, rfl, by simpa [leB] using hown, hb⟩
    case round =>
      obtain ⟨k, hk, rfl, hown, hb⟩ := hrel
      by_cases hlt : k < wd
      · have hby := leB_byte n k hn
        have HB := Lib.hid hby
        clear hby
        have hz := hb.size
        go_wp2_with (at_builtin; refine wpList_app1 rfl (.tmp 19) (.tmp 25) rfl w.heap.size _ _ rfl _ rfl hown _ HB.out (by simp [leB_length]; omega) hz ?_; intro v1 w2 hown1 hb1)
        go_roundw
        case rel => exact ⟨k + 1, by omega, by go_num, by rw [leB_snoc, ← List.append_assoc]; exact hown1, hb.trans hb1⟩
        case measure => simp [intOf]; omega
      · obtain rfl : k = wd := by omega
        go_wp2
        go_ret
        exact ⟨_, rfl, by simpa [putB, hf] using hown, hb⟩
  · have hf : fitsB n x = false := by simpa using hf
    go_enter Try.func51, Try.ntmps51
    go_wp2_with fail
    refine (clone_bytes A bs c w hr hl).mono ?_
    rintro e w1 ⟨v, rfl, hown, hb⟩
    go_wp2_with fail
    refine (num_fits n x h0 h1 _).mono ?_
    rintro e w2 ⟨rfl, rfl⟩
    go_wp2_with fail
    go_ret
    exact ⟨_, rfl, by simpa [putB, hf] using hown, hb⟩

/-- num.Get: the number at a place, or none. -/
theorem num_get (A : Option Addr) (bs : List UInt8) (c : Nat) (at_ x : Int) (h0 : -9223372036854775808 ≤ at_) (h1 : at_ ≤ 9223372036854775807) (B : Nat) (w : World) (hr : RB w B A bs) (hl : bs.length ≤ 17592186044416) :
    Calls Try.prog 60 #[.slice A bs.length c, .int .i64 at_, .int .i64 x] w fun e w' => e = .returned (.tuple #[.int .i64 (getN bs at_ x), .bool (getK bs at_ x)]) ∧ w = w' := by
  by_cases hrm : isW x = true ∧ 0 ≤ at_ ∧ at_ + x ≤ bs.length
  · have hroom : (isW x && decide (0 ≤ at_ ∧ at_ + x ≤ bs.length)) = true := by simp [hrm.1, hrm.2.1, hrm.2.2]
    obtain ⟨hw, ha, hle⟩ := hrm
    have hwd : x = 8 ∨ x = 4 ∨ x = 2 ∨ x = 1 := by simp [isW] at hw; omega
    obtain ⟨a, rfl⟩ := Int.eq_ofNat_of_zero_le ha
    obtain ⟨wd, rfl⟩ : ∃ wd : Nat, x = wd := ⟨x.toNat, by omega⟩
    have hwd8 : wd ≤ 8 := by omega
    have hwd1 : 1 ≤ wd := by omega
    have hab : a + wd ≤ bs.length := by omega
    obtain ⟨b, o, rfl, hbB, hc⟩ := hr.all (by omega)
    have HC := Lib.hid hc
    clear hc hwd
    go_enter Try.func60, Try.ntmps60
    go_wp2_with fail
    refine (num_room _ _ _ _ _ h0 h1 (by omega) _).mono ?_
    rintro e w2 ⟨rfl, rfl⟩
    rw [hroom]
    go_wp2_with fail
    go_loop [8, 16] (fun v i => ∃ k : Nat, k ≤ wd ∧ i = .int .i64 k ∧ v = .int .u64 (leVal ((bs.drop a).take k) : Nat)) (fun _ i => wd - (intOf i).toNat)
    case atStart => exact ⟨0, Nat.zero_le _, rfl, rfl⟩
    case round =>
      obtain ⟨k, hk, rfl, rfl⟩ := hrel
      by_cases hlt : k < wd
      · have hcell := HC.out (a + k) (by omega)
        obtain ⟨u, hu⟩ : ∃ u, u = bs[a + k]'(by omega) := ⟨_, rfl⟩
        rw [← hu] at hcell
        have HU := Lib.hid hu
        clear hu
        have hlv := leVal_lt ((bs.drop a).take k)
        rw [List.length_take, List.length_drop, Nat.min_eq_left (by omega)] at hlv
        have hor := or_byte _ k u hlv (by omega)
        have hsn : (bs.drop a).take (k + 1) = (bs.drop a).take k ++ [u] := by
          rw [List.take_succ_eq_append_getElem (by simp; omega), HU.out]; simp
        have hle2 : leVal ((bs.drop a).take (k + 1)) = leVal ((bs.drop a).take k) + 256 ^ k * u.toNat := by
          rw [hsn, leVal_snoc, List.length_take, List.length_drop, Nat.min_eq_left (by omega)]
        have HO := Lib.hid hor
        have HL := Lib.hid hle2
        clear hor hsn hle2 hlv
        go_wp2_with fail
        go_round
        case rel => exact ⟨k + 1, by omega, by go_num, by rw [HO.out, HL.out]⟩
        case measure => simp [intOf]; omega
      · obtain rfl : k = wd := by omega
        have hlv := leVal_lt ((bs.drop a).take k)
        rw [List.length_take, List.length_drop, Nat.min_eq_left (by omega)] at hlv
        have hp : (256 : Nat) ^ k ≤ 256 ^ 8 := Nat.pow_le_pow_right (by omega) (by omega)
        have hp8 : (256 : Nat) ^ 8 = 18446744073709551616 := by decide
        have hlv2 : leVal ((bs.drop a).take k) < 18446744073709551616 := by omega
        obtain ⟨m, hm⟩ : ∃ m, m = leVal ((bs.drop a).take k) := ⟨_, rfl⟩
        rw [← hm] at hlv2 ⊢
        have HM := Lib.hid hm
        have HV := Lib.hid hlv2
        clear hm hp hp8 hlv hlv2
        by_cases hbig : m < 9223372036854775808
        · have hg := get_small (bs := bs) (a := a) hw (by omega) HM.out hbig
          have HG := Lib.hid hg
          clear hg
          go_wp2
          go_ret2
          exact ⟨ret_int_bool HG.out.1.symm HG.out.2.symm, rfl⟩
        · have hg := get_large (bs := bs) (a := a) HM.out hbig
          have HG := Lib.hid hg
          clear hg
          go_wp2
          go_ret2
          exact ⟨ret_int_bool HG.out.1.symm HG.out.2.symm, rfl⟩
  · have hg := get_none hrm
    have hroom : (isW x && decide (0 ≤ at_ ∧ at_ + x ≤ bs.length)) = false := by
      rw [Bool.and_eq_false_iff]
      by_cases hx : isW x = true
      · right
        simp only [decide_eq_false_iff_not]
        exact fun h => hrm ⟨hx, h⟩
      · left; simpa using hx
    have HG := Lib.hid hg
    clear hg hrm
    go_enter Try.func60, Try.ntmps60
    go_wp2_with fail
    refine (num_room _ _ _ _ _ h0 h1 (by omega) _).mono ?_
    rintro e w2 ⟨rfl, rfl⟩
    rw [hroom]
    go_wp2_with fail
    go_ret2
    exact ⟨ret_int_bool HG.out.1.symm HG.out.2.symm, rfl⟩

end Go.Proofs.Ytdlcpfgogjcciaa
