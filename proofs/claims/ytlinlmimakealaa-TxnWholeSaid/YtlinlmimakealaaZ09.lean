/- append at bytes: a text's bytes, noughts, two bytes. Facts on words of bits, as the walks of numbers meet them. The walks of package num (layer 1): what each function answers. The walks of the reference of layer 1. No statement of the seat is proved here. -/
import Derived.Test.YtlinlmimakealaaZ01
import Derived.Lib.AppendStr
namespace Go.Proofs.Ytlinlmimakealaa
open Go.RowKit

theorem zeros_cells (m : Nat) : Builtin.zeroCells (Value.int .u8 0).cells m = (Lib.strCells ⟨Array.replicate m 0⟩).toArray := by
  apply Array.ext
  · simp [Builtin.zeroCells, Lib.strCells, Value.cells]
  · intro j h1 h2
    simp [Builtin.zeroCells, Lib.strCells, Value.cells, Nat.mod_one]

theorem run_append_zeros_eq {P : Program} (w : World) (t ti u ty e : TypeId) (i : TypeInfo) (k : IntKind) (ht : P.underlying t = some (.slice e)) (hti : P.underlying ti = some (.int k)) (hu : P.underlying u = some .string)
    (hi : P.info? e = some i) (hz : i.zero = some (.int .u8 0)) (hsize : i.size = 1) (hby : i.bytes = 1) (A : Option Addr) (n c m : Nat) (hnm : n + m ≤ 140737488355328) :
    (Builtin.append_ #[t, ti] ty #[.slice A n c, .int .i64 m]).run P w = (Builtin.append_ #[t, u] ty #[.slice A n c, .string ⟨Array.replicate m 0⟩]).run P w := by
  have hsz : (ByteArray.mk (Array.replicate m 0)).size = m := by show (Array.replicate m (0 : UInt8)).size = m; simp
  have hf : ∀ w', (Builtin.firstCells 1 m (.string ⟨Array.replicate m 0⟩)).run P w' = .ok (Lib.strCells ⟨Array.replicate m 0⟩).toArray w' := by
    intro w'
    have := Lib.run_firstCells_string (P := P) w' 1 ⟨Array.replicate m 0⟩
    rwa [hsz] at this
  have hwr : IntKind.i64.wrap (m : Int) = m := by
    exact IntWalk.i64_in _ (by omega)
  have hai : ∀ w', (asIntOf (.int .i64 (m : Int))).run P w' = .ok (.i64, (m : Int)) w' := fun _ => rfl
  have hm0 : ¬ ((m : Int) < 0) := by omega
  have hm1 : ¬ (281474976710656 < (m : Int)) := by omega
  have hnil : m = 0 → (Lib.strCells ⟨Array.replicate m 0⟩).toArray = #[] := by rintro rfl; rfl
  have hz0 := zeros_cells m
  by_cases hroom : n + m ≤ c
  · by_cases h0 : m = 0
    · subst h0
      replace hwr : IntKind.i64.wrap 0 = 0 := hwr
      replace hai : ∀ w', (asIntOf (.int .i64 0)).run P w' = .ok (.i64, 0) w' := hai
      have hsz0 : (ByteArray.mk #[]).size = 0 := rfl
      have hf0 : ∀ w', (Builtin.firstCells 1 0 (.string ⟨#[]⟩)).run P w' = .ok #[] w' := hf
      clear hf hsz hnil hz0
      simp [Builtin.append_, run_underlying ht, run_underlying hti, run_underlying hu, sizeOf, typeInfo, hi, hsize, hby, Builtin.lenOf, asInt, hai, hwr, hsz0, (show n ≤ c by omega), hf0, zeroValue, hz]
    · simp [Builtin.append_, run_underlying ht, run_underlying hti, run_underlying hu, sizeOf, typeInfo, hi, hsize, hby, Builtin.lenOf, asInt, hai, hwr, hsz, hroom, hf, hm0, hm1, h0, hz0, zeroValue, hz]
  · have h63 : ¬ (9223372036854775807 < ((n : Int) + (m : Int))) := by omega
    have h48 : ¬ (281474976710656 < Builtin.nextslicecap (n + m) c) := by
      have := growslice_fits (need := n + m) (old := c) (bytes := 1) (by omega) (by omega)
      omega
    by_cases h0 : m = 0
    · subst h0
      replace hwr : IntKind.i64.wrap 0 = 0 := hwr
      replace hai : ∀ w', (asIntOf (.int .i64 0)).run P w' = .ok (.i64, 0) w' := hai
      have hsz0 : (ByteArray.mk #[]).size = 0 := rfl
      have hf0 : ∀ w', (Builtin.firstCells 1 0 (.string ⟨#[]⟩)).run P w' = .ok #[] w' := hf
      clear hf hsz hnil hz0
      simp [Builtin.append_, run_underlying ht, run_underlying hti, run_underlying hu, sizeOf, typeInfo, hi, hsize, hby, Builtin.lenOf, asInt, hai, hwr, hsz0, (show ¬ n ≤ c by omega), hf0, (show ¬ (9223372036854775807 < (n : Int)) by omega), (show ¬ (281474976710656 < Builtin.nextslicecap n c) by simpa using h48), zeroValue, hz]
    · simp [Builtin.append_, run_underlying ht, run_underlying hti, run_underlying hu, sizeOf, typeInfo, hi, hsize, hby, Builtin.lenOf, asInt, hai, hwr, hsz, hroom, hf, hm0, hm1, h63, h48, h0, hz0, zeroValue, hz]

theorem strCells_bvs (s : ByteArray) : Lib.strCells s = bvs s.data.toList := rfl
theorem data_length (s : ByteArray) : s.data.toList.length = s.size := by rw [Array.length_toList]; rfl

/-- 'append(out, s...)': a text's bytes. -/
theorem wpList_appS {w : World} {ops : Array Oper} {rest : List Oper} {o : Oper} {a : Act} {Q : Exit → Act → World → Prop} (hgd : o.guard = none) (s x : Operand)
    (ho : o.op = .call { callee := .builtin .append, args := #[s, x], argTypes := #[22, 9] })
    (base : Nat) (v : Value) (bs : List UInt8) (hs : a.eval s = v) (hown : OB w base v bs) (t : ByteArray) (hx : a.eval x = .string t)
    (h63 : bs.length + t.size ≤ 140737488355328) (hbase : base ≤ w.heap.size)
    (h : ∀ v' w', OB w' base v' (bs ++ t.data.toList) → Below base w w' → wpList Try.prog ops Q rest (a.put o.dst v') w') : wpList Try.prog ops Q (o :: rest) a w := by
  obtain ⟨i0, hi, hz, h1, h2⟩ := info_parts byte_info
  refine Lib.wpList_append_own_string w hgd s x _ _ ho base 5 i0 Try.underlying22 Try.underlying9 hi hz h1 h2 v bs.length (bvs bs) hs hown t hx (by unfold maxLen; omega) h63 hbase ?_
  intro v' w' h3 h4 _
  refine h v' w' ?_ ((Below.refl _ _).grown h4 hbase (fun k hk => (hown.lt k hk).1))
  unfold OB
  rw [List.length_append, bvs_append, data_length]
  exact h3

/-- 'append(out, make([]byte, m)...)': noughts. -/
theorem wpList_appZ {w : World} {ops : Array Oper} {rest : List Oper} {o : Oper} {a : Act} {Q : Exit → Act → World → Prop} (hgd : o.guard = none) (s x : Operand)
    (ho : o.op = .call { callee := .builtin .append, args := #[s, x], argTypes := #[22, 3] })
    (base : Nat) (v : Value) (bs : List UInt8) (hs : a.eval s = v) (hown : OB w base v bs) (m : Nat) (z : Int) (hz0 : z = m) (hx : a.eval x = .int .i64 z)
    (h63 : bs.length + m ≤ 140737488355328) (hbase : base ≤ w.heap.size)
    (h : ∀ v' w', OB w' base v' (bs ++ List.replicate m 0) → Below base w w' → wpList Try.prog ops Q rest (a.put o.dst v') w') : wpList Try.prog ops Q (o :: rest) a w := by
  subst hz0
  obtain ⟨i0, hi, hz, h1, h2⟩ := info_parts byte_info
  have hsz : (ByteArray.mk (Array.replicate m 0)).size = m := by show (Array.replicate m (0 : UInt8)).size = m; simp
  obtain ⟨A, c, rfl, hc1, hc2, -, -⟩ := hown.form
  obtain ⟨v', w', hrun, h3, h4, -⟩ := Lib.run_append_own_string (P := Try.prog) w base 22 9 o.type 5 i0 Try.underlying22 Try.underlying9 hi hz h1 h2 (.slice A bs.length c) bs.length (bvs bs) hown ⟨Array.replicate m 0⟩
    (by rw [hsz]; unfold maxLen; omega) (by rw [hsz]; exact h63) hbase
  rw [← run_append_zeros_eq (P := Try.prog) w 22 3 9 o.type 5 i0 .i64 Try.underlying22 Try.underlying3 Try.underlying9 hi hz h1 h2 A bs.length c m h63] at hrun
  refine wpList_plain hgd fun K hK => ?_
  unfold Oper.wp execOp
  simp only [ho, resolve, invoke, builtin, Sem.run_bind, Sem.run_pure, Result.andThen_ok, List.map_toArray, List.map_cons, List.map_nil, hs, hx, hrun]
  refine hK _ _ (h v' w' ?_ ((Below.refl _ _).grown h4 hbase (fun k hk => (hown.lt k hk).1)))
  unfold OB
  rw [List.length_append, bvs_append, List.length_replicate]
  rw [hsz, strCells_bvs] at h3
  simpa using h3

/-- 'append(out, x, y)': two bytes, laid in a new block first. -/
theorem wpList_app2 {w : World} {ops : Array Oper} {rest : List Oper} {o : Oper} {a : Act} {Q : Exit → Act → World → Prop} (hgd : o.guard = none) (s x : Operand)
    (ho : o.op = .call { callee := .builtin .append, args := #[s, x], argTypes := #[22, 22] })
    (base : Nat) (v : Value) (bs : List UInt8) (hs : a.eval s = v) (z y : Int) (hx : a.eval x = .slice (some ⟨w.heap.size, 0, none⟩) 2 2) (hown : OB w base v bs)
    (u p : UInt8) (hu : (u.toNat : Int) = z) (hp : (p.toNat : Int) = y)
    (h63 : bs.length + 2 ≤ 140737488355328) (hbase : base ≤ w.heap.size)
    (h : ∀ v' w', OB w' base v' (bs ++ [u, p]) → Below base w w' → wpList Try.prog ops Q rest (a.put o.dst v') w') : wpList Try.prog ops Q (o :: rest) a (w.alloc (.cells #[.int .u8 z, .int .u8 y] 5)) := by
  subst hu
  subst hp
  refine wpList_appB hgd s x ho base v bs hs (hown.alloc _) (w.heap.size + 1) (some ⟨w.heap.size, 0, none⟩) 2 [u, p] 2 rfl hx (RB.lit w _ _ [u, p] rfl) h63 (by simp; omega) ?_
  intro v' w' h1 h2 _ _
  exact h v' w' h1 (((Below.refl _ _).alloc hbase _).trans h2)

end Go.Proofs.Ytlinlmimakealaa

namespace Go.Proofs.Ytlinlmimakealaa
open Go.RowKit

theorem pow_byte (k : Nat) : (2 : Nat) ^ (8 * k) = 256 ^ k := by rw [show (256 : Nat) = 2 ^ 8 from rfl, ← Nat.pow_mul]

theorem or_byte (m k : Nat) (u : UInt8) (hm : m < 256 ^ k) (hk : k < 8) :
    bits .or .u64 (m : Int) (IntKind.u64.wrap (IntKind.u64.wrap (u.toNat : Int) * 2 ^ (8 * k))) = ((m + 256 ^ k * u.toNat : Nat) : Int) := by
  have hu := u.toNat_lt
  have hp : (256 : Nat) ^ k ≤ 256 ^ 7 := Nat.pow_le_pow_right (by omega) (by omega)
  have hp7 : (256 : Nat) ^ 7 = 72057594037927936 := by decide
  have hmul : 256 ^ k * u.toNat ≤ 72057594037927936 * 255 := Nat.mul_le_mul (by omega) (by omega)
  have e1 : IntKind.u64.wrap (u.toNat : Int) = (u.toNat : Int) := by simp [IntKind.wrap, IntKind.bits, IntKind.signed]; omega
  have e2 : ((u.toNat : Int) * 2 ^ (8 * k)) = ((256 ^ k * u.toNat : Nat) : Int) := by
    rw [← pow_byte k, Int.natCast_mul, Int.mul_comm]; simp
  have e3 : IntKind.u64.wrap ((256 ^ k * u.toNat : Nat) : Int) = ((256 ^ k * u.toNat : Nat) : Int) := by
    rw [IntKind.wrap_u64]
    omega
  rw [e1, e2, e3, u64_or_nat _ _ (by omega) (by omega), Nat.or_comm, nat_join (8 * k) _ _ (by rw [pow_byte]; simp) (by rw [pow_byte]; exact hm), Nat.add_comm]

end Go.Proofs.Ytlinlmimakealaa

namespace Go.Proofs.Ytlinlmimakealaa
open Go.RowKit

theorem num_is (x : Int) (w : World) :
    Calls Try.prog 57 #[.int .i64 x] w fun e w' => e = .returned (.bool (isW x)) ∧ w = w' := by
  go_enter Try.func57, Try.ntmps57
  go_wp2
  all_goals (go_ret; refine ⟨ret_bool ?_, rfl⟩)
  all_goals (rw [Bool.eq_iff_iff]; simp [isW])
  all_goals omega

theorem num_fits (n x : Int) (h0 : -9223372036854775808 ≤ n) (h1 : n ≤ 9223372036854775807) (w : World) :
    Calls Try.prog 33 #[.int .i64 n, .int .i64 x] w fun e w' => e = .returned (.bool (fitsB n x)) ∧ w = w' := by
  by_cases hw : x = 1 ∨ x = 2 ∨ x = 4 ∨ x = 8
  · rcases hw with rfl | rfl | rfl | rfl
    all_goals
      go_enter Try.func33, Try.ntmps33
      go_wp2
      all_goals (go_ret; refine ⟨ret_bool ?_, rfl⟩)
    all_goals (rw [Bool.eq_iff_iff]; simp [fitsB])
    all_goals omega
  · have hx : isW x = false := by simp [isW]; omega
    go_enter Try.func33, Try.ntmps33
    go_wp2_with (go_at_call 57; refine (num_is _ _).mono ?_; rintro e w' ⟨rfl, rfl⟩)
    go_ret
    refine ⟨ret_bool ?_, rfl⟩
    simp [fitsB]
    omega

theorem num_room (A : Option Addr) (l c : Nat) (at_ x : Int) (h0 : -9223372036854775808 ≤ at_) (h1 : at_ ≤ 9223372036854775807) (hl : l ≤ 9223372036854775807) (w : World) :
    Calls Try.prog 83 #[.slice A l c, .int .i64 at_, .int .i64 x] w fun e w' => e = .returned (.bool (isW x && decide (0 ≤ at_ ∧ at_ + x ≤ l))) ∧ w = w' := by
  by_cases hw : isW x = true
  · have hb : 1 ≤ x ∧ x ≤ 8 := by simp [isW] at hw; omega
    obtain ⟨hb0, hb1⟩ := hb
    go_enter Try.func83, Try.ntmps83
    go_wp2_with (go_at_call 57; refine (num_is _ _).mono ?_; rintro e w' ⟨rfl, rfl⟩)
    all_goals (go_ret; refine ⟨ret_bool ?_, rfl⟩)
    all_goals (rw [Bool.eq_iff_iff]; simp [hw])
    all_goals omega
  · have hw : isW x = false := by simpa using hw
    go_enter Try.func83, Try.ntmps83
    go_wp2_with (go_at_call 57; refine (num_is _ _).mono ?_; rintro e w' ⟨rfl, rfl⟩)
    go_ret
    refine ⟨ret_bool ?_, rfl⟩
    simp [hw]

/-- slices.Clone at bytes: a copy of the call's own; nil stays nil. -/
theorem clone_bytes (A : Option Addr) (bs : List UInt8) (c : Nat) (w : World) (hr : RB w w.heap.size A bs) (hl : bs.length ≤ 1073741824) :
    Calls Try.prog 56 #[.slice A bs.length c] w fun e w' => ∃ v, e = .returned v ∧ OB w' w.heap.size v bs ∧ Below w.heap.size w w' := by
  rcases A with _ | a
  · have h0 : bs = [] := by
      rcases Nat.eq_zero_or_pos bs.length with h | h
      · exact List.eq_nil_of_length_eq_zero h
      · obtain ⟨_, _, h, _⟩ := hr.2 h; cases h
    subst h0
    have hq := eq_nilB
    go_enter Try.func56, Try.ntmps56
    go_wp2
    go_ret
    exact ⟨_, rfl, World.ownsRow_nil _ _ _ _, Below.refl _ _⟩
  · have hq := eq_nilB
    go_enter Try.func56, Try.ntmps56
    go_wp2_with (at_builtin; refine wpList_appB rfl (.tmp 5) (.tmp 6) rfl w.heap.size _ [] rfl (World.ownsRow_made w #[] 0 (Nat.le_refl _) (by unfold maxLen; omega) rfl) w.heap.size (some a) c bs bs.length rfl rfl (hr.alloc (Nat.le_refl _) _) (by simp; omega) (by simp) ?_; intro v1 w1 hown1 hb1 _ _)
    go_ret
    exact ⟨v1, rfl, by simpa using hown1, ((Below.refl _ _).alloc (Nat.le_refl _) _).trans hb1⟩

/-- num.Put: the number behind the bytes, in memory of the call's own. -/
theorem num_put (A : Option Addr) (bs : List UInt8) (c : Nat) (n x : Int) (h0 : -9223372036854775808 ≤ n) (h1 : n ≤ 9223372036854775807) (w : World) (hr : RB w w.heap.size A bs) (hl : bs.length ≤ 1073741824) :
    Calls Try.prog 32 #[.slice A bs.length c, .int .i64 n, .int .i64 x] w fun e w' => ∃ v, e = .returned v ∧ OB w' w.heap.size v (putB bs n x) ∧ Below w.heap.size w w' := by
  by_cases hf : fitsB n x = true
  · go_enter Try.func32, Try.ntmps32
    go_wp2_with fail
    refine (clone_bytes A bs c w hr hl).mono ?_
    rintro e w1 ⟨v, rfl, hown, hb⟩
    go_wp2_with fail
    refine (num_fits n x h0 h1 _).mono ?_
    rintro e w2 ⟨rfl, rfl⟩
    go_wp2_with fail
    have hx := fits_width hf
    have hn := fits_nat hf
    obtain ⟨wd, rfl⟩ : ∃ wd : Nat, x = wd := ⟨x.toNat, by omega⟩
    have hwd : wd ≤ 8 := by omega
    clear hx
    go_loopw [0, 16] (fun v i wr => ∃ k : Nat, k ≤ wd ∧ i = .int .i64 k ∧ OB wr w.heap.size v (bs ++ leB n.toNat k) ∧ Below w.heap.size w wr) (fun _ i _ => wd - (intOf i).toNat)
    case atStart => exact ⟨0, Nat.zero_le _, rfl, by simpa [leB] using hown, hb⟩
    case round =>
      obtain ⟨k, hk, rfl, hown, hb⟩ := hrel
      by_cases hlt : k < wd
      · have hby := leB_byte n k hn
        have HB := Lib.hid hby
        clear hby
        have hz := hb.size
        go_wp2_with (at_builtin; refine wpList_app1 rfl (.tmp 19) (.tmp 25) rfl w.heap.size _ _ rfl _ rfl hown _ HB.out (by simp [leB_length]; omega) hz ?_; intro v1 w2 hown1 hb1)
        go_roundw
        case rel => exact ⟨k + 1, by omega, by go_num, by rw [leB_snoc, ← List.append_assoc]; exact hown1, hb.trans hb1⟩
        case measure => simp [intOf]; omega
      · obtain rfl : k = wd := by omega
        go_wp2
        go_ret
        exact ⟨_, rfl, by simpa [putB, hf] using hown, hb⟩
  · have hf : fitsB n x = false := by simpa using hf
    go_enter Try.func32, Try.ntmps32
    go_wp2_with fail
    refine (clone_bytes A bs c w hr hl).mono ?_
    rintro e w1 ⟨v, rfl, hown, hb⟩
    go_wp2_with fail
    refine (num_fits n x h0 h1 _).mono ?_
    rintro e w2 ⟨rfl, rfl⟩
    go_wp2_with fail
    go_ret
    exact ⟨_, rfl, by simpa [putB, hf] using hown, hb⟩

/-- num.Get: the number at a place, or none. -/
theorem num_get (A : Option Addr) (bs : List UInt8) (c : Nat) (at_ x : Int) (h0 : -9223372036854775808 ≤ at_) (h1 : at_ ≤ 9223372036854775807) (B : Nat) (w : World) (hr : RB w B A bs) (hl : bs.length ≤ 1073741824) :
    Calls Try.prog 74 #[.slice A bs.length c, .int .i64 at_, .int .i64 x] w fun e w' => e = .returned (.tuple #[.int .i64 (getN bs at_ x), .bool (getK bs at_ x)]) ∧ w = w' := by
  by_cases hrm : isW x = true ∧ 0 ≤ at_ ∧ at_ + x ≤ bs.length
  · have hroom : (isW x && decide (0 ≤ at_ ∧ at_ + x ≤ bs.length)) = true := by simp [hrm.1, hrm.2.1, hrm.2.2]
    obtain ⟨hw, ha, hle⟩ := hrm
    have hwd : x = 8 ∨ x = 4 ∨ x = 2 ∨ x = 1 := by simp [isW] at hw; omega
    obtain ⟨a, rfl⟩ := Int.eq_ofNat_of_zero_le ha
    obtain ⟨wd, rfl⟩ : ∃ wd : Nat, x = wd := ⟨x.toNat, by omega⟩
    have hwd8 : wd ≤ 8 := by omega
    have hwd1 : 1 ≤ wd := by omega
    have hab : a + wd ≤ bs.length := by omega
    obtain ⟨b, o, rfl, hbB, hc⟩ := hr.all (by omega)
    have HC := Lib.hid hc
    clear hc hwd
    go_enter Try.func74, Try.ntmps74
    go_wp2_with fail
    refine (num_room _ _ _ _ _ h0 h1 (by omega) _).mono ?_
    rintro e w2 ⟨rfl, rfl⟩
    rw [hroom]
    go_wp2_with fail
    go_loop [8, 16] (fun v i => ∃ k : Nat, k ≤ wd ∧ i = .int .i64 k ∧ v = .int .u64 (leVal ((bs.drop a).take k) : Nat)) (fun _ i => wd - (intOf i).toNat)
    case atStart => exact ⟨0, Nat.zero_le _, rfl, rfl⟩
    case round =>
      obtain ⟨k, hk, rfl, rfl⟩ := hrel
      by_cases hlt : k < wd
      · have hcell := HC.out (a + k) (by omega)
        obtain ⟨u, hu⟩ : ∃ u, u = bs[a + k]'(by omega) := ⟨_, rfl⟩
        rw [← hu] at hcell
        have HU := Lib.hid hu
        clear hu
        have hlv := leVal_lt ((bs.drop a).take k)
        rw [List.length_take, List.length_drop, Nat.min_eq_left (by omega)] at hlv
        have hor := or_byte _ k u hlv (by omega)
        have hsn : (bs.drop a).take (k + 1) = (bs.drop a).take k ++ [u] := by
          rw [List.take_succ_eq_append_getElem (by simp; omega), HU.out]; simp
        have hle2 : leVal ((bs.drop a).take (k + 1)) = leVal ((bs.drop a).take k) + 256 ^ k * u.toNat := by
          rw [hsn, leVal_snoc, List.length_take, List.length_drop, Nat.min_eq_left (by omega)]
        have HO := Lib.hid hor
        have HL := Lib.hid hle2
        clear hor hsn hle2 hlv
        go_wp2_with fail
        go_round
        case rel => exact ⟨k + 1, by omega, by go_num, by rw [HO.out, HL.out]⟩
        case measure => simp [intOf]; omega
      · obtain rfl : k = wd := by omega
        have hlv := leVal_lt ((bs.drop a).take k)
        rw [List.length_take, List.length_drop, Nat.min_eq_left (by omega)] at hlv
        have hp : (256 : Nat) ^ k ≤ 256 ^ 8 := Nat.pow_le_pow_right (by omega) (by omega)
        have hp8 : (256 : Nat) ^ 8 = 18446744073709551616 := by decide
        have hlv2 : leVal ((bs.drop a).take k) < 18446744073709551616 := by omega
        obtain ⟨m, hm⟩ : ∃ m, m = leVal ((bs.drop a).take k) := ⟨_, rfl⟩
        rw [← hm] at hlv2 ⊢
        have HM := Lib.hid hm
        have HV := Lib.hid hlv2
        clear hm hp hp8 hlv hlv2
        by_cases hbig : m < 9223372036854775808
        · have hg := get_small (bs := bs) (a := a) hw (by omega) HM.out hbig
          have HG := Lib.hid hg
          clear hg
          go_wp2
          go_ret2
          exact ⟨ret_int_bool HG.out.1.symm HG.out.2.symm, rfl⟩
        · have hg := get_large (bs := bs) (a := a) HM.out hbig
          have HG := Lib.hid hg
          clear hg
          go_wp2
          go_ret2
          exact ⟨ret_int_bool HG.out.1.symm HG.out.2.symm, rfl⟩
  · have hg := get_none hrm
    have hroom : (isW x && decide (0 ≤ at_ ∧ at_ + x ≤ bs.length)) = false := by
      rw [Bool.and_eq_false_iff]
      by_cases hx : isW x = true
      · right
        simp only [decide_eq_false_iff_not]
        exact fun h => hrm ⟨hx, h⟩
      · left; simpa using hx
    have HG := Lib.hid hg
    clear hg hrm
    go_enter Try.func74, Try.ntmps74
    go_wp2_with fail
    refine (num_room _ _ _ _ _ h0 h1 (by omega) _).mono ?_
    rintro e w2 ⟨rfl, rfl⟩
    rw [hroom]
    go_wp2_with fail
    go_ret2
    exact ⟨ret_int_bool HG.out.1.symm HG.out.2.symm, rfl⟩

end Go.Proofs.Ytlinlmimakealaa

namespace Go.Proofs.Ytlinlmimakealaa
open Go.RowKit

theorem ref1_power (n : Nat) (hn : n ≤ 7) (w : World) : Calls Try.prog 64 #[.int .i64 n] w fun e w' => e = .returned (.int .i64 ((256 ^ n : Nat) : Int)) ∧ w = w' := by
  go_enter Try.func64, Try.ntmps64
  go_wp2
  go_loop [3, 4] (fun p i => ∃ k : Nat, k ≤ n ∧ i = .int .i64 k ∧ p = .int .i64 ((256 ^ k : Nat) : Int)) (fun _ i => n - (intOf i).toNat)
  case atStart => exact ⟨0, Nat.zero_le _, rfl, rfl⟩
  case round =>
    obtain ⟨k, hk, rfl, rfl⟩ := hrel
    by_cases hlt : k < n
    · have h7 : (256 : Nat) ^ k ≤ 256 ^ 6 := Nat.pow_le_pow_right (by omega) (by omega)
      have e7 : (256 : Nat) ^ 6 = 281474976710656 := by decide
      obtain ⟨p, hp⟩ : ∃ p : Nat, p = 256 ^ k := ⟨_, rfl⟩
      rw [← hp] at h7 ⊢
      have HP := Lib.hid hp
      clear hp
      rw [e7] at h7
      clear e7
      go_wp2
      go_round
      case rel => exact ⟨k + 1, by omega, by go_num, by rw [Nat.pow_succ, ← HP.out]; go_num⟩
      case measure => simp [intOf]; omega
    · obtain rfl : k = n := by omega
      go_wp2
      go_ret
      exact ⟨rfl, rfl⟩

theorem ref1_power1 (w : World) : Calls Try.prog 64 #[.int .i64 1] w fun e w' => e = .returned (.int .i64 256) ∧ w = w' := ref1_power 1 (by omega) w
theorem ref1_power2 (w : World) : Calls Try.prog 64 #[.int .i64 2] w fun e w' => e = .returned (.int .i64 65536) ∧ w = w' := ref1_power 2 (by omega) w
theorem ref1_power4 (w : World) : Calls Try.prog 64 #[.int .i64 4] w fun e w' => e = .returned (.int .i64 4294967296) ∧ w = w' := ref1_power 4 (by omega) w

theorem ref1_fits (n x : Int) (w : World) :
    Calls Try.prog 42 #[.int .i64 n, .int .i64 x] w fun e w' => e = .returned (.bool (fitsB n x)) ∧ w = w' := by
  by_cases hn : 0 ≤ n
  · by_cases h1 : x = 1 ∨ x = 2 ∨ x = 4
    · rcases h1 with rfl | rfl | rfl
      all_goals
        go_enter Try.func42, Try.ntmps42
        go_wp2_with fail
      · refine (ref1_power1 _).mono ?_; rintro e w' ⟨rfl, rfl⟩; go_wp2; go_ret; exact ⟨ret_bool (by rw [Bool.eq_iff_iff]; simp [fitsB, hn]), rfl⟩
      · refine (ref1_power2 _).mono ?_; rintro e w' ⟨rfl, rfl⟩; go_wp2; go_ret; exact ⟨ret_bool (by rw [Bool.eq_iff_iff]; simp [fitsB, hn]), rfl⟩
      · refine (ref1_power4 _).mono ?_; rintro e w' ⟨rfl, rfl⟩; go_wp2; go_ret; exact ⟨ret_bool (by rw [Bool.eq_iff_iff]; simp [fitsB, hn]), rfl⟩
    · by_cases h8 : x = 8
      · subst h8
        go_enter Try.func42, Try.ntmps42
        go_wp2_with fail
        go_ret
        exact ⟨ret_bool (by rw [Bool.eq_iff_iff]; simp [fitsB, hn]), rfl⟩
      · have a1 : (x != 1) = true := by simp; omega
        have a2 : (x != 2) = true := by simp; omega
        have a4 : (x != 4) = true := by simp; omega
        go_enter Try.func42, Try.ntmps42
        go_wp2_with fail
        go_ret
        exact ⟨ret_bool (by simp [fitsB]; omega), rfl⟩
  · go_enter Try.func42, Try.ntmps42
    go_wp2_with fail
    go_ret
    exact ⟨ret_bool (by simp [fitsB]; omega), rfl⟩

theorem byte_mod (m : Nat) : ((UInt8.ofNat (m % 256)).toNat : Int) = (m : Int) % 256 := by simp

theorem ref1_put (A : Option Addr) (bs : List UInt8) (c : Nat) (n x : Int) (w : World) (hr : RB w w.heap.size A bs) (hl : bs.length ≤ 1073741824) (h1 : n ≤ 9223372036854775807) :
    Calls Try.prog 20 #[.slice A bs.length c, .int .i64 n, .int .i64 x] w fun e w' => ∃ v, e = .returned v ∧ OB w' w.heap.size v (putB bs n x) ∧ Below w.heap.size w w' := by
  have ho := OB.nil w w.heap.size
  go_enter Try.func20, Try.ntmps20
  go_wp2_with (at_builtin; refine wpList_appB rfl (.tmp 10) (.tmp 11) rfl w.heap.size _ [] rfl ho w.heap.size A c bs bs.length rfl rfl hr (by simp; omega) (Nat.le_refl _) ?_; intro v1 w1 hown hb _ _)
  by_cases hf : fitsB n x = true
  · have hx := fits_width hf
    have hn := fits_nat hf
    obtain ⟨wd, rfl⟩ : ∃ wd : Nat, x = wd := ⟨x.toNat, by omega⟩
    obtain ⟨m, rfl⟩ := Int.eq_ofNat_of_zero_le hn
    have hwd : wd ≤ 8 := by omega
    clear hx
    refine (ref1_fits _ _ _).mono ?_
    rintro e w2 ⟨rfl, rfl⟩
    go_wp2_with fail
    go_loopw [1, 7, 9] (fun q v i wr => ∃ k : Nat, k ≤ wd ∧ i = .int .i64 k ∧ q = .int .i64 ((m / 256 ^ k : Nat) : Int) ∧ OB wr w.heap.size v (bs ++ leB m k) ∧ Below w.heap.size w wr) (fun _ _ i _ => wd - (intOf i).toNat)
    case atStart => exact ⟨0, Nat.zero_le _, rfl, by simp, by simpa [leB] using hown, hb⟩
    case round =>
      obtain ⟨k, hk, rfl, rfl, hown, hb⟩ := hrel
      by_cases hlt : k < wd
      · have hq : m / 256 ^ k ≤ m := Nat.div_le_self _ _
        obtain ⟨q, hqe⟩ : ∃ q : Nat, q = m / 256 ^ k := ⟨_, rfl⟩
        rw [← hqe] at hq ⊢
        have HQ := Lib.hid hqe
        clear hqe
        have hz := hb.size
        have hby := byte_mod q
        have HB := Lib.hid hby
        clear hby
        go_wp2_with (at_builtin; refine wpList_app1 rfl (.tmp 24) (.tmp 28) rfl w.heap.size _ _ rfl _ rfl hown _ HB.out (by simp [leB_length]; omega) hz ?_; intro v1 w2 hown1 hb1)
        go_roundw
        case rel => exact ⟨k + 1, by omega, by go_num, by rw [Nat.pow_succ, ← Nat.div_div_eq_div_mul, ← HQ.out]; go_num, by rw [leB_snoc, ← List.append_assoc, ← HQ.out]; exact hown1, hb.trans hb1⟩
        case measure => simp [intOf]; omega
      · obtain rfl : k = wd := by omega
        go_wp2
        go_ret
        exact ⟨_, rfl, by simpa [putB, hf] using hown, hb⟩
  · have hf : fitsB n x = false := by simpa using hf
    refine (ref1_fits _ _ _).mono ?_
    rintro e w2 ⟨rfl, rfl⟩
    rw [hf]
    go_wp2_with fail
    go_ret
    exact ⟨_, rfl, by simpa [putB, hf] using hown, hb⟩

theorem ref1_same (A A' : Option Addr) (xs ys : List UInt8) (c c' B B' : Nat) (w : World) (hx : RB w B A xs) (hy : RB w B' A' ys) (hl : xs.length ≤ 1073741824) (hl' : ys.length ≤ 1073741824) :
    Calls Try.prog 23 #[.slice A xs.length c, .slice A' ys.length c'] w fun e w' => e = .returned (.bool (decide (xs = ys))) ∧ ∃ n, w' = w.drewN n := by
  by_cases hlen : xs.length = ys.length
  · have hle1 : xs.length ≤ ys.length := Nat.le_of_eq hlen
    have hle2 : ys.length ≤ xs.length := Nat.le_of_eq hlen.symm
    clear hlen
    go_enter Try.func23, Try.ntmps23
    go_wp2
    go_loopw [5] (fun i wr => ∃ k n : Nat, k ≤ xs.length ∧ i = .int .i64 k ∧ xs.take k = ys.take k ∧ wr = w.drewN n) (fun i _ => xs.length - (intOf i).toNat)
    case atStart => exact ⟨0, 0, Nat.zero_le _, rfl, rfl, rfl⟩
    case round =>
      obtain ⟨k, n, hk, rfl, ht, rfl⟩ := hrel
      have HT := Lib.hid ht
      clear ht
      by_cases hlt : k < xs.length
      · obtain ⟨b, o, rfl, _, hc⟩ := hx.at_ hlt
        obtain ⟨b', o', rfl, _, hc'⟩ := hy.at_ (k := k) (by omega)
        obtain ⟨u, hu⟩ : ∃ u, u = xs[k]'hlt := ⟨_, rfl⟩
        obtain ⟨u', hu'⟩ : ∃ u, u = ys[k]'(by omega) := ⟨_, rfl⟩
        rw [← hu] at hc
        rw [← hu'] at hc'
        have HU := Lib.hid hu
        have HU' := Lib.hid hu'
        clear hu hu'
        have hky : k < ys.length := by omega
        by_cases he : u = u'
        · have heq : ((u.toNat : Int) != (u'.toNat : Int)) = false := by simp [he]
          have HE := Lib.hid he
          clear he
          go_wp2
          go_quiet (fail)
          go_wp2
          go_roundw
          case rel =>
            refine ⟨k + 1, _, by omega, by go_num, ?_, rfl⟩
            rw [List.take_succ_eq_append_getElem hlt, List.take_succ_eq_append_getElem hky, HT.out, ← HU.out, ← HU'.out, HE.out]
          case measure => simp [intOf]; omega
        · have heq : ((u.toNat : Int) != (u'.toNat : Int)) = true := by
            simp only [bne_iff_ne, ne_eq, Int.ofNat_inj]
            exact fun h => he (UInt8.toNat_inj.1 h)
          have HE := Lib.hid he
          clear he
          go_wp2
          go_quiet (fail)
          go_wp2
          go_ret
          refine ⟨ret_bool ?_, _, World.drewN_drewN ..⟩
          symm
          simp only [decide_eq_false_iff_not]
          rintro rfl
          exact HE.out (HU.out.trans HU'.out.symm)
      · obtain rfl : k = xs.length := by omega
        go_wp2
        go_ret
        refine ⟨ret_bool ?_, _, rfl⟩
        symm
        simp only [decide_eq_true_eq]
        have h := HT.out
        rw [List.take_of_length_le (Nat.le_refl _), List.take_of_length_le hle2] at h
        exact h
  · go_enter Try.func23, Try.ntmps23
    go_wp2
    go_ret
    refine ⟨ret_bool ?_, 0, rfl⟩
    simp
    rintro rfl
    exact hlen rfl

theorem leVal_drop (bs : List UInt8) (k : Nat) (hk : k ≤ bs.length) : leVal bs = leVal (bs.take k) + 256 ^ k * leVal (bs.drop k) := by
  induction k generalizing bs with
  | zero => simp [leVal]
  | succ k ih =>
    match bs, hk with
    | u :: t, hk =>
      rw [List.take_succ_cons, List.drop_succ_cons, leVal, leVal, ih t (by simpa using hk), Nat.pow_succ, Nat.mul_comm (256 ^ k) 256, Nat.mul_add, Nat.mul_assoc]
      omega
theorem leVal_cons (bs : List UInt8) (k : Nat) (hk : k < bs.length) : leVal (bs.drop k) = (bs[k]).toNat + 256 * leVal (bs.drop (k + 1)) := by
  rw [List.drop_eq_getElem_cons hk, leVal]
theorem leVal_part (bs : List UInt8) (k : Nat) : leVal (bs.drop k) ≤ leVal bs := by
  by_cases hk : k ≤ bs.length
  · rw [leVal_drop bs k hk]
    have : leVal (bs.drop k) ≤ 256 ^ k * leVal (bs.drop k) := Nat.le_mul_of_pos_left _ (Nat.pow_pos (by omega))
    omega
  · rw [List.drop_eq_nil_of_le (by omega)]
    simp [leVal]
/-- The top byte of eight tells whether the number is too great. -/
theorem leVal_top (bs : List UInt8) (h : bs.length = 8) : leVal bs < 9223372036854775808 ↔ (bs[7]'(by omega)).toNat < 128 := by
  have h7 := leVal_drop bs 7 (by omega)
  have hc := leVal_cons bs 7 (by omega)
  rw [List.drop_eq_nil_of_le (show bs.length ≤ 7 + 1 by omega), leVal] at hc
  have hl := leVal_lt (bs.take 7)
  rw [List.length_take, Nat.min_eq_left (by omega)] at hl
  have e : (256 : Nat) ^ 7 = 72057594037927936 := by decide
  rw [e] at hl h7
  omega

set_option maxHeartbeats 800000 in
set_option maxRecDepth 100000 in
theorem ref1_get_yes (A : Option Addr) (bs : List UInt8) (c : Nat) (at_ x : Int) (h0 : -9223372036854775808 ≤ at_) (h1 : at_ ≤ 9223372036854775807) (B : Nat) (w : World) (hr : RB w B A bs) (hl : bs.length ≤ 1073741824)
    (hrm : isW x = true ∧ 0 ≤ at_ ∧ at_ + x ≤ bs.length) (hbig : leVal ((bs.drop at_.toNat).take x.toNat) < 9223372036854775808) :
    Calls Try.prog 88 #[.slice A bs.length c, .int .i64 at_, .int .i64 x] w fun e w' => e = .returned (.tuple #[.int .i64 (getN bs at_ x), .bool (getK bs at_ x)]) ∧ w = w' := by
  obtain ⟨hw, ha, hle⟩ := hrm
  have hwd : x = 8 ∨ x = 4 ∨ x = 2 ∨ x = 1 := by simp [isW] at hw; omega
  obtain ⟨a, rfl⟩ := Int.eq_ofNat_of_zero_le ha
  obtain ⟨wd, rfl⟩ : ∃ wd : Nat, x = wd := ⟨x.toNat, by omega⟩
  obtain ⟨b, o, rfl, hbB, hc⟩ := hr.all (by omega)
  have HC := Lib.hid hc
  clear hc
  have hseg : ((bs.drop a).take wd).length = wd := by simp; omega
  obtain ⟨seg, hsg⟩ : ∃ seg, seg = (bs.drop a).take wd := ⟨_, rfl⟩
  rw [← hsg] at hseg
  have hsk : ∀ k, k < wd → ∃ u : UInt8, seg[k]? = some u ∧ w.cell? ⟨b, o + (a + k), none⟩ = some (.int .u8 (u.toNat : Int)) := by
    intro k h
    refine ⟨bs[a + k]'(by omega), ?_, HC.out (a + k) (by omega)⟩
    subst hsg
    rw [List.getElem?_take, if_pos h, List.getElem?_drop, List.getElem?_eq_getElem]
  have hbig : leVal seg < 9223372036854775808 := by rw [hsg]; exact hbig
  have hg := get_small (bs := bs) (a := a) hw (by omega) (by rw [hsg]) hbig
  have HG := Lib.hid hg
  have HSEG := Lib.hid hseg
  have HSK := Lib.hid hsk
  have htop : (wd = 8 ∧ ∃ t : Nat, w.cell? ⟨b, o + (a + 7), none⟩ = some (.int .u8 (t : Int)) ∧ t < 128) ∨ wd = 4 ∨ wd = 2 ∨ wd = 1 := by
    by_cases h8 : wd = 8
    · left
      obtain ⟨u, hu, hcu⟩ := hsk 7 (by omega)
      refine ⟨h8, _, hcu, ?_⟩
      have h := (leVal_top seg (by omega)).1 hbig
      rw [List.getElem?_eq_getElem (by omega)] at hu
      injection hu with hu
      rw [← hu]
      exact h
    · omega
  have hwd8 : wd ≤ 8 := by omega
  have hwd1 : 1 ≤ wd := by omega
  have hab : a + wd ≤ bs.length := by omega
  have HB := Lib.hid hbig
  clear hg hseg hsk hw hwd hsg hle hbig HC
  rcases htop with ⟨rfl, t, ht, ht8⟩ | rfl | rfl | rfl
  all_goals
    go_enter Try.func88, Try.ntmps88
    go_wp2_with fail
    go_loop [8, 9] (fun n i => ∃ j : Nat, j ≤ seg.length ∧ i = .int .i64 ((j : Int) - 1) ∧ n = .int .i64 (leVal (seg.drop j) : Nat)) (fun _ i => (intOf i + 1).toNat)
    case atStart =>
      refine ⟨seg.length, Nat.le_refl _, ?_, ?_⟩
      · rw [HSEG.out]; rfl
      · rw [List.drop_eq_nil_of_le (Nat.le_refl _)]; rfl
    case round =>
      obtain ⟨j, hj, rfl, rfl⟩ := hrel
      cases j with
      | zero =>
        rw [show ((0 : Nat) : Int) - 1 = -1 from rfl, List.drop_zero]
        go_wp2
        go_ret2
        exact ⟨ret_int_bool HG.out.1.symm HG.out.2.symm, rfl⟩
      | succ j =>
        have hjw2 := HSEG.out
        obtain ⟨u, hu, hcu⟩ := HSK.out j (by omega)
        have hjw : j < seg.length := by omega
        have hval : leVal (seg.drop j) = u.toNat + 256 * leVal (seg.drop (j + 1)) := by
          rw [leVal_cons seg j hjw]
          rw [List.getElem?_eq_getElem hjw] at hu
          injection hu with hu
          rw [hu]
        have hpart := leVal_part seg j
        have hsmall := HB.out
        obtain ⟨m, hm⟩ : ∃ m, m = leVal (seg.drop (j + 1)) := ⟨_, rfl⟩
        rw [← hm] at hval ⊢
        have hbound : 256 * m + u.toNat < 9223372036854775808 := by omega
        have HV := Lib.hid hval
        have hidx : a + j < bs.length := by omega
        clear hm hval hpart hsmall hu hjw2
        rw [show ((j + 1 : Nat) : Int) - 1 = (j : Int) by omega]
        go_wp2
        go_round
        case rel => exact ⟨j, by omega, by go_num, by rw [HV.out]; go_num⟩
        case measure => simp [intOf]

set_option maxHeartbeats 800000 in
set_option maxRecDepth 100000 in
theorem ref1_get_big (A : Option Addr) (bs : List UInt8) (c : Nat) (at_ x : Int) (h0 : -9223372036854775808 ≤ at_) (h1 : at_ ≤ 9223372036854775807) (B : Nat) (w : World) (hr : RB w B A bs) (hl : bs.length ≤ 1073741824)
    (hrm : isW x = true ∧ 0 ≤ at_ ∧ at_ + x ≤ bs.length) (hbig : ¬ leVal ((bs.drop at_.toNat).take x.toNat) < 9223372036854775808) :
    Calls Try.prog 88 #[.slice A bs.length c, .int .i64 at_, .int .i64 x] w fun e w' => e = .returned (.tuple #[.int .i64 (getN bs at_ x), .bool (getK bs at_ x)]) ∧ w = w' := by
  obtain ⟨hw, ha, hle⟩ := hrm
  have hwd : x = 8 ∨ x = 4 ∨ x = 2 ∨ x = 1 := by simp [isW] at hw; omega
  obtain ⟨a, rfl⟩ := Int.eq_ofNat_of_zero_le ha
  obtain ⟨wd, rfl⟩ : ∃ wd : Nat, x = wd := ⟨x.toNat, by omega⟩
  obtain ⟨b, o, rfl, hbB, hc⟩ := hr.all (by omega)
  have HC := Lib.hid hc
  clear hc
  have hseg : ((bs.drop a).take wd).length = wd := by simp; omega
  obtain ⟨seg, hsg⟩ : ∃ seg, seg = (bs.drop a).take wd := ⟨_, rfl⟩
  rw [← hsg] at hseg
  have hsk : ∀ k, k < wd → ∃ u : UInt8, seg[k]? = some u ∧ w.cell? ⟨b, o + (a + k), none⟩ = some (.int .u8 (u.toNat : Int)) := by
    intro k h
    refine ⟨bs[a + k]'(by omega), ?_, HC.out (a + k) (by omega)⟩
    subst hsg
    rw [List.getElem?_take, if_pos h, List.getElem?_drop, List.getElem?_eq_getElem]
  have hbg : ¬ leVal seg < 9223372036854775808 := by rw [hsg]; exact hbig
  clear hbig
  have hg := get_large (bs := bs) (a := a) (k := wd) (by rw [hsg]) hbg
  have HG := Lib.hid hg
  have hlt := leVal_lt seg
  rw [hseg] at hlt
  have h8 : wd = 8 := by
    rcases hwd with h | h | h | h
    · omega
    all_goals
      exfalso
      have hp : (256 : Nat) ^ wd ≤ 256 ^ 4 := Nat.pow_le_pow_right (by omega) (by omega)
      have e4 : (256 : Nat) ^ 4 = 4294967296 := by decide
      omega
  subst h8
  obtain ⟨u, hu, hcu⟩ := hsk 7 (by omega)
  have htop : 128 ≤ u.toNat := by
    have h : ¬ (seg[7]'(by omega)).toNat < 128 := fun h => hbg ((leVal_top seg (by omega)).2 h)
    rw [List.getElem?_eq_getElem (by omega)] at hu
    injection hu with hu
    rw [hu] at h
    omega
  have hab : a + 8 ≤ bs.length := by omega
  clear hg hlt hu hsk hbg hsg hseg hwd hw HC
  go_enter Try.func88, Try.ntmps88
  go_wp2_with fail
  go_ret2
  exact ⟨ret_int_bool HG.out.1.symm HG.out.2.symm, rfl⟩

set_option maxHeartbeats 800000 in
set_option maxRecDepth 100000 in
theorem ref1_get_no (A : Option Addr) (bs : List UInt8) (c : Nat) (at_ x : Int) (h0 : -9223372036854775808 ≤ at_) (h1 : at_ ≤ 9223372036854775807) (w : World) 
    (hrm : ¬ (isW x = true ∧ 0 ≤ at_ ∧ at_ + x ≤ bs.length)) :
    Calls Try.prog 88 #[.slice A bs.length c, .int .i64 at_, .int .i64 x] w fun e w' => e = .returned (.tuple #[.int .i64 (getN bs at_ x), .bool (getK bs at_ x)]) ∧ w = w' := by
  have hg := get_none hrm
  have HG := Lib.hid hg
  clear hg
  by_cases hw : isW x = true
  · have hwd : x = 8 ∨ x = 4 ∨ x = 2 ∨ x = 1 := by simp [isW] at hw; omega
    have hout : at_ < 0 ∨ ((bs.length : Int) < at_ + x ∧ 0 ≤ at_) := by
      by_cases ha : at_ < 0
      · exact .inl ha
      · right
        refine ⟨?_, by omega⟩
        by_cases h : at_ + x ≤ bs.length
        · exact absurd ⟨hw, by omega, h⟩ hrm
        · omega
    clear hrm hw
    rcases hout with hn | ⟨hn, hp⟩
    · have hn' : decide (at_ < 0) = true := by simp [hn]
      rcases hwd with rfl | rfl | rfl | rfl
      all_goals
        go_enter Try.func88, Try.ntmps88
        go_wp2_with fail
        go_ret2
        exact ⟨ret_int_bool HG.out.1.symm HG.out.2.symm, rfl⟩
    · by_cases hfar : (bs.length : Int) < at_
      · rcases hwd with rfl | rfl | rfl | rfl
        all_goals
          go_enter Try.func88, Try.ntmps88
          go_wp2_with fail
          go_ret2
          exact ⟨ret_int_bool HG.out.1.symm HG.out.2.symm, rfl⟩
      · rcases hwd with rfl | rfl | rfl | rfl
        all_goals
          go_enter Try.func88, Try.ntmps88
          go_wp2_with fail
          go_ret2
          exact ⟨ret_int_bool HG.out.1.symm HG.out.2.symm, rfl⟩
  · have a1 : (x != 1) = true := by simp [isW] at hw ⊢; omega
    have a2 : (x != 2) = true := by simp [isW] at hw ⊢; omega
    have a4 : (x != 4) = true := by simp [isW] at hw ⊢; omega
    have a8 : (x != 8) = true := by simp [isW] at hw ⊢; omega
    clear hrm hw
    go_enter Try.func88, Try.ntmps88
    go_wp2_with fail
    go_ret2
    exact ⟨ret_int_bool HG.out.1.symm HG.out.2.symm, rfl⟩

/-- commonsref01.Get: the number at a place, or none. -/
theorem ref1_get (A : Option Addr) (bs : List UInt8) (c : Nat) (at_ x : Int) (h0 : -9223372036854775808 ≤ at_) (h1 : at_ ≤ 9223372036854775807) (B : Nat) (w : World) (hr : RB w B A bs) (hl : bs.length ≤ 1073741824) :
    Calls Try.prog 88 #[.slice A bs.length c, .int .i64 at_, .int .i64 x] w fun e w' => e = .returned (.tuple #[.int .i64 (getN bs at_ x), .bool (getK bs at_ x)]) ∧ w = w' := by
  by_cases hrm : isW x = true ∧ 0 ≤ at_ ∧ at_ + x ≤ bs.length
  · by_cases hbig : leVal ((bs.drop at_.toNat).take x.toNat) < 9223372036854775808
    · exact ref1_get_yes A bs c at_ x h0 h1 B w hr hl hrm hbig
    · exact ref1_get_big A bs c at_ x h0 h1 B w hr hl hrm hbig
  · exact ref1_get_no A bs c at_ x h0 h1 w hrm
end Go.Proofs.Ytlinlmimakealaa
