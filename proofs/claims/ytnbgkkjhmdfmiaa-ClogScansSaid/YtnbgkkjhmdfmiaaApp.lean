/- append at bytes: a text's bytes, noughts, two bytes. -/
import Derived.Test.YtnbgkkjhmdfmiaaBase
import Derived.Lib.AppendStr
namespace Go.Proofs.Ytnbgkkjhmdfmiaa
open Go.RowKit

theorem zeros_cells (m : Nat) : Builtin.zeroCells (Value.int .u8 0).cells m = (Lib.strCells ⟨Array.replicate m 0⟩).toArray := by
  apply Array.ext
  · simp [Builtin.zeroCells, Lib.strCells, Value.cells]
  · intro j h1 h2
    simp [Builtin.zeroCells, Lib.strCells, Value.cells, Nat.mod_one]

theorem run_append_zeros_eq {P : Program} (w : World) (t ti u ty e : TypeId) (i : TypeInfo) (k : IntKind) (ht : P.underlying t = some (.slice e)) (hti : P.underlying ti = some (.int k)) (hu : P.underlying u = some .string)
    (hi : P.info? e = some i) (hz : i.zero = some (.int .u8 0)) (hsize : i.size = 1) (hby : i.bytes = 1) (A : Option Addr) (n c m : Nat) (hnm : n + m ≤ 140737488355328) :
    (Builtin.append_ #[t, ti] ty #[.slice A n c, .int .i64 m]).run P w = (Builtin.append_ #[t, u] ty #[.slice A n c, .string ⟨Array.replicate m 0⟩]).run P w := by
  have hsz : (ByteArray.mk (Array.replicate m 0)).size = m := by show (Array.replicate m (0 : UInt8)).size = m; simp
  have hf : ∀ w', (Builtin.firstCells 1 m (.string ⟨Array.replicate m 0⟩)).run P w' = .ok (Lib.strCells ⟨Array.replicate m 0⟩).toArray w' := by
    intro w'
    have := Lib.run_firstCells_string (P := P) w' 1 ⟨Array.replicate m 0⟩
    rwa [hsz] at this
  have hwr : IntKind.i64.wrap (m : Int) = m := by
    exact IntWalk.i64_in _ (by omega)
  have hai : ∀ w', (asIntOf (.int .i64 (m : Int))).run P w' = .ok (.i64, (m : Int)) w' := fun _ => rfl
  have hm0 : ¬ ((m : Int) < 0) := by omega
  have hm1 : ¬ (281474976710656 < (m : Int)) := by omega
  have hnil : m = 0 → (Lib.strCells ⟨Array.replicate m 0⟩).toArray = #[] := by rintro rfl; rfl
  have hz0 := zeros_cells m
  by_cases hroom : n + m ≤ c
  · by_cases h0 : m = 0
    · subst h0
      replace hwr : IntKind.i64.wrap 0 = 0 := hwr
      replace hai : ∀ w', (asIntOf (.int .i64 0)).run P w' = .ok (.i64, 0) w' := hai
      have hsz0 : (ByteArray.mk #[]).size = 0 := rfl
      have hf0 : ∀ w', (Builtin.firstCells 1 0 (.string ⟨#[]⟩)).run P w' = .ok #[] w' := hf
      clear hf hsz hnil hz0
      simp [Builtin.append_, run_underlying ht, run_underlying hti, run_underlying hu, sizeOf, typeInfo, hi, hsize, hby, Builtin.lenOf, asInt, hai, hwr, hsz0, (show n ≤ c by omega), hf0, zeroValue, hz]
    · simp [Builtin.append_, run_underlying ht, run_underlying hti, run_underlying hu, sizeOf, typeInfo, hi, hsize, hby, Builtin.lenOf, asInt, hai, hwr, hsz, hroom, hf, hm0, hm1, h0, hz0, zeroValue, hz]
  · have h63 : ¬ (9223372036854775807 < ((n : Int) + (m : Int))) := by omega
    have h48 : ¬ (281474976710656 < Builtin.nextslicecap (n + m) c) := by
      have := growslice_fits (need := n + m) (old := c) (bytes := 1) (by omega) (by omega)
      omega
    by_cases h0 : m = 0
    · subst h0
      replace hwr : IntKind.i64.wrap 0 = 0 := hwr
      replace hai : ∀ w', (asIntOf (.int .i64 0)).run P w' = .ok (.i64, 0) w' := hai
      have hsz0 : (ByteArray.mk #[]).size = 0 := rfl
      have hf0 : ∀ w', (Builtin.firstCells 1 0 (.string ⟨#[]⟩)).run P w' = .ok #[] w' := hf
      clear hf hsz hnil hz0
      simp [Builtin.append_, run_underlying ht, run_underlying hti, run_underlying hu, sizeOf, typeInfo, hi, hsize, hby, Builtin.lenOf, asInt, hai, hwr, hsz0, (show ¬ n ≤ c by omega), hf0, (show ¬ (9223372036854775807 < (n : Int)) by omega), (show ¬ (281474976710656 < Builtin.nextslicecap n c) by simpa using h48), zeroValue, hz]
    · simp [Builtin.append_, run_underlying ht, run_underlying hti, run_underlying hu, sizeOf, typeInfo, hi, hsize, hby, Builtin.lenOf, asInt, hai, hwr, hsz, hroom, hf, hm0, hm1, h63, h48, h0, hz0, zeroValue, hz]

theorem strCells_bvs (s : ByteArray) : Lib.strCells s = bvs s.data.toList := rfl
theorem data_length (s : ByteArray) : s.data.toList.length = s.size := by rw [Array.length_toList]; rfl

/-- 'append(out, s...)': a text's bytes. -/
theorem wpList_appS {w : World} {ops : Array Oper} {rest : List Oper} {o : Oper} {a : Act} {Q : Exit → Act → World → Prop} (hgd : o.guard = none) (s x : Operand)
    (ho : o.op = .call { callee := .builtin .append, args := #[s, x], argTypes := #[33, 9] })
    (base : Nat) (v : Value) (bs : List UInt8) (hs : a.eval s = v) (hown : OB w base v bs) (t : ByteArray) (hx : a.eval x = .string t)
    (h63 : bs.length + t.size ≤ 140737488355328) (hbase : base ≤ w.heap.size)
    (h : ∀ v' w', OB w' base v' (bs ++ t.data.toList) → Below base w w' → wpList Try.prog ops Q rest (a.put o.dst v') w') : wpList Try.prog ops Q (o :: rest) a w := by
  obtain ⟨i0, hi, hz, h1, h2⟩ := info_parts byte_info
  refine Lib.wpList_append_own_string w hgd s x _ _ ho base 5 i0 Try.underlying33 Try.underlying9 hi hz h1 h2 v bs.length (bvs bs) hs hown t hx (by unfold maxLen; omega) h63 hbase ?_
  intro v' w' h3 h4 _
  refine h v' w' ?_ ((Below.refl _ _).grown h4 hbase (fun k hk => (hown.lt k hk).1))
  unfold OB
  rw [List.length_append, bvs_append, data_length]
  exact h3

/-- 'append(out, make([]byte, m)...)': noughts. -/
theorem wpList_appZ {w : World} {ops : Array Oper} {rest : List Oper} {o : Oper} {a : Act} {Q : Exit → Act → World → Prop} (hgd : o.guard = none) (s x : Operand)
    (ho : o.op = .call { callee := .builtin .append, args := #[s, x], argTypes := #[33, 3] })
    (base : Nat) (v : Value) (bs : List UInt8) (hs : a.eval s = v) (hown : OB w base v bs) (m : Nat) (z : Int) (hz0 : z = m) (hx : a.eval x = .int .i64 z)
    (h63 : bs.length + m ≤ 140737488355328) (hbase : base ≤ w.heap.size)
    (h : ∀ v' w', OB w' base v' (bs ++ List.replicate m 0) → Below base w w' → wpList Try.prog ops Q rest (a.put o.dst v') w') : wpList Try.prog ops Q (o :: rest) a w := by
  subst hz0
  obtain ⟨i0, hi, hz, h1, h2⟩ := info_parts byte_info
  have hsz : (ByteArray.mk (Array.replicate m 0)).size = m := by show (Array.replicate m (0 : UInt8)).size = m; simp
  obtain ⟨A, c, rfl, hc1, hc2, -, -⟩ := hown.form
  obtain ⟨v', w', hrun, h3, h4, -⟩ := Lib.run_append_own_string (P := Try.prog) w base 33 9 o.type 5 i0 Try.underlying33 Try.underlying9 hi hz h1 h2 (.slice A bs.length c) bs.length (bvs bs) hown ⟨Array.replicate m 0⟩
    (by rw [hsz]; unfold maxLen; omega) (by rw [hsz]; exact h63) hbase
  rw [← run_append_zeros_eq (P := Try.prog) w 33 3 9 o.type 5 i0 .i64 Try.underlying33 Try.underlying3 Try.underlying9 hi hz h1 h2 A bs.length c m h63] at hrun
  refine wpList_plain hgd fun K hK => ?_
  unfold Oper.wp execOp
  simp only [ho, resolve, invoke, builtin, Sem.run_bind, Sem.run_pure, Result.andThen_ok, List.map_toArray, List.map_cons, List.map_nil, hs, hx, hrun]
  refine hK _ _ (h v' w' ?_ ((Below.refl _ _).grown h4 hbase (fun k hk => (hown.lt k hk).1)))
  unfold OB
  rw [List.length_append, bvs_append, List.length_replicate]
  rw [hsz, strCells_bvs] at h3
  simpa using h3

/-- 'append(out, x, y)': two bytes, laid in a new block first. -/
theorem wpList_app2 {w : World} {ops : Array Oper} {rest : List Oper} {o : Oper} {a : Act} {Q : Exit → Act → World → Prop} (hgd : o.guard = none) (s x : Operand)
    (ho : o.op = .call { callee := .builtin .append, args := #[s, x], argTypes := #[33, 33] })
    (base : Nat) (v : Value) (bs : List UInt8) (hs : a.eval s = v) (z y : Int) (hx : a.eval x = .slice (some ⟨w.heap.size, 0, none⟩) 2 2) (hown : OB w base v bs)
    (u p : UInt8) (hu : (u.toNat : Int) = z) (hp : (p.toNat : Int) = y)
    (h63 : bs.length + 2 ≤ 140737488355328) (hbase : base ≤ w.heap.size)
    (h : ∀ v' w', OB w' base v' (bs ++ [u, p]) → Below base w w' → wpList Try.prog ops Q rest (a.put o.dst v') w') : wpList Try.prog ops Q (o :: rest) a (w.alloc (.cells #[.int .u8 z, .int .u8 y] 5)) := by
  subst hu
  subst hp
  refine wpList_appB hgd s x ho base v bs hs (hown.alloc _) (w.heap.size + 1) (some ⟨w.heap.size, 0, none⟩) 2 [u, p] 2 rfl hx (RB.lit w _ _ [u, p] rfl) h63 (by simp; omega) ?_
  intro v' w' h1 h2 _ _
  exact h v' w' h1 (((Below.refl _ _).alloc hbase _).trans h2)

end Go.Proofs.Ytnbgkkjhmdfmiaa
