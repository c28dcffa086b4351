/- The walk of the statement ClogEncodes. Parts of the walk of the statement ClogScans. ClogWhole: what is scanned out of what was written. No program here. The walk of the statement ClogWhole. No statement of the seat is proved here. -/
import Derived.Test.YtnbgkkjhmdfmiaaZ08
import Derived.Test.YtnbgkkjhmdfmiaaZ10
import Derived.Lib.Split
import Derived.Test.YtnbgkkjhmdfmiaaZ09
import Derived.Test.YtnbgkkjhmdfmiaaZ03
import Derived.Deep.CutBlock
import Derived.Deep.DeepCutAuto
namespace Go.Proofs.Ytnbgkkjhmdfmiaa
open Go.RowKit

theorem ref1_same' (A A' : Option Addr) (xs ys : List UInt8) (n n' c c' B B' : Nat) (w : World) (hn : n = xs.length) (hn' : n' = ys.length) (hx : RB w B A xs) (hy : RB w B' A' ys) (hl : xs.length ≤ 1073741824) (hl' : ys.length ≤ 1073741824) :
    Calls Try.prog 16 #[.slice A n c, .slice A' n' c'] w fun e w' => e = .returned (.bool (decide (xs = ys))) ∧ ∃ n, w' = w.drewN n := by
  subst hn hn'
  exact ref1_same A A' xs ys c c' B B' w hx hy hl hl'

theorem cut16 (call inode off : Int) (tr : Bool) (s : ByteArray) (w : World) :
    Calls Try.prog 13 #[.agg #[.int .i64 call, .int .i64 inode, .bool tr, .int .i64 off, .string s]] w fun e w' => (∃ s' : ByteArray, s'.size ≤ 80 ∧ e = .returned (.agg #[.int .i64 call, .int .i64 inode, .bool tr, .int .i64 off, .string s'])) ∧ Below w.heap.size w w' := by
  by_cases h : 80 < s.size
  · go_enter Try.func13, Try.ntmps13
    go_wp2
    exact bodyPost_ret (v := .agg #[.int .i64 call, .int .i64 inode, .bool tr, .int .i64 off, .string (s.extract 0 80)]) (by simp [results, Try.results13, go_sem]) rfl ⟨⟨_, by simp; omega, rfl⟩, ((Below.refl _ _).alloc (Nat.le_refl _) _).alloc (by simp) _⟩
  · go_enter Try.func13, Try.ntmps13
    go_wp2
    exact bodyPost_ret (v := .agg #[.int .i64 call, .int .i64 inode, .bool tr, .int .i64 off, .string s]) (by simp [results, Try.results13, go_sem]) rfl ⟨⟨_, by omega, rfl⟩, ((Below.refl _ _).alloc (Nat.le_refl _) _).alloc (by simp) _⟩
end Go.Proofs.Ytnbgkkjhmdfmiaa

namespace Go.Proofs.Ytnbgkkjhmdfmiaa
open Go.RowKit

theorem scanW_len {b : List UInt8} {n : Nat} (hb : 8 + n ≤ b.length) : ∀ (k h : Nat), n - h ≤ k → (scanW b n h).length ≤ n - h := by
  intro k
  induction k with
  | zero => intro h hk; rw [scanW_end (by omega)]; simp
  | succ k ih =>
    intro h hk
    by_cases hlt : h < n
    · by_cases hD : decE (midB b n h) = 0
      · have hst := scanW_step hb hlt hD
        rw [scanW_go hlt hD]
        have := ih (h + decL (midB b n h)) (by omega)
        simp only [List.length_cons]
        omega
      · rw [scanW_bad hD]; simp
    · rw [scanW_end hlt]; simp
theorem scanP_len {b : List UInt8} (hb : b.length = 1024) (epoch head : Int) : (scanP b epoch head).length ≤ 1016 := by
  unfold scanP
  split
  · rename_i h
    have h1 := h.1
    unfold endB at h1
    have : getN b 0 8 % 4294967296 ≤ 1016 := by
      simp at h1
      omega
    have := scanW_len (b := b) (n := (getN b 0 8 % 4294967296).toNat) (by omega) _ head.toNat (Nat.le_refl _)
    omega
  · simp

theorem renc_any (call inode off : Int) (tr : Bool) (s : ByteArray) (w : World) :
    Calls Try.prog 15 #[.agg #[.int .i64 call, .int .i64 inode, .bool tr, .int .i64 off, .string s]] w fun e w' => ∃ A n c en eb, e = .returned (.tuple #[.slice A n c, .int .i64 en]) ∧ Sl w' A n eb ∧ n ≤ 1000 ∧ Grow w w' := by
  cases hm : mayR call inode tr off s.size with
  | true =>
    have hn : s.size ≤ 64 := (mayR_iff.1 hm).2.2.2.2.2.2.1
    refine (ref16_encode_yes call inode off tr s hm w).mono ?_
    rintro e w' ⟨v, rfl, ho, g⟩
    have hel : (encB call inode tr off s.data.toList).length ≤ 1000 := by
      have := fill_lt (17 + s.data.toList.length)
      rw [encB]
      simp only [List.length_append, List.length_replicate, headB_length, leB_length, data_length] at this ⊢
      omega
    obtain ⟨A, c, rfl, ho2⟩ := Own.ofOB ho _ rfl (by omega)
    exact ⟨_, _, _, _, _, rfl, ho2.sl, hel, g⟩
  | false =>
    refine (ref16_encode_no call inode off tr s hm w).mono ?_
    rintro e w' ⟨rfl, g⟩
    exact ⟨_, _, _, _, _, rfl, Sl.nil, by omega, g⟩

theorem Own.keep {w w' : World} {base n c : Nat} {A : Option Addr} {bs : List UInt8} (h : Own w base A n c bs) (g : Grow w w') : Own w' base A n c bs := ⟨h.1, h.2.1, World.ownsRow.kept h.2.2 g.grown (own_none _)⟩

/-- What holds at each round of the law's first loop. -/
def LawInv (w wr : World) (n : Nat) (b i : Value) : Prop := ∃ (k m c : Nat) (A : Option Addr) (bs : List UInt8), i = .int .i64 (k : Int) ∧ k ≤ n ∧ k ≤ 12 ∧ b = .slice A m c ∧ m ≤ 1000 * k ∧ Own wr w.heap.size A m c bs ∧ Grow w wr

/-- What holds at each round of the law's second loop. -/
def OverInv (w wr : World) (g c m : Nat) (i : Value) : Prop := ∃ (k : Nat) (bs : List UInt8), i = .int .i64 (k : Int) ∧ k ≤ m ∧ k ≤ 30 ∧ Own wr w.heap.size (some ⟨g, 0, none⟩) 1024 c bs ∧ Grow w wr
theorem Own.setB {w : World} {base g n c : Nat} {bs : List UInt8} (h : Own w base (some ⟨g, 0, none⟩) n c bs) (j : Nat) (u : UInt8) : ∃ bs', Own (w.setCell ⟨g, j, none⟩ (.int .u8 (u.toNat : Int))) base (some ⟨g, 0, none⟩) n c bs' := by
  have := OB.stored h.1.symm h.2.2 j u
  exact ⟨_, by have := h.1; simp; omega, h.2.1, this.1⟩
end Go.Proofs.Ytnbgkkjhmdfmiaa

namespace Go.Proofs.Ytnbgkkjhmdfmiaa
open Go.RowKit

def encR (r : R5) : List UInt8 := encB r.call r.ino r.tr r.off r.dat.data.toList
def mayP (r : R5) : Bool := mayR r.call r.ino r.tr r.off r.dat.size
def catR : List R5 → List UInt8
  | [] => []
  | r :: K => encR r ++ catR K
/-- Where each record begins, and the end. -/
def begs (h : Nat) : List R5 → List Int
  | [] => [(h : Int)]
  | r :: K => (h : Int) :: begs (h + (encR r).length) K
def outs (h : Nat) : List R5 → List (R5 × Int)
  | [] => []
  | r :: K => (r, ((h + (encR r).length : Nat) : Int)) :: outs (h + (encR r).length) K

theorem catR_append (a b : List R5) : catR (a ++ b) = catR a ++ catR b := by
  induction a with
  | nil => rfl
  | cons r a ih => simp [catR, ih]
theorem outs_fst (K : List R5) : ∀ h, (outs h K).map (·.1) = K := by
  induction K with
  | nil => intro h; rfl
  | cons r K ih => intro h; simp [outs, ih]
theorem begs_split (h : Nat) (K : List R5) : begs h K = (h : Int) :: (begs h K).tail := by cases K <;> rfl
theorem outs_snd (K : List R5) : ∀ h, (outs h K).map (·.2) = (begs h K).tail := by
  induction K with
  | nil => intro h; rfl
  | cons r K ih => intro h; rw [begs]; simp only [outs, List.map_cons, ih, List.tail_cons]; exact (begs_split _ _).symm
theorem begs_length (K : List R5) : ∀ h, (begs h K).length = K.length + 1 := by
  induction K with
  | nil => intro h; rfl
  | cons r K ih => intro h; simp [begs, ih]
theorem begs_drop (K : List R5) : ∀ (h k : Nat), k ≤ K.length → (begs h K).drop k = begs (h + (catR (K.take k)).length) (K.drop k) := by
  induction K with
  | nil =>
    intro h k hk
    obtain rfl : k = 0 := Nat.le_zero.1 hk
    rfl
  | cons r K ih =>
    intro h k hk
    match k with
    | 0 => simp [catR]
    | k + 1 =>
      simp only [begs, List.drop_succ_cons, List.take_succ_cons, catR, List.length_append]
      rw [ih _ k (by simpa using hk)]
      congr 1
      omega
theorem begs_snoc (K : List R5) (r : R5) : ∀ h, begs h (K ++ [r]) = begs h K ++ [((h + (catR (K ++ [r])).length : Nat) : Int)] := by
  induction K with
  | nil => intro h; simp [begs, catR]
  | cons s K ih => intro h; simp only [List.cons_append, begs, catR, List.length_append, ih]; simp [Nat.add_assoc]
theorem begs_get (K : List R5) (k : Nat) (hk : k ≤ K.length) : (begs 0 K)[k]? = some (((catR (K.take k)).length : Nat) : Int) := by
  have h2 := congrArg List.head? (begs_drop K 0 k hk)
  rw [List.head?_drop, Nat.zero_add, begs_split (catR (K.take k)).length] at h2
  exact h2

theorem encR_length {r : R5} (h : mayP r = true) : (encR r).length ≤ 88 ∧ 17 ≤ (encR r).length ∧ (encR r).length % 8 = 0 := by
  have hn : r.dat.size ≤ 64 := (mayR_iff.1 h).2.2.2.2.2.2.1
  rw [encR, encB_length, data_length, fillN]
  omega
theorem catR_length {K : List R5} (h : ∀ r ∈ K, mayP r = true) : (catR K).length ≤ 88 * K.length ∧ (catR K).length % 8 = 0 := by
  induction K with
  | nil => simp [catR]
  | cons r K ih =>
    have h1 := encR_length (h r (by simp))
    have h2 := ih (fun s hs => h s (by simp [hs]))
    simp only [catR, List.length_append, List.length_cons]
    omega

theorem scanW_outs {b : List UInt8} {n : Nat} (hb : 8 + n ≤ b.length) : ∀ (K : List R5) (h : Nat), (∀ r ∈ K, mayP r = true) → h ≤ n → midB b n h = catR K → scanW b n h = outs h K := by
  intro K
  induction K with
  | nil =>
    intro h _ hh hm
    have := midB_length (h := h) hb
    rw [hm] at this
    simp [catR] at this
    rw [scanW_end (by omega)]
    rfl
  | cons r K ih =>
    intro h hK hh hm
    have hl := midB_length (h := h) hb
    have hr := hK r (by simp)
    have he := encR_length hr
    have hm' : midB b n h = encB r.call r.ino r.tr r.off r.dat.data.toList ++ catR K := hm
    obtain ⟨h1, h2, h3, h4, h5, h6, h7⟩ := dec_enc (q := catR K) (show mayR r.call r.ino r.tr r.off r.dat.data.toList.length = true by rw [data_length]; exact hr)
    rw [← hm'] at h1 h2 h3 h4 h5 h6 h7
    have hD : decL (midB b n h) = (encR r).length := by rw [decL, if_pos h1, h7]; rfl
    have hR : recOf (midB b n h) = r := by rw [recOf, h2, h3, h4, h5, h6]
    have hlt : h < n := by
      rw [hm] at hl
      simp only [catR, List.length_append] at hl
      omega
    rw [scanW_go hlt h1, hD, hR, outs]
    congr 1
    have hle : h + (encR r).length ≤ n := by
      rw [hm] at hl
      simp only [catR, List.length_append] at hl
      omega
    refine ih _ (fun s hs => hK s (by simp [hs])) hle ?_
    have : midB b n (h + (encR r).length) = (midB b n h).drop (encR r).length := by
      rw [← midB_eq, ← midB_eq, List.drop_drop]
    rw [this, hm, catR, List.drop_left]

theorem getN_leB {x : Int} (h0 : 0 ≤ x) (h1 : x ≤ 9223372036854775807) (q : List UInt8) : getN (leB x.toNat 8 ++ q) 0 8 = x := by
  have h := getN_take (b := leB x.toNat 8 ++ q) (a := 0) (wd := 8) (m := 8) (by omega) (by rw [List.length_append, leB_length]; omega)
  rw [List.take_left' (leB_length _ _)] at h
  exact h.symm.trans (get_put (n := x) (wd := 8) (by simp [fitsB]; omega) h1).1
theorem scanP_log {K : List R5} (hK : ∀ r ∈ K, mayP r = true) (hn : K.length ≤ 9) {ep : Int} (hE : endB ep ((catR K).length : Nat) = true) (k : Nat) :
    scanP (logB (ep * 4294967296 + ((catR K).length : Nat)) (catR K)) ep ((catR (K.take k)).length : Nat) = outs (catR (K.take k)).length (K.drop k) := by
  have hl := (catR_length hK).1
  obtain ⟨e1, e2, e3, e4, e5⟩ := endB_iff.1 hE
  have hf : fitsB (ep * 4294967296 + ((catR K).length : Nat)) 8 = true := by simp [fitsB]; omega
  have hlog : logB (ep * 4294967296 + ((catR K).length : Nat)) (catR K) = leB (ep * 4294967296 + ((catR K).length : Nat)).toNat 8 ++ (catR K ++ List.replicate (1016 - (catR K).length) 0) := by
    rw [logB, hd8, if_pos hf, List.take_of_length_le (by omega), List.append_assoc]
  have hg : getN (logB (ep * 4294967296 + ((catR K).length : Nat)) (catR K)) 0 8 = ep * 4294967296 + ((catR K).length : Nat) := by
    rw [hlog]; exact getN_leB (by omega) (by omega) _
  have h1 : (ep * 4294967296 + ((catR K).length : Nat)) / 4294967296 = ep := by omega
  have h2 : (ep * 4294967296 + ((catR K).length : Nat)) % 4294967296 = ((catR K).length : Nat) := by omega
  have hsp : catR (K.take k) ++ catR (K.drop k) = catR K := by rw [← catR_append, List.take_append_drop]
  have hsl := congrArg List.length hsp
  rw [List.length_append] at hsl
  rw [scanP, hg, h1, h2, if_pos ⟨hE, rfl, by omega⟩]
  simp only [Int.toNat_natCast]
  refine scanW_outs (by rw [logB_length]; omega) _ _ (fun r hr => hK r (List.mem_of_mem_drop hr)) (by omega) ?_
  rw [hlog, midB, ← List.drop_drop, List.drop_left' (leB_length _ _), ← hsp, List.append_assoc, List.drop_left, List.take_left']
  rw [List.length_append]
  omega
theorem scanP_other {K : List R5} (hK : ∀ r ∈ K, mayP r = true) (hn : K.length ≤ 9) {ep ot : Int} (hE : endB ep ((catR K).length : Nat) = true) (ho : ot ≠ ep) (h : Int) :
    scanP (logB (ep * 4294967296 + ((catR K).length : Nat)) (catR K)) ot h = [] := by
  have hl := (catR_length hK).1
  obtain ⟨e1, e2, e3, e4, e5⟩ := endB_iff.1 hE
  have hf : fitsB (ep * 4294967296 + ((catR K).length : Nat)) 8 = true := by simp [fitsB]; omega
  have hlog : logB (ep * 4294967296 + ((catR K).length : Nat)) (catR K) = leB (ep * 4294967296 + ((catR K).length : Nat)).toNat 8 ++ (catR K ++ List.replicate (1016 - (catR K).length) 0) := by
    rw [logB, hd8, if_pos hf, List.take_of_length_le (by omega), List.append_assoc]
  have hg : getN (logB (ep * 4294967296 + ((catR K).length : Nat)) (catR K)) 0 8 = ep * 4294967296 + ((catR K).length : Nat) := by
    rw [hlog]; exact getN_leB (by omega) (by omega) _
  have h1 : (ep * 4294967296 + ((catR K).length : Nat)) / 4294967296 = ep := by omega
  rw [scanP, hg, h1, if_neg (fun q => ho q.2.1.symm)]

/-! ### three rows, apart -/
def Three (w : World) (base : Nat) (vb vr vi : Value) (bs : List UInt8) (L : List R5) (K : List Int) : Prop :=
  OB w base vb bs ∧ OR w base vr L ∧ OI w base vi K ∧ (∀ g, vb.ownBlock = some g → vr.ownBlock ≠ some g ∧ vi.ownBlock ≠ some g) ∧ (∀ g, vr.ownBlock = some g → vi.ownBlock ≠ some g)
theorem Three.keep {w w' : World} {base : Nat} {vb vr vi : Value} {bs : List UInt8} {L : List R5} {K : List Int} (h : Three w base vb vr vi bs L K) (g : Grow w w') : Three w' base vb vr vi bs L K :=
  ⟨World.ownsRow.kept h.1 g.grown (own_none _), World.ownsRow.kept h.2.1 g.grown (own_none _), World.ownsRow.kept h.2.2.1 g.grown (own_none _), h.2.2.2⟩
theorem ne_of_or {w : World} {v v' u : Value} (h : ∀ g, v.ownBlock = some g → u.ownBlock ≠ some g) (hu : ∀ g, u.ownBlock = some g → g < w.heap.size) (q : v'.ownBlock = v.ownBlock ∨ v'.ownBlock = some w.heap.size) : ∀ g, v'.ownBlock = some g → u.ownBlock ≠ some g := by
  intro g hg hq
  rcases q with q | q
  · exact h g (q ▸ hg) hq
  · rw [q] at hg
    injection hg with hg
    have := hu g hq
    omega
theorem kept_of {v u : Value} (h : ∀ g, v.ownBlock = some g → u.ownBlock ≠ some g) : u.ownBlock = none ∨ u.ownBlock ≠ v.ownBlock := by
  cases hu : u.ownBlock with
  | none => exact .inl rfl
  | some g => exact .inr fun e => h g e.symm hu
theorem ne_symm {v u : Value} (h : ∀ g, v.ownBlock = some g → u.ownBlock ≠ some g) : ∀ g, u.ownBlock = some g → v.ownBlock ≠ some g := fun g hg hv => h g hv hg

theorem wpList_appB3 {w : World} {ops : Array Oper} {rest : List Oper} {o : Oper} {a : Act} {Q : Exit → Act → World → Prop} (hgd : o.guard = none) (s x : Operand)
    (ho : o.op = .call { callee := .builtin .append, args := #[s, x], argTypes := #[33, 33] })
    (base : Nat) (vb vr vi : Value) (bs : List UInt8) (L : List R5) (K : List Int) (hs : a.eval s = vb) (h3 : Three w base vb vr vi bs L K)
    (B : Nat) (A : Option Addr) (c : Nat) (news : List UInt8) (m : Nat) (hm : m = news.length) (hx : a.eval x = .slice A m c) (hr : RB w B A news)
    (h63 : bs.length + news.length ≤ 140737488355328) (hbase : base ≤ w.heap.size)
    (h : ∀ v' w', Three w' base v' vr vi (bs ++ news) L K → Below base w w' → wpList Try.prog ops Q rest (a.put o.dst v') w') : wpList Try.prog ops Q (o :: rest) a w := by
  obtain ⟨h1, h2, h3, h4, h5⟩ := h3
  refine wpList_appB hgd s x ho base vb bs hs h1 B A c news m hm hx hr h63 hbase ?_
  intro v' w' q1 q2 q3 q4
  have a1 : ∀ g, vb.ownBlock = some g → vr.ownBlock ≠ some g := fun g hg => (h4 g hg).1
  have a2 : ∀ g, vb.ownBlock = some g → vi.ownBlock ≠ some g := fun g hg => (h4 g hg).2
  exact h v' w' ⟨q1, World.ownsRow.kept h2 q3 (kept_of a1), World.ownsRow.kept h3 q3 (kept_of a2), fun g hg => ⟨ne_of_or a1 (fun g hg => (World.ownsRow.lt h2 g hg).2) q4 g hg, ne_of_or a2 (fun g hg => (World.ownsRow.lt h3 g hg).2) q4 g hg⟩, h5⟩ q2
theorem wpList_appR3 {w : World} {ops : Array Oper} {rest : List Oper} {o : Oper} {a : Act} {Q : Exit → Act → World → Prop} (hgd : o.guard = none) (s x : Operand)
    (ho : o.op = .call { callee := .builtin .append, args := #[s, x], argTypes := #[43, 43] })
    (base : Nat) (vb vr vi : Value) (bs : List UInt8) (L : List R5) (K : List Int) (hs : a.eval s = vr) (r : R5) (hx : a.eval x = .slice (some ⟨w.heap.size, 0, none⟩) 1 1) (h3 : Three w base vb vr vi bs L K)
    (h63 : L.length + 1 ≤ 1000000) (hbase : base ≤ w.heap.size)
    (h : ∀ v' w', Three w' base vb v' vi bs (L ++ [r]) K → Below base w w' → wpList Try.prog ops Q rest (a.put o.dst v') w') : wpList Try.prog ops Q (o :: rest) a (w.alloc (.cells #[.int .i64 r.call, .int .i64 r.ino, .bool r.tr, .int .i64 r.off, .string r.dat] 31)) := by
  obtain ⟨h1, h2, h3, h4, h5⟩ := h3
  have a1 : ∀ g, vr.ownBlock = some g → vb.ownBlock ≠ some g := ne_symm fun g hg => (h4 g hg).1
  have H1 := h1.alloc (.cells #[.int .i64 r.call, .int .i64 r.ino, .bool r.tr, .int .i64 r.off, .string r.dat] 31)
  have H3 := h3.alloc (.cells #[.int .i64 r.call, .int .i64 r.ino, .bool r.tr, .int .i64 r.off, .string r.dat] 31)
  refine wpList_appR hgd s x ho base vr L hs (h2.alloc _) (w.heap.size + 1) (some ⟨w.heap.size, 0, none⟩) 1 [r] 1 rfl hx (Rd.litV w _ (rcs [r]) 5 1 rfl) h63 (by simp; omega) ?_
  intro v' w' q1 q2 q3 q4
  exact h v' w' ⟨World.ownsRow.kept H1 q3 (kept_of a1), q1, World.ownsRow.kept H3 q3 (kept_of h5), fun g hg => ⟨ne_symm (ne_of_or a1 (fun g hg => (World.ownsRow.lt H1 g hg).2) q4) g hg, (h4 g hg).2⟩, ne_of_or h5 (fun g hg => (World.ownsRow.lt H3 g hg).2) q4⟩ (((Below.refl _ _).alloc hbase _).trans q2)
theorem wpList_appI3 {w : World} {ops : Array Oper} {rest : List Oper} {o : Oper} {a : Act} {Q : Exit → Act → World → Prop} (hgd : o.guard = none) (s x : Operand)
    (ho : o.op = .call { callee := .builtin .append, args := #[s, x], argTypes := #[45, 45] })
    (base : Nat) (vb vr vi : Value) (bs : List UInt8) (L : List R5) (K : List Int) (hs : a.eval s = vi) (r : Int) (hx : a.eval x = .slice (some ⟨w.heap.size, 0, none⟩) 1 1) (h3 : Three w base vb vr vi bs L K)
    (h63 : K.length + 1 ≤ 1000000) (hbase : base ≤ w.heap.size)
    (h : ∀ v' w', Three w' base vb vr v' bs L (K ++ [r]) → Below base w w' → wpList Try.prog ops Q rest (a.put o.dst v') w') : wpList Try.prog ops Q (o :: rest) a (w.alloc (.cells #[.int .i64 r] 3)) := by
  obtain ⟨h1, h2, h3, h4, h5⟩ := h3
  have a1 : ∀ g, vi.ownBlock = some g → vb.ownBlock ≠ some g := ne_symm fun g hg => (h4 g hg).2
  have a2 := ne_symm h5
  have H1 := h1.alloc (.cells #[.int .i64 r] 3)
  have H2 := h2.alloc (.cells #[.int .i64 r] 3)
  refine wpList_appI hgd s x ho base vi K hs (h3.alloc _) (w.heap.size + 1) (some ⟨w.heap.size, 0, none⟩) 1 [r] 1 rfl hx (Rd.litV w _ (ics [r]) 1 1 rfl) h63 (by simp; omega) ?_
  intro v' w' q1 q2 q3 q4
  exact h v' w' ⟨World.ownsRow.kept H1 q3 (kept_of a1), World.ownsRow.kept H2 q3 (kept_of a2), q1, fun g hg => ⟨(h4 g hg).1, ne_symm (ne_of_or a1 (fun g hg => (World.ownsRow.lt H1 g hg).2) q4) g hg⟩, ne_symm (ne_of_or a2 (fun g hg => (World.ownsRow.lt H2 g hg).2) q4)⟩ (((Below.refl _ _).alloc hbase _).trans q2)
theorem OI.lit (w : World) (base : Nat) (z : Int) (hB : base ≤ w.heap.size) : OI (w.alloc (.cells #[.int .i64 z] 3)) base (.slice (some ⟨w.heap.size, 0, none⟩) 1 1) [z] := by
  unfold OI World.ownsRow
  refine ⟨by simp [ics], .inr ⟨w.heap.size, 1, #[.int .i64 z], rfl, hB, heap_alloc_new w _, Nat.le_refl _, by unfold maxLen; omega, rfl, rfl⟩⟩

/-- The rest of a row. -/
theorem RR.drop {w : World} {A : Option Addr} {n : Nat} {L : List R5} (h : RR w A n L) {k cap : Nat} (hk : k ≤ n) (hc : n ≤ cap) : RR w (if cap = k then A else A.map (·.add (k * 5))) (n - k) (L.drop k) := by
  have := Rd.drop h.2 hk hc
  refine ⟨by have := h.1; simp; omega, ?_⟩
  have e : rcs (L.drop k) = (rcs L).drop (k * 5) := by
    have h1 := rcs_append (L.take k) (L.drop k)
    rw [List.take_append_drop] at h1
    rw [h1, List.drop_left' (by rw [rcs_length, List.length_take, Nat.min_eq_left (by have := h.1; omega)])]
  rw [e]
  exact this
theorem RI.drop {w : World} {A : Option Addr} {n : Nat} {L : List Int} (h : RI w A n L) {k cap : Nat} (hk : k ≤ n) (hc : n ≤ cap) : RI w (if cap = k then A else A.map (·.add k)) (n - k) (L.drop k) := by
  have := Rd.drop h.2 hk hc
  refine ⟨by have := h.1; simp; omega, ?_⟩
  simpa [ics, List.map_drop] using this

/-- What 'cut' makes of a record. -/
def cutS (s : ByteArray) : ByteArray := if 80 < s.size then s.extract 0 80 else s
theorem cut16s (call inode off : Int) (tr : Bool) (s : ByteArray) (w : World) :
    Calls Try.prog 13 #[.agg #[.int .i64 call, .int .i64 inode, .bool tr, .int .i64 off, .string s]] w fun e w' => e = .returned (.agg #[.int .i64 call, .int .i64 inode, .bool tr, .int .i64 off, .string (cutS s)]) ∧ Below w.heap.size w w' := by
  by_cases h : 80 < s.size
  · rw [cutS, if_pos h]
    go_enter Try.func13, Try.ntmps13
    go_wp2
    exact bodyPost_ret (v := .agg #[.int .i64 call, .int .i64 inode, .bool tr, .int .i64 off, .string (s.extract 0 80)]) (by simp [results, Try.results13, go_sem]) rfl ⟨rfl, ((Below.refl _ _).alloc (Nat.le_refl _) _).alloc (by simp) _⟩
  · rw [cutS, if_neg h]
    go_enter Try.func13, Try.ntmps13
    go_wp2
    exact bodyPost_ret (v := .agg #[.int .i64 call, .int .i64 inode, .bool tr, .int .i64 off, .string s]) (by simp [results, Try.results13, go_sem]) rfl ⟨rfl, ((Below.refl _ _).alloc (Nat.le_refl _) _).alloc (by simp) _⟩
end Go.Proofs.Ytnbgkkjhmdfmiaa

namespace Go.Proofs.Ytnbgkkjhmdfmiaa
open Go.RowKit

/-- What holds at each round of the law's loop. -/
def WholeInv (w wr : World) (n : Nat) (vb vr vi i : Value) : Prop := ∃ (k : Nat) (K : List R5), i = .int .i64 (k : Int) ∧ k ≤ n ∧ k ≤ 9 ∧ K.length ≤ k ∧ (∀ r ∈ K, mayP r = true) ∧ Three wr w.heap.size vb vr vi (catR K) K (begs 0 K) ∧ Grow w wr
def WholeEnd (w wr : World) (vb vr vi : Value) : Prop := ∃ (K : List R5), K.length ≤ 9 ∧ (∀ r ∈ K, mayP r = true) ∧ Three wr w.heap.size vb vr vi (catR K) K (begs 0 K) ∧ Grow w wr

set_option maxHeartbeats 20000000 in
set_option maxRecDepth 4000 in
theorem law_ClogWhole (A : Option Addr) (n c : Nat) (L : List R5) (ep ot fr : Int) (W : World) (hr : RR W A n L)
    (hfr : -9223372036854775808 ≤ fr) (hfr' : fr ≤ 9223372036854775807) :
    Calls Try.prog 8 #[.slice A n c, .int .i64 ep, .int .i64 ot, .int .i64 fr] W fun e w' => e = .returned (.bool true) ∧ Below W.heap.size W w' := by
  go_enter Try.func8, Try.ntmps8
  go_upto_block 0 with fail
  go_cut [9, 10, 11, 12] (fun vb vr vi i wx => WholeEnd W wx vb vr vi ∧ ∃ k : Int, i = .int .i64 k)
  case first =>
    go_wp2_with fail
    go_loopw [9, 10, 11, 12] (fun vb vr vi i wr => WholeInv W wr n vb vr vi i) (fun _ _ _ i _ => 9 - (intOf i).toNat)
    case atStart => exact ⟨0, [], rfl, by omega, by omega, by simp, by simp, ⟨OB.nil _ _, OR.nil _ _, OI.lit W _ 0 (Nat.le_refl _), by simp [Value.ownBlock], by simp [Value.ownBlock]⟩, (Grow.refl _).alloc _⟩
    case round =>
      obtain ⟨k, K, rfl, hk, hk9, hKk, hKm, h3, G⟩ := hrel
      by_cases hlt : k < n
      · by_cases hlt2 : k < 9
        · obtain ⟨b, o, r, -, rfl, hbb, x0, x1, x2, x3, x4⟩ := hr.at_ hlt
          have y0 := G.cell x0; have y1 := G.cell x1; have y2 := G.cell x2; have y3 := G.cell x3; have y4 := G.cell x4
          go_wp2_with fail
          refine (cut16s _ _ _ _ _ _).mono ?_
          rintro e w1 ⟨rfl, g1⟩
          replace g1 : Grow _ w1 := g1
          have G1 := G.trans g1
          replace h3 := h3.keep g1
          have hcat := (catR_length hKm).1
          clear G g1 y0 y1 y2 y3 y4
          obtain ⟨r', hr'⟩ : ∃ r' : R5, r' = ⟨r.call, r.ino, r.tr, r.off, cutS r.dat⟩ := ⟨_, rfl⟩
          cases hm : mayP r' with
          | true =>
            have hel := (encR_length hm).1
            have hKm' : ∀ s ∈ K ++ [r'], mayP s = true := by
              intro s hs
              rcases List.mem_append.1 hs with hs | hs
              · exact hKm s hs
              · rw [List.mem_singleton.1 hs]; exact hm
            have HM := Lib.hid (show mayR r.call r.ino r.tr r.off (cutS r.dat).size = true by rw [hr'] at hm; exact hm)
            have HE := Lib.hid (show encB r.call r.ino r.tr r.off (cutS r.dat).data.toList = encR r' by rw [hr']; rfl)
            have HR := Lib.hid hr'
            have HK := Lib.hid (show catR (K ++ [r']) = catR K ++ encR r' by rw [catR_append]; simp [catR])
            have HB := Lib.hid (begs_snoc K r' 0)
            obtain ⟨ne, hne⟩ : ∃ ne, (encR r').length = ne := ⟨_, rfl⟩
            obtain ⟨nk, hnk⟩ : ∃ nk, (catR K).length = nk := ⟨_, rfl⟩
            have HNE := Lib.hid hne
            have HNK := Lib.hid hnk
            rw [hne] at hel
            rw [hnk] at hcat
            clear hm hr' hKm hne hnk
            go_wp2_with fail
            refine (clog_encode_yes _ _ _ _ _ HM.out _).mono ?_
            rintro e w2 ⟨v2, rfl, hw2, g2⟩
            rw [HE.out] at hw2
            replace g2 : Grow _ w2 := g2
            have G2 := G1.trans g2
            replace h3 := h3.keep g2
            have y0 := G2.cell x0; have y1 := G2.cell x1; have y2 := G2.cell x2; have y3 := G2.cell x3; have y4 := G2.cell x4
            obtain ⟨A2, c2, rfl, ho2⟩ := Own.ofOB hw2 ne HNE.out (by omega)
            have hs2 := ho2.sl
            have hz2 := Below.size G2
            clear ho2 G1 g2 hw2
            go_wp2_with (at_builtin; refine wpList_appB3 rfl (.tmp 46) (.tmp 47) rfl W.heap.size _ _ _ (catR K) K (begs 0 K) rfl h3 _ A2 _ (encR r') ne HNE.out.symm rfl hs2.2.2 (by rw [HNK.out, HNE.out]; omega) hz2 ?_; intro v4 w4 q1 q2; have G4 := G2.low q2; have z0 := G4.cell x0; have z1 := G4.cell x1; have z2 := G4.cell x2; have z3 := G4.cell x3; have z4 := G4.cell x4; clear y0 y1 y2 y3 y4 h3 q2 G2 hs2)
            refine (cut16s _ _ _ _ _ _).mono ?_
            rintro e w5 ⟨rfl, g5⟩
            replace g5 : Grow _ w5 := g5
            have G5 := G4.trans g5
            have h5 := q1.keep g5
            clear z0 z1 z2 z3 z4 q1 g5 G4
            have hz5 := Below.size G5
            obtain ⟨A6, c6, rfl, ho6⟩ := Own.ofOB h5.1 (nk + ne) (by rw [List.length_append, HNK.out, HNE.out]) (by omega)
            clear ho6
            go_wp2_with ((first
              | (at_builtin; refine wpList_appR3 rfl (.tmp 49) (.tmp 55) rfl W.heap.size _ _ _ _ K _ rfl ⟨r.call, r.ino, r.tr, r.off, cutS r.dat⟩ (by rfl) h5 (by omega) hz5 ?_; intro v7 w7 q7 q8; have hz7 : W.heap.size ≤ w7.heap.size := by (have := Below.size q8; omega))
              | (at_builtin; refine wpList_appI3 rfl (.tmp 57) (.tmp 60) rfl W.heap.size _ _ _ _ _ (begs 0 K) rfl _ (by rfl) q7 (by rw [begs_length]; omega) hz7 ?_; intro v8 w8 q9 q10)))
            have X : WholeInv W w8 n (.slice A6 (nk + ne) c6) v7 v8 (.int .i64 ((k : Int) + 1)) := by
              refine ⟨k + 1, K ++ [r'], by simp, by omega, by omega, by simp; omega, hKm', ?_, (G5.low q8).low q10⟩
              rw [HB.out, HK.out, List.length_append, HNK.out, HNE.out, Nat.zero_add, HR.out]
              rw [HR.out] at q9
              simpa using q9
            clear q7 q8 q9 q10 h5
            go_roundw
            case rel => first | exact X | ((repeat apply Exists.intro); exact X) | ((repeat apply Exists.intro); refine ⟨X, ?_⟩; rfl)
            case measure => simp [intOf]; omega
          | false =>
            have HM := Lib.hid (show mayR r.call r.ino r.tr r.off (cutS r.dat).size = false by rw [hr'] at hm; exact hm)
            clear hm hr'
            go_wp2_with fail
            refine (clog_encode_no _ _ _ _ _ HM.out _).mono ?_
            rintro e w2 ⟨rfl, g2⟩
            replace g2 : Grow _ w2 := g2
            have X : WholeInv W w2 n u9 u10 u11 (.int .i64 ((k : Int) + 1)) := ⟨k + 1, K, by simp, by omega, by omega, by omega, hKm, h3.keep g2, G1.trans g2⟩
            clear h3 G1 g2
            go_wp2_with fail
            go_roundw
            case rel => first | exact X | ((repeat apply Exists.intro); exact X) | ((repeat apply Exists.intro); refine ⟨X, ?_⟩; rfl)
            case measure => simp [intOf]; omega
        · go_wp2_with fail
          go_meet
          exact ⟨⟨K, by omega, hKm, h3, G⟩, _, rfl⟩
      · go_wp2_with fail
        go_meet
        exact ⟨⟨K, by omega, hKm, h3, G⟩, _, rfl⟩
  case rest =>
    obtain ⟨⟨K, hK9, hKm, h3, G⟩, k0, rfl⟩ := hcut
    obtain ⟨m, hm⟩ : ∃ m, (catR K).length = m := ⟨_, rfl⟩
    have hcat := catR_length hKm
    rw [hm] at hcat
    obtain ⟨A1, c1, rfl, ho1⟩ := Own.ofOB h3.1 m hm (by omega)
    obtain ⟨A2, c2, rfl, hc2, r2⟩ := OR.rr h3.2.1
    obtain ⟨A3, c3, rfl, hc3, r3⟩ := OI.ri h3.2.2.1
    have hbl := begs_length K 0
    rw [hbl] at hc3 r3 ⊢
    have hcap1 := ho1.cap
    have hs1 := ho1.sl
    have HMm := Lib.hid hm
    have HKm := Lib.hid hKm
    clear h3 ho1 hm hKm hbl
    obtain ⟨l, hl⟩ : ∃ l, K.length = l := ⟨_, rfl⟩
    rw [hl] at hc2 r2 hc3 r3 hK9 hcat ⊢
    have HL := Lib.hid hl
    clear hl
    cases hE : endB ep (m : Nat) with
    | false =>
      have HE := Lib.hid hE
      go_wp2_with fail
      refine (clog_end_no _ _ HE.out _).mono ?_
      rintro e w1 ⟨rfl, rfl⟩
      by_cases hep : ep < 0
      · have d1 : decide (ep < 0) = true := decide_eq_true hep
        go_wp2_with fail
        refine (lives16_any _).mono ?_
        rintro e w9 ⟨rfl, rfl⟩
        go_wp2_with fail
        go_ret
        exact ⟨rfl, G⟩
      · have d1 : decide (ep < 0) = false := decide_eq_false hep
        have d2 : decide (1073741824 < ep) = true := decide_eq_true (by simp [endB] at hE; omega)
        clear hE
        go_wp2_with fail
        refine (lives16_any _).mono ?_
        rintro e w9 ⟨rfl, rfl⟩
        go_wp2_with fail
        go_ret
        exact ⟨rfl, G⟩
    | true =>
      have HE := Lib.hid hE
      obtain ⟨e1, e2, -, -, -⟩ := endB_iff.1 hE
      clear hE
      go_wp2_with fail
      refine (clog_end_yes _ _ HE.out _).mono ?_
      rintro e w1 ⟨rfl, rfl⟩
      go_upto_if 81 with fail
      go_cut [3] (fun a wx => ∃ q : Nat, a = .int .i64 (q : Int) ∧ (q : Int) ≤ 9223372036854775807 ∧ wx = wc)
      case first =>
        by_cases hneg : fr < 0
        · have e1 : wrap64 (fr + 1) = fr + 1 := IntWalk.wrap64_in _ (by omega)
          have e2 : wrap64 (-(fr + 1)) = -(fr + 1) := IntWalk.wrap64_in _ (by omega)
          have hb : decide (fr < 0) = true := decide_eq_true hneg
          go_wp2_with fail
          go_meet
          exact ⟨(-(fr + 1)).toNat, by rw [Int.toNat_of_nonneg (by omega)], by omega, rfl⟩
        · have hb : decide (fr < 0) = false := decide_eq_false hneg
          go_wp2_with fail
          go_meet
          exact ⟨fr.toNat, by rw [Int.toNat_of_nonneg (by omega)], by omega, rfl⟩
      case rest =>
        obtain ⟨q, rfl, hq1, rfl⟩ := hcut
        clear hfr hfr'
        obtain ⟨kk, hkk⟩ : ∃ kk, kk = q % (l + 1) := ⟨_, rfl⟩
        have hkl : kk ≤ l := by have := Nat.mod_lt q (show 0 < l + 1 by omega); omega
        have e3 : Int.tmod (q : Int) ((l : Int) + 1) = (kk : Int) := by rw [Int.tmod_eq_emod_of_nonneg (by omega), hkk]; norm_cast
        have e4 : ((l : Int) + 1 == 0) = false := by simp; omega
        clear hkk
        obtain ⟨b3, o3, z, hz, hA3, hb3, z0⟩ := r3.at_ (i := kk) (by omega)
        subst hA3
        rw [begs_get K kk (by rw [HL.out]; omega)] at hz
        injection hz with hz
        obtain ⟨h, hh⟩ : ∃ h, (catR (K.take kk)).length = h := ⟨_, rfl⟩
        rw [hh] at hz
        subst hz
        have HSP := Lib.hid (show scanP (logB (ep * 4294967296 + (m : Int)) (catR K)) ep (h : Nat) = outs h (K.drop kk) by have := scanP_log HKm.out (by rw [HL.out]; omega) (by rw [HMm.out]; exact HE.out) kk (ep := ep); rw [HMm.out, hh] at this; exact this)
        have HS2 := Lib.hid (show (outs h (K.drop kk)).map (·.2) = (begs 0 K).drop (kk + 1) by have h2 := begs_drop K 0 kk (by rw [HL.out]; exact hkl); rw [hh, Nat.zero_add] at h2; rw [outs_snd, ← h2, List.tail_drop])
        clear hh
        go_upto_region 18 with (fail)
        clear e3 e4
        go_cut [18, 19] (fun v u wx => Two wx W.heap.size v (K.drop kk) u ((begs 0 K).drop (kk + 1)) ∧ Grow wc wx)
        case first =>
          go_region_with (first
            | (go_at_call 20; refine (log_w (hs1.keep ?_) hcap1 _ ?_).mono ?_; (repeat (first | exact Grow.refl _ | refine Grow.drew ?_ | refine Grow.drewN ?_ _)); (omega); rintro e w4 ⟨A4, c4, rfl, o4, g4⟩; have y0 := g4.cell z0)
            | (go_at_call 21; refine (clog_scan (o4.sl.keep ?_) rfl o4.cap ep _).mono ?_; (repeat (first | exact Grow.refl _ | refine Grow.drew ?_ | refine Grow.drewN ?_ _)); rintro e w5 ⟨v, u, rfl, ht, g5⟩))
          all_goals
            have G4 : Grow wc w4 := Grow.trans (by (repeat (first | exact Grow.refl _ | refine Grow.drew ?_ | refine Grow.drewN ?_ _))) g4
            have G5 : Grow wc w5 := G4.trans (Grow.trans (by (repeat (first | exact Grow.refl _ | refine Grow.drew ?_ | refine Grow.drewN ?_ _))) g5)
            rw [HSP.out, outs_fst, HS2.out] at ht
            have ht2 := ht.low (B := W.heap.size) (by have := Below.size (G.trans G4); simpa using this)
            clear ht g4 g5 o4 y0
            go_wp2_with fail
            go_meet
            exact ⟨ht2, G5⟩
        case rest =>
          obtain ⟨ht, g5⟩ := hcut
          obtain ⟨X1, d1, rfl, -, s1⟩ := OR.rr ht.1
          obtain ⟨X2, d2, rfl, -, s2⟩ := OI.ri ht.2.1
          have hl1 : (K.drop kk).length = l - kk := by rw [List.length_drop, HL.out]
          have hl2 : ((begs 0 K).drop (kk + 1)).length = l - kk := by rw [List.length_drop, begs_length, HL.out]; omega
          obtain ⟨dk, hdk⟩ : ∃ dk, l - kk = dk := ⟨_, rfl⟩
          rw [hl1, hdk] at s1 ⊢
          rw [hl2, hdk] at s2 ⊢
          have t1 := (r2.keep g5).drop (k := kk) (by omega) hc2
          have t2 := (r3.keep g5).drop (k := kk + 1) (by omega) hc3
          rw [hdk] at t1
          rw [show l + 1 - (kk + 1) = dk by omega] at t2
          have HDK := Lib.hid hdk
          have E6 := Lib.hid (show wrap64 ((kk : Int) + 1) = (kk : Int) + 1 from IntWalk.wrap64_in _ (by omega))
          clear ht z0
          have l1 : dk ≤ 60000 := by rw [← hdk]; exact Nat.le_trans (Nat.sub_le l kk) (Nat.le_trans hK9 (by decide))
          clear hl1 hl2 hdk
          go_upto_region 19 with (fail)
          go_cut [20] (fun s wx => s = .bool true ∧ Grow wc wx)
          case first =>
            by_cases hk1 : c2 = kk
            · have hd := HDK.out
              subst hk1
              obtain rfl : l = c2 := Nat.le_antisymm hc2 hkl
              obtain rfl : dk = 0 := by rw [← hd]; exact Nat.sub_self _
              clear hd
              rw [if_pos rfl] at t1
              go_wp2_with fail
              refine (recs_same s1 t1 l1).mono ?_
              rintro e w6 ⟨rfl, k6, rfl⟩
              go_wp2_with fail
              go_meet
              exact ⟨rfl, (Grow.refl _).drewN k6⟩
            · have hd := HDK.out
              rw [if_neg hk1] at t1
              go_wp2_with fail
              refine (recs_same s1 t1 l1).mono ?_
              rintro e w6 ⟨rfl, k6, rfl⟩
              go_wp2_with fail
              go_meet
              exact ⟨rfl, (Grow.refl _).drewN k6⟩
          case rest =>
            obtain ⟨rfl, g6⟩ := hcut
            replace s2 := s2.keep g6
            replace t2 := t2.keep g6
            replace g6 := g5.trans g6
            clear s1 t1 g5
            obtain ⟨l', hl'⟩ : ∃ l', l' = l + 1 := ⟨_, rfl⟩
            rw [← hl'] at hc3 ⊢
            have HLJ := Lib.hid hl'
            have hjl : kk + 1 ≤ l' := by omega
            have HDJ := Lib.hid (show l' - (kk + 1) = dk by have := HDK.out; omega)
            clear hl'
            go_upto_region 20 with (fail)
            go_cut [21] (fun s wx => s = .bool true ∧ Grow wc wx)
            case first =>
              by_cases hk2 : c3 = kk + 1
              · subst hk2
                obtain rfl : dk = 0 := by have := HDJ.out; omega
                have T2 := Lib.hid t2
                clear t2
                go_wp2_with fail
                all_goals first | (exfalso; omega) | skip
                have t2 := T2.out
                rw [if_pos trivial] at t2
                refine (ints_same s2 t2 l1).mono ?_
                rintro e w7 ⟨rfl, k7, rfl⟩
                go_wp2_with fail
                go_meet
                exact ⟨rfl, (Grow.refl _).drewN k7⟩
              · have T2 := Lib.hid t2
                clear t2
                go_wp2_with fail
                all_goals first | (exfalso; omega) | skip
                rw [HDJ.out]
                have t2 := T2.out
                rw [if_neg hk2] at t2
                refine (ints_same s2 t2 l1).mono ?_
                rintro e w7 ⟨rfl, k7, rfl⟩
                go_wp2_with fail
                go_meet
                exact ⟨rfl, (Grow.refl _).drewN k7⟩
            case rest =>
              obtain ⟨rfl, g7⟩ := hcut
              replace g6 := g6.trans g7
              replace hs1 := hs1.keep g6
              replace g6 := G.trans g6
              clear s2 t2 g7 G r2 r3
              go_wp2_with fail
              refine (log_w hs1 hcap1 _ (by omega)).mono ?_
              rintro e w8 ⟨A8, c8, rfl, o8, g8⟩
              have hs8 := o8.sl
              have hc8 := o8.cap
              replace g6 := g6.trans g8
              clear o8 g8 hs1
              go_wp2_with fail
              refine (clog_scan hs8 rfl hc8 ot 0).mono ?_
              rintro e w9 ⟨v9, u9, rfl, ht9, g9⟩
              replace g6 := g6.trans g9
              clear hs8 hc8 g9
              by_cases hot : ot = ep
              · have d1 : (ot == ep) = true := by simp [hot]
                clear ht9 hot
                go_wp2_with fail
                refine (lives16_any _).mono ?_
                rintro e w10 ⟨rfl, rfl⟩
                go_wp2_with fail
                go_ret
                exact ⟨rfl, g6⟩
              · have d1 : (ot == ep) = false := by simpa using hot
                have hz := scanP_other HKm.out (by rw [HL.out]; exact hK9) (by rw [HMm.out]; exact HE.out) hot 0
                rw [HMm.out] at hz
                rw [hz] at ht9
                obtain ⟨A9, c9, rfl, -, -⟩ := OR.rr ht9.1
                clear ht9 hot hz
                go_wp2_with fail
                refine (lives16_any _).mono ?_
                rintro e w10 ⟨rfl, rfl⟩
                go_wp2_with fail
                go_ret
                exact ⟨rfl, g6⟩
end Go.Proofs.Ytnbgkkjhmdfmiaa
