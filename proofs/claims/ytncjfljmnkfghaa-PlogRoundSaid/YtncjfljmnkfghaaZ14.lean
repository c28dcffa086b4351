/- plog: Records. plog: Redo. commonslaw08.lives. No statement of the seat is proved here. -/
import Derived.Test.YtncjfljmnkfghaaZ13
import Derived.Lib.ConvBytes
import Derived.Lib.Strings
import Derived.Lib.AtoiErrMem
import Derived.Deep.RegionHeld3
import Derived.Test.YtncjfljmnkfghaaZ08
import Derived.Test.YtncjfljmnkfghaaZ06
import Derived.Test.YtncjfljmnkfghaaZ11
namespace Go.Proofs.Ytncjfljmnkfghaa
open Go.RowKit

theorem OW.len {w : World} {base : Nat} {v : Value} {R : List RW} (h : OW w base v R) : ∃ A c, v = .slice A R.length c ∧ R.length ≤ c := by
  rcases h.1.2 with ⟨q1, q2⟩ | ⟨g, c, cur, hv, hb, hg, h3, h4⟩
  · exact ⟨none, 0, by rw [q1, q2], by omega⟩
  · exact ⟨_, c, hv, h3⟩

set_option maxHeartbeats 2000000 in
theorem pl_rec1 {w : World} {ob B b0 : Nat} {v u : Value} {R : List RW} {L : List PT} (hc : Row w ob [v]) (hW : OW w B v R) (hob : ob < B) (hB : B ≤ w.heap.size) (hu : OP w b0 u L) (hb0 : B ≤ b0) (hne : ∀ g, u.ownBlock = some g → v.ownBlock ≠ some g) (hR : R.length ≤ 1000) :
    Calls Try.prog 55 #[u, .pointer (some ⟨ob, 0, none⟩)] w fun e w' => e = .returned (.tuple #[]) ∧ ∃ v', Row w' ob [v'] ∧ OW w' B v' (R ++ [⟨u, L⟩]) ∧ Turn (fun k => k = ob ∨ B ≤ k) w w' := by
  obtain ⟨Au, cu, rfl, -⟩ := hu.form
  have c0 := hc.1.c1
  have f0 := hc.2 0 (by simp)
  have HC := Lib.hid hc
  have HW := Lib.hid hW
  have HU := Lib.hid (hu.low hb0)
  have HN := Lib.hid hne
  have hlt := hc.1.1
  clear hc hW hu hne
  go_enter Try.func55, Try.ntmps55
  go_wp2_with (at_builtin; go_loud (refine wpList_appW rfl (.tmp 3) (.tmp 5) rfl B v R rfl ⟨.slice Au L.length cu, L⟩ _ rfl (by rfl) HW.out HU.out HN.out (by omega) hB ?_; intro v2 w2 q1 q2 q3; obtain ⟨A2, k2, rfl, -⟩ := q1.len; have HQ1 := Lib.hid q1; have HQ2 := Lib.hid q2; have hvo : v.ownBlock ≠ some ob := (fun q => by have := (World.ownsRow.lt HW.out.1 ob q).1; omega); have HC2 := Lib.hid (HC.out.turn q2 hvo); have c2 := HC2.out.1.c1; have f2 := HC2.out.2 0 (by simp); clear q1 q2 q3 c0 f0 hvo))
  go_end0
  refine ⟨rfl, _, by simpa using HC2.out.set (j := 0) (v := .slice A2 (R ++ [(⟨.slice Au L.length cu, L⟩ : RW)]).length k2) (by simp), HQ1.out.turn (Turn.setCell (F := fun k => k = ob) _ rfl _) (fun g hg => .inl (by subst hg; exact hob)), ?_⟩
  refine (HQ2.out.mono fun i hi => ?_).and (Turn.setCell _ (.inl rfl) _)
  exact .inr (World.ownsRow.lt HW.out.1 i hi).1

def RecJ (w : World) (s : MS) (B i : Nat) (u : World) : Prop := ∃ (v : Value) (R : List RW), Row u w.heap.size [v] ∧ OW u B v R ∧ R.map RW.L = (lgL s.S).take i ∧ R.length = i ∧ Grow w u
theorem recs_few (s : MS) (h : s.S.length = 1024) : (lgL s.S).length ≤ 63 := by
  have h1 := rcL_len _ (lgB s.S) (Nat.le_refl _)
  have h2 := lgE_le s.S
  rw [lgB_length h] at h1
  unfold lgL
  omega

set_option maxHeartbeats 2000000 in
theorem pl_records {w : World} {l : Nat} {x : MB} {s : MS} (h : LG w l x s) :
    Calls Try.prog 27 #[.pointer (some ⟨l, 0, none⟩)] w fun e w' => ∃ v R, e = .returned v ∧ OW w' w.heap.size v R ∧ R.map RW.L = lgL s.S ∧ Grow w w' := by
  have H := Lib.hid h
  have HF := Lib.hid (recs_few s h.lenS)
  clear h
  go_enter Try.func27, Try.ntmps27
  go_wp2_with fail
  have HR0 := Row.new w 41 [.slice none 0 0] _ rfl
  refine (pl_each (H.out.keep ((Grow.refl w).alloc _)) 55 #[.pointer (some ⟨w.heap.size, 0, none⟩)] (enters Try.func55 (by kernel_rfl) rfl) (RecJ w s) ?_ ?_ ?_).mono ?_
  · intro u g
    exact ⟨_, [], HR0.keep g, OW.nil _ _, rfl, rfl, ((Grow.refl w).alloc _).trans g⟩
  · rintro B i u u' ⟨v, R, h1, h2, h3, h4, h5⟩ g
    exact ⟨v, R, h1.keep g, h2.keep g, h3, h4, h5.trans g⟩
  · rintro B i u0 u v L ⟨v1, R, h1, h2, h3, h4, h5⟩ g hB hB0 hL hO
    have hsz : (w.alloc (.cells #[.slice none 0 0] 41)).heap.size = w.heap.size + 1 := by simp
    have hiL : i < (lgL s.S).length := (List.getElem?_eq_some_iff.1 hL).1
    rw [hsz] at hB
    refine (pl_rec1 (h1.keep g) (h2.keep g) (by omega) (Nat.le_trans hB0 g.size) hO hB0 (fun g' q1 q2 => ?_) (by have := HF.out; omega)).mono ?_
    · have t1 := (World.ownsRow.lt h2.1 g' q2).2
      have t2 := (World.ownsRow.lt hO g' q1).1
      omega
    · rintro e w' ⟨rfl, v', r1, r2, r3⟩
      refine ⟨rfl, ⟨v', _, r1, r2, ?_, by simp [h4], (h5.trans g).low (r3.low (fun k hk => by omega) (by have := h5.size; have := g.size; omega))⟩, r3.mono fun k hk => ?_⟩
      · rw [List.map_append, h3, List.take_add_one, hL]; rfl
      · rw [hsz]; omega
  rintro e w2 ⟨rfl, B, hB1, hB2, v, R, h1, h2, h3, h4, h5⟩
  have c1 := h1.1.c1
  have HE := Lib.hid h2
  have HR := Lib.hid h3
  have HG := Lib.hid h5
  have HB := Lib.hid hB1
  clear h1 h2 h3 h4 h5 HR0 hB1
  go_wp2_with fail
  go_ret
  exact ⟨_, R, rfl, HE.out.low (by have := HB.out; simp at this; omega), by rw [HR.out, List.take_of_length_le (Nat.le_refl _)], HG.out⟩
end Go.Proofs.Ytncjfljmnkfghaa

namespace Go.Proofs.Ytncjfljmnkfghaa
open Go.RowKit

/-- The bytes of a text, in a new block. -/
theorem bytes_of (w : World) (s : ByteArray) (hs : s.size ≤ 1073741000) : Sl (Lib.bytesWorld w 5 s) (some ⟨w.heap.size, 0, none⟩) s.size s.data.toList ∧ Grow w (Lib.bytesWorld w 5 s) := by
  have hL : s.data.toList.length = s.size := (Lib.size_eq s).symm
  have hb := Lib.bytesWorld_below w 5 s
  have hsz : w.heap.size < (Lib.bytesWorld w 5 s).heap.size := by simp [Lib.bytesWorld, World.freeze]
  refine ⟨⟨hL, hs, by simp [bvs, hL], fun _ => ⟨_, _, rfl, hsz, fun j u hu => ?_⟩⟩, hb⟩
  have hj : j < s.data.toList.length := by have := (List.getElem?_eq_some_iff.1 hu).1; simpa [bvs] using this
  have h6 := Lib.bytesWorld_cell w 5 s j (by omega)
  rw [Nat.zero_add, h6, ← hu]
  simp [bvs, bv, List.getD, List.getElem?_eq_getElem hj]

def RedoInv (w wr : World) (l : Nat) (x : MB) (s : MS) (L : List PT) (t : Value) : Prop := ∃ k : Nat, t = .int .i64 (k : Int) ∧ k ≤ L.length ∧ LG wr l x (s.patches (L.take k)) ∧ Turn x.F w wr

theorem patches_step {s : MS} {L : List PT} {k : Nat} {r : PT} (h : L[k]? = some r) : s.patches (L.take (k + 1)) = (s.patches (L.take k)).patch r := by
  rw [List.take_add_one, h]
  simp [MS.patches, List.foldl_append]

section
variable {w w' : World} {lb l p bx : Nat} {r : PT} {F : Nat → Prop}
theorem redo4_grow (g : Grow w w') (h : w.cell? ⟨lb, 0, none⟩ = some (.pointer (some ⟨l, 0, none⟩)) ∧ w.cell? ⟨l, 0, none⟩ = some (.pointer (some ⟨p, 0, none⟩)) ∧ w.cell? ⟨bx, 0, none⟩ = some (.int .i64 r.pos) ∧ w.cell? ⟨bx, 1, none⟩ = some (.string r.dat)) :
    w'.cell? ⟨lb, 0, none⟩ = some (.pointer (some ⟨l, 0, none⟩)) ∧ w'.cell? ⟨l, 0, none⟩ = some (.pointer (some ⟨p, 0, none⟩)) ∧ w'.cell? ⟨bx, 0, none⟩ = some (.int .i64 r.pos) ∧ w'.cell? ⟨bx, 1, none⟩ = some (.string r.dat) :=
  ⟨g.cell h.1, g.cell h.2.1, g.cell h.2.2.1, g.cell h.2.2.2⟩
theorem Turn.cell' (t : Turn F w w') {q : Addr} {v : Value} (hc : w.cell? q = some v) (hn : ¬ F q.block) : w'.cell? q = some v := (t.cell (World.block_lt_of_cell? w q hc) hn).trans hc
theorem redo4_turn (t : Turn F w w') (h1 : ¬ F lb) (h2 : ¬ F l) (h3 : ¬ F bx) (h : w.cell? ⟨lb, 0, none⟩ = some (.pointer (some ⟨l, 0, none⟩)) ∧ w.cell? ⟨l, 0, none⟩ = some (.pointer (some ⟨p, 0, none⟩)) ∧ w.cell? ⟨bx, 0, none⟩ = some (.int .i64 r.pos) ∧ w.cell? ⟨bx, 1, none⟩ = some (.string r.dat)) :
    w'.cell? ⟨lb, 0, none⟩ = some (.pointer (some ⟨l, 0, none⟩)) ∧ w'.cell? ⟨l, 0, none⟩ = some (.pointer (some ⟨p, 0, none⟩)) ∧ w'.cell? ⟨bx, 0, none⟩ = some (.int .i64 r.pos) ∧ w'.cell? ⟨bx, 1, none⟩ = some (.string r.dat) :=
  ⟨t.cell' h.1 h1, t.cell' h.2.1 h2, t.cell' h.2.2.1 h3, t.cell' h.2.2.2 h3⟩
end
theorem bytesGrow (w : World) (s : ByteArray) : Grow w (Lib.bytesWorld w 5 s) := Lib.bytesWorld_below w 5 s

theorem pl_store_ok {w wz : World} {l : Nat} {x : MB} {s : MS} (h : LG w l x s) (r : PT) (hin : inW 1024 r.pos r.dat.size = true) (g : Grow w wz) (k c : Nat) (hk : w.heap.size ≤ k) (hs : Sl wz (some ⟨k, 0, none⟩) r.dat.size r.txt) :
    Calls Try.prog 29 #[.pointer (some ⟨x.p, 0, none⟩), .int .i64 r.pos, .slice (some ⟨k, 0, none⟩) r.dat.size c] wz fun e w' => e = .returned (.int .i64 0) ∧ LG w' l x (s.store r.pos r.txt) ∧ Turn x.F wz w' ∧ Turn x.F w w' := by
  refine (pm_storeU (h.1.keep g) hs (fun _ p hp q => ?_) r.pos).mono ?_
  · injection hp with hp
    subst hp
    have q' : x.F k := q
    have := h.1.lt k q'
    omega
  rintro e w' ⟨rfl, h5, t5⟩
  rw [show inW (8 * 128) r.pos r.dat.size = true from hin]
  have hl : r.txt.length = r.dat.size := hs.1
  refine ⟨rfl, ⟨?_, (h.2.1.keep g).turn t5 h.2.2, h.2.2⟩, t5, (Turn.grow g _).and t5⟩
  simp only [MS.store]
  rw [hl]
  exact h5
theorem store_no {s : MS} {r : PT} (hin : inW 1024 r.pos r.dat.size = false) : s.store r.pos r.txt = s := by
  unfold MS.store storeS storeA
  rw [PT.txt_length, show inW (8 * 128) r.pos r.dat.size = false from hin]
  rfl
theorem pl_store_no {w wz : World} {l : Nat} {x : MB} {s : MS} (h : LG w l x s) (r : PT) (hin : inW 1024 r.pos r.dat.size = false) (g : Grow w wz) (k c : Nat) (hk : w.heap.size ≤ k) (hs : Sl wz (some ⟨k, 0, none⟩) r.dat.size r.txt) :
    Calls Try.prog 29 #[.pointer (some ⟨x.p, 0, none⟩), .int .i64 r.pos, .slice (some ⟨k, 0, none⟩) r.dat.size c] wz fun e w' => e = .returned (.int .i64 1) ∧ LG w' l x s ∧ Turn x.F wz w' ∧ Turn x.F w w' := by
  refine (pm_storeU (h.1.keep g) hs (fun _ p hp q => ?_) r.pos).mono ?_
  · injection hp with hp
    subst hp
    have q' : x.F k := q
    have := h.1.lt k q'
    omega
  rintro e w' ⟨rfl, h5, t5⟩
  rw [show inW (8 * 128) r.pos r.dat.size = false from hin]
  have hl : r.txt.length = r.dat.size := hs.1
  refine ⟨rfl, ⟨?_, (h.2.1.keep g).turn t5 h.2.2, h.2.2⟩, t5, (Turn.grow g _).and t5⟩
  have e := store_no (s := s) hin
  rw [← e]
  simp only [MS.store]
  rw [hl]
  exact h5
theorem pl_flush_at {w wz : World} {l : Nat} {x : MB} {s : MS} (h : LG w l x s) (r : PT) (hr : r.dat.size ≤ 1000) (g : Grow w wz) :
    Calls Try.prog 35 #[.pointer (some ⟨x.p, 0, none⟩), .int .i64 r.pos, .int .i64 (r.dat.size : Nat)] wz fun e w' => ∃ er, e = .returned (.int .i64 er) ∧ LG w' l x (s.flush r.pos r.dat.size) ∧ Turn x.F wz w' ∧ Turn x.F w w' := by
  refine (pm_flushU (h.1.keep g) r.pos (r.dat.size : Nat) (by omega) (by omega)).mono ?_
  rintro e w' ⟨rfl, h5, t5⟩
  exact ⟨_, rfl, ⟨h5, (h.2.1.keep g).turn t5 h.2.2, h.2.2⟩, t5, (Turn.grow g _).and t5⟩

set_option maxHeartbeats 8000000 in
set_option maxRecDepth 8000 in
theorem pl_redo1 {w : World} {l mb lb i : Nat} {x : MB} {s : MS} (h : LG w l x s) (hm : Row w mb [.int .i64 (i : Int)]) (hb : Blk w lb [.pointer (some ⟨l, 0, none⟩)]) (hmF : ¬ x.F mb) (hbF : ¬ x.F lb) (hne : mb ≠ lb) (hml : mb ≠ l) (hi : i ≤ 1000)
    {b0 : Nat} {u : Value} {L : List PT} (hu : OP w b0 u L) (hb0 : ∀ k, x.F k → k < b0) (hmb : mb < b0) (hL : L.length ≤ 1000) (hw : ∀ p ∈ L, p.dat.size ≤ 1000) :
    Calls Try.prog 62 #[u, .pointer (some ⟨mb, 0, none⟩), .pointer (some ⟨lb, 0, none⟩)] w fun e w' => e = .returned (.tuple #[]) ∧ Row w' mb [.int .i64 ((i : Int) + 1)] ∧ LG w' l x (s.patches L) ∧ Turn (fun k => k = mb ∨ x.F k) w w' := by
  have c0 := hm.1.c1
  have f0 := hm.2 0 (by simp)
  obtain ⟨A, c, rfl, hc, -⟩ := hu.rp (by omega)
  obtain ⟨w1, hw1⟩ : ∃ w1, w1 = w.setCell ⟨mb, 0, none⟩ (.int .i64 ((i : Int) + 1)) := ⟨_, rfl⟩
  have t1 : Turn (fun k => k = mb) w w1 := by rw [hw1]; exact Turn.setCell (F := fun k => k = mb) _ (p := ⟨mb, 0, none⟩) rfl _
  have H1 := Lib.hid (show LG w1 l x s from h.turn t1 (fun k hk q => hmF (hk ▸ q)) (fun q => hml q.symm))
  have M1 := Lib.hid (show Row w1 mb [.int .i64 ((i : Int) + 1)] by rw [hw1]; simpa using hm.set (j := 0) (v := .int .i64 ((i : Int) + 1)) (by simp))
  have B1 := Lib.hid (show Blk w1 lb [.pointer (some ⟨l, 0, none⟩)] from hb.turn t1 (fun q => hne q.symm))
  have O1 := Lib.hid (show OP w1 b0 (.slice A L.length c) L from hu.turn t1 (fun g hg q => by have := (World.ownsRow.lt hu g hg).1; omega))
  have HT1 := Lib.hid t1
  have HW1 := Lib.hid hw1
  have HRP := Lib.hid (show RP w1 A L.length L by obtain ⟨A', c', e, -, q⟩ := O1.out.rp (by omega); injection e with e1 e2 e3; subst e1; exact q)
  have HAF := Lib.hid (show 0 < L.length → ∀ p, A = some p → ¬ x.F p.block from fun h0 p hp q => by
    have q1 := own_none (.slice A L.length c)
    have q2 := hb0 _ q
    have q3 := (World.ownsRow.lt O1.out p.block (by rw [hp]; rfl)).1
    omega)
  have HB0 := Lib.hid hb0
  have HWW := Lib.hid hw
  obtain ⟨n, hn⟩ : ∃ n, n = L.length := ⟨_, rfl⟩
  rw [← hn] at O1 HRP HAF
  have HN := Lib.hid hn
  rw [← hn] at hL ⊢
  clear h hm hb hu t1 hw1 hb0 hw hc hn
  go_enter Try.func62, Try.ntmps62
  go_wp2_with fail
  rw [← HW1.out]
  clear c0 f0
  go_loopw [10] (fun t wr => RedoInv w1 wr l x s L t) (fun t _ => n - (intOf t).toNat)
  case atStart => exact ⟨0, by simp, Nat.zero_le _, H1.out, Turn.refl _ _⟩
  case round =>
    obtain ⟨k, rfl, hk, hlg, ht⟩ := hrel
    have HLG := Lib.hid hlg
    have HT := Lib.hid ht
    have hk' : k ≤ n := by rw [HN.out]; exact hk
    clear hlg ht hk
    by_cases hlt : k < n
    · have R1 : RP wr A n L := RP.turn HRP.out HT.out HAF.out
      obtain ⟨b, o, r, hrk, rfl, hb, d0, d1⟩ := R1.at_ hlt
      have hrm : r.dat.size ≤ 1000 := HWW.out r (List.mem_of_getElem? hrk)
      have HRK := Lib.hid (patches_step (s := s) hrk)
      have bl := (B1.out.turn HT.out hbF).c1
      have cl := HLG.out.2.1.c3.1
      obtain ⟨s1, hs1⟩ : ∃ s1, s1 = s.patches (L.take k) := ⟨_, rfl⟩
      rw [← hs1] at HLG HRK
      have HS1 := Lib.hid hs1
      clear hrk R1 hs1
      cases hin : inW 1024 r.pos r.dat.size with
      | true =>
        have HIN := Lib.hid hin
        clear hin
        go_wp2_with fail
        obtain ⟨wa, hwa⟩ : ∃ wa, wa = wr.alloc (.cells #[.int .i64 r.pos, .string r.dat] 50) := ⟨_, rfl⟩
        obtain ⟨bx, hbx⟩ : ∃ bx, bx = wr.heap.size := ⟨_, rfl⟩
        have NB := Row.new wr 50 [.int .i64 r.pos, .string r.dat] _ rfl
        have gA := (Grow.refl wr).alloc (.cells #[.int .i64 r.pos, .string r.dat] 50)
        rw [← hwa, ← hbx] at NB
        rw [← hwa] at gA
        have HGA := Lib.hid gA
        have hbF2 : ¬ x.F bx := fun q => by have := HLG.out.1.lt bx q; omega
        have hwz : wr.heap.size ≤ wa.heap.size := gA.size
        have hsS : (wa.cell? ⟨lb, 0, none⟩ = some (.pointer (some ⟨l, 0, none⟩)) ∧ wa.cell? ⟨l, 0, none⟩ = some (.pointer (some ⟨x.p, 0, none⟩)) ∧ wa.cell? ⟨bx, 0, none⟩ = some (.int .i64 r.pos) ∧ wa.cell? ⟨bx, 1, none⟩ = some (.string r.dat)) := ⟨gA.cell bl, gA.cell cl, NB.1.c2.1, NB.1.c2.2⟩
        have HFS := Lib.hid (And.intro hbF (And.intro HLG.out.2.2 hbF2))
        rw [← hwa, ← hbx]
        have kc := fun (u : World) => Lib.run_convert_string_bytes (P := Try.prog) u 9 24 5 r.dat Try.underlying9 Try.underlying24 Try.underlying5
        clear hwa hbx NB gA d0 d1 bl cl
        refine wp_region_held_drew (S := fun w' => w'.cell? ⟨lb, 0, none⟩ = some (.pointer (some ⟨l, 0, none⟩)) ∧ w'.cell? ⟨l, 0, none⟩ = some (.pointer (some ⟨x.p, 0, none⟩)) ∧ w'.cell? ⟨bx, 0, none⟩ = some (.int .i64 r.pos) ∧ w'.cell? ⟨bx, 1, none⟩ = some (.string r.dat)) (by kernel_rfl) ?_ (fun hHeld => ?_)
        · exact hsS
        refine wpAnyH_take (i := 0) (oi := _) (v := ?_) rfl (by kernel_rfl) (by kernel_rfl) (by kernel_rfl) (fun _ _ _ h => h) (Or.inl ⟨by rfl, ?_⟩) (by assumption) ?_
        rotate_left
        · (intro w hSw; (try dsimp only at hSw); go_simp; (try with_reducible rfl))
        simp only [Act.put, List.setIfInBounds_toArray]
        refine wpAnyH_take (i := 1) (oi := _) (v := ?_) rfl (by kernel_rfl) (by kernel_rfl) (by kernel_rfl) (fun _ _ _ h => h) (Or.inl ⟨by rfl, ?_⟩) (by assumption) ?_
        rotate_left
        · (intro w hSw; (try dsimp only at hSw); go_simp; (try with_reducible rfl))
        simp only [Act.put]
        refine wpAnyH_take (i := 2) (oi := _) (v := ?_) rfl (by kernel_rfl) (by kernel_rfl) (by kernel_rfl) (fun _ _ _ h => h) (Or.inl ⟨by rfl, ?_⟩) (by assumption) ?_
        rotate_left
        · (intro w hSw; (try dsimp only at hSw); go_simp; (try with_reducible rfl))
        simp only [Act.put]
        refine wpAnyH_take (i := 3) (oi := _) (v := ?_) rfl (by kernel_rfl) (by kernel_rfl) (by kernel_rfl) (fun _ _ _ h => h) (Or.inl ⟨by rfl, ?_⟩) (by assumption) ?_
        rotate_left
        · (intro w hSw; (try dsimp only at hSw); go_simp; (try with_reducible rfl))
        simp only [Act.put]
        refine wpAnyH_take (i := 4) (oi := _) (v := ?_) rfl (by kernel_rfl) (by kernel_rfl) (by kernel_rfl) (fun _ _ _ h => h) (Or.inl ⟨by rfl, ?_⟩) (by assumption) ?_
        rotate_left
        · (intro w hSw; (try dsimp only at hSw); go_simp; (try with_reducible rfl))
        simp only [Act.put]
        refine wpAnyH_take (i := 5) (oi := _) (v := ?_) rfl (by kernel_rfl) (by kernel_rfl) (by kernel_rfl) (fun _ _ _ h => h) (Or.inl ⟨by rfl, ?_⟩) (by assumption) ?_
        rotate_left
        · (intro w hSw; (try dsimp only at hSw); go_simp; (try with_reducible rfl))
        simp only [Act.put]
        refine wpAnyH_take (i := 6) (oi := _) (v := ?_) rfl (by kernel_rfl) (by kernel_rfl) (by kernel_rfl) (fun _ _ _ h => h) (Or.inl ⟨by rfl, ?_⟩) (by assumption) ?_
        rotate_left
        · (intro w hSw; (try dsimp only at hSw); go_simp; (try with_reducible rfl))
        simp only [Act.put]
        refine wpAnyH_take (i := 7) (oi := _) (v := ?_) rfl (by kernel_rfl) (by kernel_rfl) (by kernel_rfl) (fun _ _ _ h => h) (Or.inl ⟨by rfl, ?_⟩) (by assumption) ?_
        rotate_left
        · (intro w hSw; (try dsimp only at hSw); go_simp; (try with_reducible rfl))
        simp only [Act.put]
        refine wpAnyH_ready (rs := [8]) (by kernel_rfl) (by simp) ?_
        refine AllReadyH.cons (o := _) rfl (fun K hK => ?_) AllReadyH.nil
        go_simp
        refine hK.out _ _ (redo4_grow (bytesGrow _ _) (by assumption)) (fun hHeld2 => ?_)
        clear hK K
        refine wpAnyH_ready (rs := [9]) (by kernel_rfl) (by simp) ?_
        refine AllReadyH.cons (o := _) rfl (fun K hK => ?_) AllReadyH.nil
        go_simp
        refine (pl_store_ok HLG.out r HIN.out ?_ _ _ ?_ ?_).mono ?_; (repeat (first | exact Grow.refl _ | exact HGA.out | refine Grow.drew ?_ | refine Grow.drewN ?_ _ | refine Grow.trans ?_ (bytesGrow _ _))); (first | exact hwz | (simp; exact hwz)); (first | exact (bytes_of _ _ (by omega)).1 | exact (bytes_of _ _ (by omega)).1.drew); rintro e w5 ⟨rfl, h5, t5, t6⟩; have hs5 := redo4_turn (r := r) t5 HFS.out.1 HFS.out.2.1 HFS.out.2.2 (by assumption)
        refine hK.out _ _ hs5 (fun hHeld5 => ?_)
        clear hK K
        refine wpAnyH_take (i := 10) (oi := { dst := some 24, op := .binOp .eql 25 (.tmp 23) (.const (.int .i64 0)) 25, type := 4, pos := _, after := #[{ on := 9, ground := .data }], guard := none }) (v := ?_) rfl (by kernel_rfl) (by kernel_rfl) (by kernel_rfl) (fun _ _ _ h => h) (Or.inl ⟨by rfl, ?_⟩) (by assumption) ?_
        rotate_left
        · (intro w hSw; (try dsimp only at hSw); go_simp; (try with_reducible rfl))
        simp only [Act.put, List.setIfInBounds_toArray]
        refine wpAnyH_done (by kernel_rfl) ?_ _
        all_goals
          have H5 := Lib.hid h5
          have HT5 := Lib.hid (HT.out.and t6)
          clear h5 t5 t6 kc hsS
          go_wp2_with fail
          go_region_held3 (fun w' => w'.cell? ⟨lb, 0, none⟩ = some (.pointer (some ⟨l, 0, none⟩)) ∧ w'.cell? ⟨l, 0, none⟩ = some (.pointer (some ⟨x.p, 0, none⟩)) ∧ w'.cell? ⟨bx, 0, none⟩ = some (.int .i64 r.pos) ∧ w'.cell? ⟨bx, 1, none⟩ = some (.string r.dat)) (first | exact hs5 | exact hs6) ((go_at_call 35; go_loud (refine (pl_flush_at H5.out r (by omega) ?_).mono ?_; (repeat (first | exact Grow.refl _ | refine Grow.drew ?_ | refine Grow.drewN ?_ _)); rintro e w6 ⟨er, rfl, h6, t6, t7⟩; have hs6 := redo4_turn (r := r) t6 HFS.out.1 HFS.out.2.1 HFS.out.2.2 (by assumption))))
          all_goals
            have H6 := Lib.hid h6
            have HT7 := Lib.hid (HT5.out.and t7)
            clear h6 t6 t7 hs5 hs6
            have X : RedoInv w1 w6 l x s L (.int .i64 ((k : Int) + 1)) := ⟨k + 1, by simp, by have := HN.out; omega, by rw [HRK.out, MS.patch, if_pos HIN.out]; exact H6.out, HT7.out⟩
            have HX := Lib.hid X
            clear X
            go_wp2_with fail
            have e5 : wrap64 ((k : Int) + 1) = (k : Int) + 1 := IntWalk.wrap64_in _ (by omega)
            go_roundw
            case rel => (try rw [e5]); first | exact HX.out | ((repeat apply Exists.intro); exact HX.out) | ((repeat apply Exists.intro); refine ⟨HX.out, ?_⟩; rfl)
            case measure => first | exact measP hlt | exact measPW hlt e5
      | false =>
        have HIN := Lib.hid hin
        clear hin
        go_wp2_with fail
        obtain ⟨wa, hwa⟩ : ∃ wa, wa = wr.alloc (.cells #[.int .i64 r.pos, .string r.dat] 50) := ⟨_, rfl⟩
        obtain ⟨bx, hbx⟩ : ∃ bx, bx = wr.heap.size := ⟨_, rfl⟩
        have NB := Row.new wr 50 [.int .i64 r.pos, .string r.dat] _ rfl
        have gA := (Grow.refl wr).alloc (.cells #[.int .i64 r.pos, .string r.dat] 50)
        rw [← hwa, ← hbx] at NB
        rw [← hwa] at gA
        have HGA := Lib.hid gA
        have hbF2 : ¬ x.F bx := fun q => by have := HLG.out.1.lt bx q; omega
        have hwz : wr.heap.size ≤ wa.heap.size := gA.size
        have hsS : (wa.cell? ⟨lb, 0, none⟩ = some (.pointer (some ⟨l, 0, none⟩)) ∧ wa.cell? ⟨l, 0, none⟩ = some (.pointer (some ⟨x.p, 0, none⟩)) ∧ wa.cell? ⟨bx, 0, none⟩ = some (.int .i64 r.pos) ∧ wa.cell? ⟨bx, 1, none⟩ = some (.string r.dat)) := ⟨gA.cell bl, gA.cell cl, NB.1.c2.1, NB.1.c2.2⟩
        have HFS := Lib.hid (And.intro hbF (And.intro HLG.out.2.2 hbF2))
        rw [← hwa, ← hbx]
        have kc := fun (u : World) => Lib.run_convert_string_bytes (P := Try.prog) u 9 24 5 r.dat Try.underlying9 Try.underlying24 Try.underlying5
        clear hwa hbx NB gA d0 d1 bl cl
        refine wp_region_held_drew (S := fun w' => w'.cell? ⟨lb, 0, none⟩ = some (.pointer (some ⟨l, 0, none⟩)) ∧ w'.cell? ⟨l, 0, none⟩ = some (.pointer (some ⟨x.p, 0, none⟩)) ∧ w'.cell? ⟨bx, 0, none⟩ = some (.int .i64 r.pos) ∧ w'.cell? ⟨bx, 1, none⟩ = some (.string r.dat)) (by kernel_rfl) ?_ (fun hHeld => ?_)
        · exact hsS
        refine wpAnyH_take (i := 0) (oi := _) (v := ?_) rfl (by kernel_rfl) (by kernel_rfl) (by kernel_rfl) (fun _ _ _ h => h) (Or.inl ⟨by rfl, ?_⟩) (by assumption) ?_
        rotate_left
        · (intro w hSw; (try dsimp only at hSw); go_simp; (try with_reducible rfl))
        simp only [Act.put, List.setIfInBounds_toArray]
        refine wpAnyH_take (i := 1) (oi := _) (v := ?_) rfl (by kernel_rfl) (by kernel_rfl) (by kernel_rfl) (fun _ _ _ h => h) (Or.inl ⟨by rfl, ?_⟩) (by assumption) ?_
        rotate_left
        · (intro w hSw; (try dsimp only at hSw); go_simp; (try with_reducible rfl))
        simp only [Act.put]
        refine wpAnyH_take (i := 2) (oi := _) (v := ?_) rfl (by kernel_rfl) (by kernel_rfl) (by kernel_rfl) (fun _ _ _ h => h) (Or.inl ⟨by rfl, ?_⟩) (by assumption) ?_
        rotate_left
        · (intro w hSw; (try dsimp only at hSw); go_simp; (try with_reducible rfl))
        simp only [Act.put]
        refine wpAnyH_take (i := 3) (oi := _) (v := ?_) rfl (by kernel_rfl) (by kernel_rfl) (by kernel_rfl) (fun _ _ _ h => h) (Or.inl ⟨by rfl, ?_⟩) (by assumption) ?_
        rotate_left
        · (intro w hSw; (try dsimp only at hSw); go_simp; (try with_reducible rfl))
        simp only [Act.put]
        refine wpAnyH_take (i := 4) (oi := _) (v := ?_) rfl (by kernel_rfl) (by kernel_rfl) (by kernel_rfl) (fun _ _ _ h => h) (Or.inl ⟨by rfl, ?_⟩) (by assumption) ?_
        rotate_left
        · (intro w hSw; (try dsimp only at hSw); go_simp; (try with_reducible rfl))
        simp only [Act.put]
        refine wpAnyH_take (i := 5) (oi := _) (v := ?_) rfl (by kernel_rfl) (by kernel_rfl) (by kernel_rfl) (fun _ _ _ h => h) (Or.inl ⟨by rfl, ?_⟩) (by assumption) ?_
        rotate_left
        · (intro w hSw; (try dsimp only at hSw); go_simp; (try with_reducible rfl))
        simp only [Act.put]
        refine wpAnyH_take (i := 6) (oi := _) (v := ?_) rfl (by kernel_rfl) (by kernel_rfl) (by kernel_rfl) (fun _ _ _ h => h) (Or.inl ⟨by rfl, ?_⟩) (by assumption) ?_
        rotate_left
        · (intro w hSw; (try dsimp only at hSw); go_simp; (try with_reducible rfl))
        simp only [Act.put]
        refine wpAnyH_take (i := 7) (oi := _) (v := ?_) rfl (by kernel_rfl) (by kernel_rfl) (by kernel_rfl) (fun _ _ _ h => h) (Or.inl ⟨by rfl, ?_⟩) (by assumption) ?_
        rotate_left
        · (intro w hSw; (try dsimp only at hSw); go_simp; (try with_reducible rfl))
        simp only [Act.put]
        refine wpAnyH_ready (rs := [8]) (by kernel_rfl) (by simp) ?_
        refine AllReadyH.cons (o := _) rfl (fun K hK => ?_) AllReadyH.nil
        go_simp
        refine hK.out _ _ (redo4_grow (bytesGrow _ _) (by assumption)) (fun hHeld2 => ?_)
        clear hK K
        refine wpAnyH_ready (rs := [9]) (by kernel_rfl) (by simp) ?_
        refine AllReadyH.cons (o := _) rfl (fun K hK => ?_) AllReadyH.nil
        go_simp
        refine (pl_store_no HLG.out r HIN.out ?_ _ _ ?_ ?_).mono ?_; (repeat (first | exact Grow.refl _ | exact HGA.out | refine Grow.drew ?_ | refine Grow.drewN ?_ _ | refine Grow.trans ?_ (bytesGrow _ _))); (first | exact hwz | (simp; exact hwz)); (first | exact (bytes_of _ _ (by omega)).1 | exact (bytes_of _ _ (by omega)).1.drew); rintro e w5 ⟨rfl, h5, t5, t6⟩; have hs5 := redo4_turn (r := r) t5 HFS.out.1 HFS.out.2.1 HFS.out.2.2 (by assumption)
        refine hK.out _ _ hs5 (fun hHeld5 => ?_)
        clear hK K
        refine wpAnyH_take (i := 10) (oi := { dst := some 24, op := .binOp .eql 25 (.tmp 23) (.const (.int .i64 0)) 25, type := 4, pos := _, after := #[{ on := 9, ground := .data }], guard := none }) (v := ?_) rfl (by kernel_rfl) (by kernel_rfl) (by kernel_rfl) (fun _ _ _ h => h) (Or.inl ⟨by rfl, ?_⟩) (by assumption) ?_
        rotate_left
        · (intro w hSw; (try dsimp only at hSw); go_simp; (try with_reducible rfl))
        simp only [Act.put, List.setIfInBounds_toArray]
        refine wpAnyH_done (by kernel_rfl) ?_ _
        all_goals
          have H5 := Lib.hid h5
          have HT5 := Lib.hid (HT.out.and t6)
          clear h5 t5 t6 kc hsS
          clear hs5
          have X : RedoInv w1 w5 l x s L (.int .i64 ((k : Int) + 1)) := ⟨k + 1, by simp, by have := HN.out; omega, by rw [HRK.out, MS.patch, if_neg (by rw [HIN.out]; simp)]; exact H5.out, HT5.out⟩
          have HX := Lib.hid X
          clear X
          go_wp2_with fail
          have e5 : wrap64 ((k : Int) + 1) = (k : Int) + 1 := IntWalk.wrap64_in _ (by omega)
          go_roundw
          case rel => (try rw [e5]); first | exact HX.out | ((repeat apply Exists.intro); exact HX.out) | ((repeat apply Exists.intro); refine ⟨HX.out, ?_⟩; rfl)
          case measure => first | exact measP hlt | exact measPW hlt e5
    · obtain rfl : k = n := by omega
      have HLE := Lib.hid (show s.patches (L.take k) = s.patches L by rw [List.take_of_length_le (by rw [← HN.out]; exact Nat.le_refl _)])
      clear hlt
      go_wp2_with fail
      go_end0
      refine ⟨rfl, M1.out.turn HT.out hmF, by rw [← HLE.out]; exact HLG.out, ?_⟩
      exact (HT1.out.mono fun i hi => .inl hi).and (HT.out.mono fun i hi => .inr hi)

def RedoJ (w : World) (l : Nat) (x : MB) (s : MS) (_B i : Nat) (u : World) : Prop := Row u (w.heap.size + 1) [.int .i64 (i : Int)] ∧ Blk u w.heap.size [.pointer (some ⟨l, 0, none⟩)] ∧ LG u l x (s.redone ((lgL s.S).take i)) ∧ Turn x.F w u
theorem redone_step {s : MS} {R : List (List PT)} {i : Nat} {L : List PT} (h : R[i]? = some L) : s.redone (R.take (i + 1)) = (s.redone (R.take i)).patches L := by
  rw [List.take_add_one, h]
  simp [MS.redone, List.foldl_append]

theorem dpL_few {b : List UInt8} : (dpL b).length ≤ 64 ∧ ∀ p ∈ dpL b, p.dat.size ≤ 256 := by
  by_cases h : dpE b = 0
  · obtain ⟨h1, -, -, -⟩ := dp_can h
    obtain ⟨h2, h3⟩ := mayP_iff.1 h1
    exact ⟨h2, fun p hp => (PT.may_iff.1 (List.all_eq_true.1 h3 p hp)).2⟩
  · rw [dpL, if_neg h]; simp
theorem rcL_few : ∀ (n : Nat) (b : List UInt8), b.length ≤ n → ∀ L ∈ rcL b, L.length ≤ 64 ∧ ∀ p ∈ L, p.dat.size ≤ 256
  | n, b, hn => by
    by_cases h : dpE b = 0
    · have h1 := dpU_pos h
      rw [rcL_go h]
      intro L hL
      rcases List.mem_cons.1 hL with rfl | hL
      · exact dpL_few
      match n with
      | 0 => omega
      | n + 1 => exact rcL_few n (b.drop (dpU b)) (by rw [List.length_drop]; omega) L hL
    · rw [rcL_end h]; intro L hL; simp at hL

set_option maxHeartbeats 4000000 in
set_option maxRecDepth 8000 in
theorem pl_redo {w : World} {l : Nat} {x : MB} {s : MS} (h : LG w l x s) :
    Calls Try.prog 31 #[.pointer (some ⟨l, 0, none⟩)] w fun e w' => e = .returned (.int .i64 ((lgL s.S).length : Nat)) ∧ LG w' l x s.redo ∧ Turn x.F w w' := by
  have H := Lib.hid h
  have HF := Lib.hid (recs_few s h.lenS)
  have HLT := Lib.hid h.1.lt
  have hlw := h.2.1.1
  clear h
  go_enter Try.func31, Try.ntmps31
  go_wp2_with fail
  have g0 : Grow w ((w.alloc (.cells #[.pointer (some ⟨l, 0, none⟩)] 38)).alloc (.cells #[.int .i64 0] 3)) := ((Grow.refl w).alloc _).alloc _
  have hsz : ((w.alloc (.cells #[.pointer (some ⟨l, 0, none⟩)] 38)).alloc (.cells #[.int .i64 0] 3)).heap.size = w.heap.size + 2 := by simp
  have HB0 : Blk ((w.alloc (.cells #[.pointer (some ⟨l, 0, none⟩)] 38)).alloc (.cells #[.int .i64 0] 3)) w.heap.size [.pointer (some ⟨l, 0, none⟩)] := (Blk.new w _ [.pointer (some ⟨l, 0, none⟩)] _ (0, 0) rfl).keep ((Grow.refl _).alloc _)
  have HR0 : Row ((w.alloc (.cells #[.pointer (some ⟨l, 0, none⟩)] 38)).alloc (.cells #[.int .i64 0] 3)) (w.heap.size + 1) [.int .i64 ((0 : Nat) : Int)] := by
    have := Row.new (w.alloc (.cells #[.pointer (some ⟨l, 0, none⟩)] 38)) 3 [.int .i64 0] _ rfl
    simpa using this
  obtain ⟨w1, hw1⟩ : ∃ w1, w1 = (w.alloc (.cells #[.pointer (some ⟨l, 0, none⟩)] 38)).alloc (.cells #[.int .i64 0] 3) := ⟨_, rfl⟩
  rw [← hw1] at g0 hsz HB0 HR0 ⊢
  clear hw1
  have hmF : ¬ x.F (w.heap.size + 1) := fun q => by have := HLT.out _ q; omega
  have hbF : ¬ x.F w.heap.size := fun q => by have := HLT.out _ q; omega
  refine (pl_each (H.out.keep g0) 62 #[.pointer (some ⟨w.heap.size + 1, 0, none⟩), .pointer (some ⟨w.heap.size, 0, none⟩)] (enters Try.func62 (by kernel_rfl) rfl) (RedoJ w l x s) ?_ ?_ ?_).mono ?_
  · intro u g
    exact ⟨HR0.keep g, HB0.keep g, H.out.keep (g0.trans g), Turn.grow (g0.trans g) _⟩
  · rintro B i u u' ⟨h1, h2, h3, h4⟩ g
    exact ⟨h1.keep g, h2.keep g, h3.keep g, h4.andGrow g⟩
  · rintro B i u0 u v L ⟨h1, h2, h3, h4⟩ g hB hB0 hL hO
    have hiL : i < (lgL s.S).length := (List.getElem?_eq_some_iff.1 hL).1
    have hfew := rcL_few _ (lgB s.S) (Nat.le_refl _) L (List.mem_of_getElem? hL)
    rw [hsz] at hB
    refine (pl_redo1 (h3.keep g) (h1.keep g) (h2.keep g) hmF hbF (by omega) (by omega) (by have := HF.out; omega) hO (fun k hk => by have := HLT.out k hk; omega) (by omega) (by omega) (fun p hp => by have := hfew.2 p hp; omega)).mono ?_
    rintro e w' ⟨rfl, r1, r2, r3⟩
    refine ⟨rfl, ⟨by simpa using r1, (h2.keep g).turn r3 (fun q => q.elim (fun q => by omega) hbF), by rw [redone_step hL]; exact r2, (h4.andGrow g).trans r3 (fun k hk => hk.elim (fun q => .inr (by omega)) (fun q => .inl q))⟩, r3.mono fun k hk => ?_⟩
    rw [hsz]
    rcases hk with rfl | hk
    · omega
    · have := HLT.out k hk; omega
  rintro e w2 ⟨rfl, B, hB1, hB2, h1, h2, h3, h4⟩
  rw [List.take_of_length_le (Nat.le_refl _)] at h3
  have H2 := Lib.hid h3
  have HR2 := Lib.hid h1
  have HB2 := Lib.hid h2
  have HT2 := Lib.hid h4
  have c0 := h3.2.1.c3.1
  have b0 := h2.c1
  obtain ⟨N, hN⟩ : ∃ N, N = (lgL s.S).length := ⟨_, rfl⟩
  rw [← hN] at HR2
  have HNN := Lib.hid hN
  clear h1 h2 h3 h4 hN HB0 HR0 hB1 hB2
  go_wp2_with fail
  refine (pm_fence H2.out.1).mono ?_
  rintro e w3 ⟨rfl, hP3, t3⟩
  have H3 := Lib.hid (show LG w3 l x (s.redone (lgL s.S)).fence from ⟨hP3, H2.out.2.1.turn t3 H2.out.2.2, H2.out.2.2⟩)
  have HT3 := Lib.hid (HT2.out.and t3)
  have HR3 := Lib.hid (HR2.out.turn t3 hmF)
  have HB3 := Lib.hid (HB2.out.turn t3 hbF)
  have b1 := HB3.out.c1
  clear hP3 t3 c0 b0
  go_wp2_with fail
  refine (pl_clear H3.out).mono ?_
  rintro e w4 ⟨rfl, h4, t4⟩
  have H4 := Lib.hid h4
  have HT4 := Lib.hid (HT3.out.and t4)
  have HR4 := Lib.hid (HR3.out.turn t4 hmF)
  have m0 := HR4.out.1.c1
  clear h4 t4 b1
  go_wp2_with fail
  go_ret
  exact ⟨ret_int (by rw [HNN.out]), H4.out, HT4.out⟩
end Go.Proofs.Ytncjfljmnkfghaa

namespace Go.Proofs.Ytncjfljmnkfghaa
open Go.RowKit

theorem RP.lit (w : World) (t : TypeId) (p : PT) : RP (w.alloc (.cells #[.int .i64 p.pos, .string p.dat] t)) (some ⟨w.heap.size, 0, none⟩) 1 [p] :=
  ⟨rfl, by omega, by have := Rd.litP w t (pcs [p]) 2 1 rfl; rw [World.size_alloc]; exact this⟩

/-- The memory as it is made. -/
def fresh : MS := ⟨List.replicate (8 * 128) 0, List.replicate (8 * 128) 0, List.replicate 128 false⟩
theorem fresh_ok : fresh.ok := ⟨List.length_replicate, List.length_replicate, List.length_replicate⟩
theorem fresh_still : fresh.still := rfl
theorem fresh_log : lgE fresh.S = 0 ∧ lgL fresh.S = [] ∧ lgU fresh.S = 0 := by
  have e : fresh.S = List.replicate 512 0 ++ (leB (0 : Int).toNat 8 ++ List.replicate 504 0) := by
    rw [show leB (0 : Int).toNat 8 = List.replicate 8 0 from rfl, List.replicate_append_replicate, List.replicate_append_replicate]; rfl
  have g := (get_mid (bs := fresh.S) (a := 512) (wd := 8) e List.length_replicate (by decide) (by decide)).1
  have g1 : getN fresh.S 512 8 = 0 := g
  have h : lgE fresh.S = 0 := by rw [lgE, g1]; rfl
  have hB : lgB fresh.S = [] := by rw [lgB, h]; rfl
  exact ⟨h, by rw [lgL, hB, rc_nil.1], by rw [lgU, hB, rc_nil.2]⟩
def pX : PT := ⟨3, ⟨#[120]⟩⟩
def pY : PT := ⟨258, ⟨#[5]⟩⟩
theorem encP_pX : (encP [pX]).length = 16 := by rw [encP_length]; rfl
theorem encP_pY : (encP [pY]).length = 16 ∧ (encP [pY]).take 9 = [1, 0, 2, 1, 0, 0, 1, 0, 5] ∧ (encP [pY]).drop 13 = [0, 0, 0] := by
  have hb : (bodyP [pY]).length = 9 := rfl
  have hs : (sumB (bodyP [pY])).length = 13 := by rw [sumB_length, hb]
  refine ⟨by rw [encP_length]; rfl, ?_, ?_⟩
  · rw [encP, sumB, List.append_assoc, List.take_left' hb]; rfl
  · rw [encP, List.drop_left' hs, hs]; rfl
theorem getD_one {S : List UInt8} {i : Nat} (h : i < S.length) : (S.drop i).take 1 = [S.getD i 0] := by
  rw [List.drop_eq_getElem_cons h, List.getD_eq_getElem?_getD, List.getElem?_eq_getElem h]; rfl
theorem live8 : apE fresh.S [pX] = 0 ∧ (lgL (fresh.append [pX]).S).length = 1 ∧ ((fresh.append [pX]).redo.T.drop 3).take 1 = [120] ∧ lgE (fresh.append [pX]).redo.S = 0 := by
  have h0 : apE fresh.S [pX] = 0 := apE_iff.2 ⟨by decide, by rw [fresh_log.2.2, encP_pX]; omega⟩
  obtain ⟨h1, h2, h3, -⟩ := append_is fresh_ok (MS.still_cov fresh_still) h0
  rw [fresh_log.2.1, List.nil_append] at h3
  obtain ⟨r1, r2, r3⟩ := redo_is h1 (MS.still_cov h2)
  refine ⟨h0, by rw [h3]; rfl, ?_, ?_⟩
  · rw [← show (fresh.append [pX]).redo.S = (fresh.append [pX]).redo.T from r2, getD_one (by rw [r1.S]; omega), r3, h3]
    have e : [[pX]].flatten.foldl patS (fresh.append [pX]).S = putL (fresh.append [pX]).S 3 [120] := rfl
    rw [e, putL_get _ _ _ _ (by rw [putL_length, h1.S]; decide), if_neg (by omega), putL_get _ _ _ _ (by rw [h1.S]; decide), if_pos (by decide)]
    rfl
  · rw [r3, h3]
    have e : [[pX]].flatten.foldl patS (fresh.append [pX]).S = putL (fresh.append [pX]).S 3 [120] := rfl
    rw [e]
    exact lgE_wiped (by rw [putL_length]; exact h1.S)

set_option maxHeartbeats 4000000 in
set_option maxRecDepth 4000 in
theorem lives8 (w : World) : Calls Try.prog 16 #[] w fun e w' => e = .returned (.bool true) ∧ Grow w w' := by
  have hY := encP_pY
  obtain ⟨bY, hbY⟩ : ∃ b, b = encP [pY] := ⟨_, rfl⟩
  rw [← hbY] at hY
  obtain ⟨hY1, hY2, hY3⟩ := hY
  have HL := Lib.hid live8
  obtain ⟨s1, hs1⟩ : ∃ s1, s1 = fresh.append [pX] := ⟨_, rfl⟩
  rw [← hs1] at HL
  have HS1 := Lib.hid hs1
  have HBY := Lib.hid hbY
  have HT9 := Lib.hid hY2
  have HD13 := Lib.hid hY3
  clear hbY hs1 hY2 hY3
  go_enter Try.func16, Try.ntmps16
  go_wp2_with fail
  refine (pl_encode (RP.lit w _ pY) (fun p hp => by simp at hp; subst hp; exact ⟨by decide, by decide⟩)).mono ?_
  rintro e w1 (⟨hm, A1, c1, rfl, o1, g1⟩ | ⟨hm, -, -⟩)
  case inr => exact absurd hm (by decide)
  rw [← HBY.out, hY1] at o1 ⊢
  have s1' := o1.sl
  have G1 : Grow w w1 := ((Grow.refl w).alloc _).trans g1
  have hc1 := o1.cap
  have st := s1'.take (k := 9) (by omega)
  have sd := s1'.drop (k := 13) (by omega) hc1
  rw [HT9.out] at st
  rw [HD13.out, if_neg (by omega)] at sd
  obtain ⟨gb, hA1, -, -⟩ := o1.row (by omega)
  subst hA1
  have ha : (some (⟨gb, 0, none⟩ : Addr)).map (·.add 13) = some ⟨gb, 13, none⟩ := by simp [Addr.add_lit]
  rw [ha] at sd
  have i1 : 9 ≤ c1 := by omega
  have i2 : 13 ≤ c1 := by omega
  clear o1 g1 s1' hm hY1 ha
  go_wp2_with fail
  refine (same_yes (st.alloc _) (Sl.lit w1 _ _ [1, 0, 2, 1, 0, 0, 1, 0, 5] 9 rfl rfl (by omega)) rfl).mono ?_
  rintro e w2 ⟨rfl, k2, hw2⟩
  replace sd : Sl w2 (some ⟨gb, 13, none⟩) 3 [0, 0, 0] := by rw [hw2]; exact (sd.alloc _).drewN k2
  replace G1 : Grow w w2 := by rw [hw2]; exact (G1.alloc _).drewN k2
  clear st hw2
  go_wp2_with fail
  refine (same_yes (sd.alloc _) (Sl.lit w2 _ _ [0, 0, 0] 3 rfl rfl (by omega)) rfl).mono ?_
  rintro e w3 ⟨rfl, k3, hw3⟩
  replace G1 : Grow w w3 := by rw [hw3]; exact (G1.alloc _).drewN k3
  clear sd hw3
  go_wp2_with fail
  refine (pm_new_yes 128 (by decide) w3).mono ?_
  rintro e w4 ⟨x, rfl, hP, hx, g4⟩
  go_wp2_with fail
  refine (pl_new hP 512 512).mono ?_
  rintro e w5 (⟨hm, -, -⟩ | ⟨-, l, rfl, hl, hb, g5⟩)
  case inl => exact absurd hm (by decide)
  have H5 : LG w5 l x fresh := ⟨hP.keep g5, hb, fun q => by have := hP.lt l q; omega⟩
  have hx5 : ∀ k, x.F k → w.heap.size ≤ k := fun k hk => Nat.le_trans G1.size (hx k hk)
  have G5 : Grow w w5 := (G1.trans g4).trans g5
  clear hP hx g4 hl hb g5 G1
  go_wp2_with fail
  refine (pl_append (H5.keep ((Grow.refl _).alloc _)) (RP.lit w5 _ pX) (fun p hp => by simp at hp; subst hp; exact ⟨by decide, by decide⟩)).mono ?_
  rintro e w6 ⟨rfl, H6, t6⟩
  rw [HL.out.1]
  rw [← HS1.out] at H6
  replace G5 : Grow w w6 := (G5.alloc _).low (t6.low hx5 (G5.alloc _).size)
  clear H5 t6
  go_wp2_with fail
  refine (pl_redo H6).mono ?_
  rintro e w7 ⟨rfl, H7, t7⟩
  rw [HL.out.2.1]
  replace G5 : Grow w w7 := G5.low (t7.low hx5 G5.size)
  clear H6 t7
  go_wp2_with fail
  refine (pm_lasts H7.1 3 1 (by decide)).mono ?_
  rintro e w8 ⟨A8, c8, rfl, o8, g8⟩
  rw [HL.out.2.2.1] at o8
  have cv := conv_s (c := c8) o8.sl
  have H8 := H7.keep g8
  replace G5 : Grow w w8 := G5.trans g8
  clear H7 g8 o8 hx5
  go_wp2_with fail
  refine (pl_end H8).mono ?_
  rintro e w9 ⟨rfl, g9⟩
  rw [HL.out.2.2.2]
  have G := Lib.hid (G5.trans g9)
  clear H8 g9 G5 cv
  go_wp2_with fail
  go_ret
  exact ⟨rfl, G.out⟩
end Go.Proofs.Ytncjfljmnkfghaa
