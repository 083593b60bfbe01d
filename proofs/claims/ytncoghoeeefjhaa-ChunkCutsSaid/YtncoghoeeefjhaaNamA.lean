/- keys.Id, chunk.digest, chunk.Name and the references' walked. Conditions: keys of 32 bytes; a text of less than 2^45 bytes. -/
import Derived.Test.YtncoghoeeefjhaaKeyA
import Derived.Test.YtncoghoeeefjhaaR2K
import Derived.Test.YtncoghoeeefjhaaR2X
import Derived.Test.YtncoghoeeefjhaaHexA
import Derived.Test.YtncoghoeeefjhaaChuA
namespace Go.Proofs.Ytncoghoeeefjhaa
open Go.RowKit

/-- a slice of keys -/
def KeysIn (w : World) (B : Nat) (A : Option Addr) (ks : List (List UInt8)) : Prop :=
  (∀ k ∈ ks, k.length = 32) ∧ (0 < ks.length → ∃ b o, A = some ⟨b, o, none⟩ ∧ b < B ∧ ∀ i (h : i < ks.length), w.rangeAt b (o + i * 32) (c8 ks[i]).toList)
theorem KeysIn.below {w w' : World} {B : Nat} {A : Option Addr} {ks : List (List UInt8)} (h : KeysIn w B A ks) (hb : Below B w w') : KeysIn w' B A ks :=
  ⟨h.1, fun hn => by
    obtain ⟨b, o, e, hB, hr⟩ := h.2 hn
    exact ⟨b, o, e, hB, fun i hi j v hj => (hb.cell (p := ⟨b, o + i * 32 + j, none⟩) hB).trans (hr i hi j v hj)⟩⟩
theorem KeysIn.more {w : World} {B B' : Nat} {A : Option Addr} {ks : List (List UInt8)} (h : KeysIn w B A ks) (hB : B ≤ B') : KeysIn w B' A ks :=
  ⟨h.1, fun hn => by
    obtain ⟨b, o, e, hb, hr⟩ := h.2 hn
    exact ⟨b, o, e, by omega, hr⟩⟩
def namesB : List UInt8 := [110, 97, 109, 101, 115]
/-- the key of names -/
def idS : List (List UInt8) → List UInt8
  | [] => noKey
  | k :: _ => keyedS k namesB
theorem idS_length (ks : List (List UInt8)) (_h : ∀ k ∈ ks, k.length = 32) : (idS ks).length = 32 := by
  cases ks with
  | nil => rfl
  | cons k r => exact keyedS_length _ _
theorem hidig (l : List UInt8) (h : l.length = 32) : (Try.prog.info? 85).map (·.size) = some (c8 l).size := by rw [c8_size, h]; kernel_rfl

set_option maxRecDepth 100000 in
set_option maxHeartbeats 2000000 in
theorem of38_any (k : List UInt8) (x : ByteArray) (w : World) (hk : k.length = 32) (hx : x.size ≤ 35184372088832) :
    Calls Try.prog 63 #[.agg (c8 k), .string x] w fun e w' => e = .returned (.agg (c8 (keyedS k (bl x)))) ∧ Below w.heap.size w w' := by
  have hK := (Blk.new w 36 (c8 k)).alloc (.cells (c8 noKey) 36)
  have hR := Blk.new (w.alloc (.cells (c8 k) 36)) 36 (c8 noKey)
  rw [World.size_alloc] at hR
  have hb := ((Below.refl w.heap.size w).alloc (Nat.le_refl _) (.cells (c8 k) 36)).alloc (by simp) (.cells (c8 noKey) 36)
  have hik := hikey k hk
  obtain ⟨W0, hW0⟩ : ∃ W0, (w.alloc (.cells (c8 k) 36)).alloc (.cells (c8 noKey) 36) = W0 := ⟨_, rfl⟩
  have hz0 : W0.heap.size = w.heap.size + 2 := by rw [← hW0]; simp
  have hka := rkeyed_any k W0.heap.size x (W0.alloc (.cells #[.string x] 9)) hk (by simp) ((Blk.new W0 9 #[.string x]).cell 0) hx
  rw [hW0] at hK hR hb
  have hSl := keyedS_length k (bl x)
  obtain ⟨S, hS⟩ : ∃ S, keyedS k (bl x) = S := ⟨_, rfl⟩
  rw [hS] at hka hSl ⊢
  rw [hz0] at hka
  have hiS := hikey S hSl
  have HKA := Lib.hid hka
  clear hS hka
  go_enter Try.func63, Try.ntmps63
  refine wp_seq ?_
  generalize hQ1 : Exit.then _ _ = Q1
  go_wp2
  change Q1 _ _ ((w.alloc (.cells (c8 k) 36)).alloc (.cells (c8 noKey) 36))
  rw [hW0]
  clear hW0
  subst hQ1
  go_wp2_with (refine wpList_load_row rfl 36 _ rfl w.heap.size rfl 36 (c8 k) (0, 0) _ hK Try.underlying36 rfl hik ?_)
  refine HKA.out.mono ?_
  rintro e w1 ⟨rfl, hb1⟩
  have hR1 := (hR.alloc (.cells #[.string x] 9)).below hb1 (hR.alloc _).lt
  have hb01 := (hb.alloc (by omega) (.cells #[.string x] 9)).trans (hb1.mono (by simp; omega))
  have nR := hR1.rowed (c8 S)
  go_wp2_with (refine wpList_store_rowTo rfl 36 _ _ rfl rfl (w.heap.size + 1) (c8 S) rfl rfl 36 (c8 noKey) hR1 hiS (by rw [c8_size, c8_size, hSl]; rfl) (c8_one _) ?_)
  refine bodyPost_ret (v := .agg (c8 S)) ?_ rfl ?_
  · exact results_cell_row Try.results63 _ _ (w.heap.size + 1) 36 (c8 S) (0, 0) _ rfl nR Try.underlying36 rfl hiS
  exact ⟨rfl, below_setRow hb01 (by omega) _⟩

set_option maxRecDepth 100000 in
set_option maxHeartbeats 2000000 in
theorem kid_any (A : Option Addr) (c : Nat) (ks : List (List UInt8)) (w : World) (hr : KeysIn w w.heap.size A ks) :
    Calls Try.prog 40 #[.agg #[.slice A ks.length c]] w fun e w' => e = .returned (.agg (c8 (idS ks))) ∧ Below w.heap.size w w' := by
  have hR := Blk.new (w.alloc (.cells #[.slice A ks.length c] 31)) 36 (c8 noKey)
  rw [World.size_alloc] at hR
  have hb := ((Below.refl w.heap.size w).alloc (Nat.le_refl _) (.cells #[.slice A ks.length c] 31)).alloc (by simp) (.cells (c8 noKey) 36)
  have hB := ((Blk.new w 31 #[.slice A ks.length c]).alloc (.cells (c8 noKey) 36)).cell 0
  have hinK := hikey noKey rfl
  match ks, hr with
  | [], hr =>
    have nR := hR.rowed (c8 noKey)
    go_enter Try.func40, Try.ntmps40
    go_wp2_with (refine wpList_store_rowTo rfl 36 _ _ rfl rfl (w.heap.size + 1) (c8 noKey) rfl rfl 36 (c8 noKey) hR hinK rfl (c8_one _) ?_)
    refine bodyPost_ret (v := .agg (c8 noKey)) ?_ rfl ?_
    · exact results_cell_row Try.results40 _ _ (w.heap.size + 1) 36 (c8 noKey) (0, 0) _ rfl nR Try.underlying36 rfl hinK
    exact ⟨rfl, below_setRow hb (by omega) _⟩
  | k :: r, hr =>
    obtain ⟨hl, hr2⟩ := hr
    have hk : k.length = 32 := hl k (by simp)
    obtain ⟨bb, o, rfl, hbb, hrg⟩ := hr2 (by simp)
    have hrg0 := hrg 0 (by simp)
    rw [Nat.zero_mul, Nat.add_zero] at hrg0
    have hrg1 : ((w.alloc (.cells #[.slice (some ⟨bb, o, none⟩) (k :: r).length c] 31)).alloc (.cells (c8 noKey) 36)).rangeAt bb o (c8 k).toList := fun j v hj => (hb.cell (p := ⟨bb, o + j, none⟩) hbb).trans (hrg0 j v hj)
    have hikl : (Try.prog.info? 36).map (·.size) = some (c8 k).toList.length := by rw [Array.length_toList]; exact hikey k hk
    obtain ⟨n, hn⟩ : ∃ n, (k :: r).length = n := ⟨_, rfl⟩
    have hn1 : 0 < n := by rw [← hn]; simp
    have n0 : ((n : Int) == 0) = false := by rw [beq_eq_false_iff_ne]; omega
    have n1 : ((n : Int) = 0) = False := eq_false (by omega)
    have n2 : (0 : Int) < (n : Int) := by omega
    have n3 : (n = 0) = False := eq_false (by omega)
    have n4 : 0 < n := hn1
    obtain ⟨S, hS⟩ : ∃ S, keyedS k namesB = S := ⟨_, rfl⟩
    have hid : idS (k :: r) = S := hS
    have hSl : S.length = 32 := by rw [← hS]; exact keyedS_length _ _
    have hiS := hikey S hSl
    rw [hid]
    rw [hn] at hrg1 hb hR hB ⊢
    obtain ⟨W0, hW0⟩ : ∃ W0, (w.alloc (.cells #[.slice (some ⟨bb, o, none⟩) n c] 31)).alloc (.cells (c8 noKey) 36) = W0 := ⟨_, rfl⟩
    have hz0 : W0.heap.size = w.heap.size + 2 := by rw [← hW0]; simp
    rw [hW0] at hrg1 hb hR hB
    have hka := hkeyed_any k W0.heap.size ⟨#[110, 97, 109, 101, 115]⟩ (W0.alloc (.cells #[.string ⟨#[110, 97, 109, 101, 115]⟩] 9)) hk (by simp) ((Blk.new W0 9 #[.string ⟨#[110, 97, 109, 101, 115]⟩]).cell 0) (by decide)
    rw [show keyedS k (bl ⟨#[110, 97, 109, 101, 115]⟩) = S from hS] at hka
    rw [hz0] at hka
    have HKA := Lib.hid hka
    clear hka hS hid hrg0 hrg hr2 hl hn
    go_enter Try.func40, Try.ntmps40
    refine wp_seq ?_
    generalize hQ1 : Exit.then _ _ = Q1
    go_wp2
    change Q1 _ _ ((w.alloc (.cells #[.slice (some ⟨bb, o, none⟩) n c] 31)).alloc (.cells (c8 noKey) 36))
    rw [hW0]
    clear hW0
    subst hQ1
    go_wp2_with (refine wpList_load_mid rfl 36 _ rfl bb o rfl (c8 k).toList _ hrg1 Try.underlying36 rfl hikl ?_)
    refine HKA.out.mono ?_
    rintro e w1 ⟨rfl, hb1⟩
    have hR1 := ((hR.alloc (.cells #[.string ⟨#[110, 97, 109, 101, 115]⟩] 9)).below hb1 (hR.alloc _).lt)
    have hb01 := (hb.alloc (by omega) (.cells #[.string ⟨#[110, 97, 109, 101, 115]⟩] 9)).trans (hb1.mono (by simp; omega))
    have nR := hR1.rowed (c8 S)
    go_wp2_with (refine wpList_store_rowTo rfl 36 _ _ rfl rfl (w.heap.size + 1) (c8 S) rfl rfl 36 (c8 noKey) hR1 hiS (by rw [c8_size, c8_size, hSl]; rfl) (c8_one _) ?_)
    refine bodyPost_ret (v := .agg (c8 S)) ?_ rfl ?_
    · exact results_cell_row Try.results40 _ _ (w.heap.size + 1) 36 (c8 S) (0, 0) _ rfl nR Try.underlying36 rfl hiS
    exact ⟨rfl, below_setRow hb01 (by omega) _⟩

set_option maxRecDepth 100000 in
set_option maxHeartbeats 2000000 in
theorem rid_any (A : Option Addr) (c : Nat) (ks : List (List UInt8)) (w : World) (hr : KeysIn w w.heap.size A ks) :
    Calls Try.prog 41 #[.agg #[.slice A ks.length c]] w fun e w' => e = .returned (.agg (c8 (idS ks))) ∧ Below w.heap.size w w' := by
  have hR := Blk.new (w.alloc (.cells #[.slice A ks.length c] 31)) 36 (c8 noKey)
  rw [World.size_alloc] at hR
  have hb := ((Below.refl w.heap.size w).alloc (Nat.le_refl _) (.cells #[.slice A ks.length c] 31)).alloc (by simp) (.cells (c8 noKey) 36)
  have hB := ((Blk.new w 31 #[.slice A ks.length c]).alloc (.cells (c8 noKey) 36)).cell 0
  have hinK := hikey noKey rfl
  match ks, hr with
  | [], hr =>
    have nR := hR.rowed (c8 noKey)
    go_enter Try.func41, Try.ntmps41
    go_wp2_with (refine wpList_store_rowTo rfl 36 _ _ rfl rfl (w.heap.size + 1) (c8 noKey) rfl rfl 36 (c8 noKey) hR hinK rfl (c8_one _) ?_)
    refine bodyPost_ret (v := .agg (c8 noKey)) ?_ rfl ?_
    · exact results_cell_row Try.results41 _ _ (w.heap.size + 1) 36 (c8 noKey) (0, 0) _ rfl nR Try.underlying36 rfl hinK
    exact ⟨rfl, below_setRow hb (by omega) _⟩
  | k :: r, hr =>
    obtain ⟨hl, hr2⟩ := hr
    have hk : k.length = 32 := hl k (by simp)
    obtain ⟨bb, o, rfl, hbb, hrg⟩ := hr2 (by simp)
    have hrg0 := hrg 0 (by simp)
    rw [Nat.zero_mul, Nat.add_zero] at hrg0
    have hrg1 : ((w.alloc (.cells #[.slice (some ⟨bb, o, none⟩) (k :: r).length c] 31)).alloc (.cells (c8 noKey) 36)).rangeAt bb o (c8 k).toList := fun j v hj => (hb.cell (p := ⟨bb, o + j, none⟩) hbb).trans (hrg0 j v hj)
    have hikl : (Try.prog.info? 36).map (·.size) = some (c8 k).toList.length := by rw [Array.length_toList]; exact hikey k hk
    obtain ⟨n, hn⟩ : ∃ n, (k :: r).length = n := ⟨_, rfl⟩
    have hn1 : 0 < n := by rw [← hn]; simp
    have n0 : ((n : Int) == 0) = false := by rw [beq_eq_false_iff_ne]; omega
    have n1 : ((n : Int) = 0) = False := eq_false (by omega)
    have n2 : (0 : Int) < (n : Int) := by omega
    have n3 : (n = 0) = False := eq_false (by omega)
    have n4 : 0 < n := hn1
    obtain ⟨S, hS⟩ : ∃ S, keyedS k namesB = S := ⟨_, rfl⟩
    have hid : idS (k :: r) = S := hS
    have hSl : S.length = 32 := by rw [← hS]; exact keyedS_length _ _
    have hiS := hikey S hSl
    rw [hid]
    rw [hn] at hrg1 hb hR hB ⊢
    obtain ⟨W0, hW0⟩ : ∃ W0, (w.alloc (.cells #[.slice (some ⟨bb, o, none⟩) n c] 31)).alloc (.cells (c8 noKey) 36) = W0 := ⟨_, rfl⟩
    have hz0 : W0.heap.size = w.heap.size + 2 := by rw [← hW0]; simp
    rw [hW0] at hrg1 hb hR hB
    have hka := of38_any k ⟨#[110, 97, 109, 101, 115]⟩ W0 hk (by decide)
    rw [show keyedS k (bl ⟨#[110, 97, 109, 101, 115]⟩) = S from hS] at hka
    have HKA := Lib.hid hka
    clear hka hS hid hrg0 hrg hr2 hl hn
    go_enter Try.func41, Try.ntmps41
    refine wp_seq ?_
    generalize hQ1 : Exit.then _ _ = Q1
    go_wp2
    change Q1 _ _ ((w.alloc (.cells #[.slice (some ⟨bb, o, none⟩) n c] 31)).alloc (.cells (c8 noKey) 36))
    rw [hW0]
    clear hW0
    subst hQ1
    go_wp2_with (refine wpList_load_mid rfl 36 _ rfl bb o rfl (c8 k).toList _ hrg1 Try.underlying36 rfl hikl ?_)
    refine HKA.out.mono ?_
    rintro e w1 ⟨rfl, hb1⟩
    have hR1 := (hR.below hb1 hR.lt)
    have hb01 := hb.trans (hb1.mono (by omega))
    have nR := hR1.rowed (c8 S)
    go_wp2_with (refine wpList_store_rowTo rfl 36 _ _ rfl rfl (w.heap.size + 1) (c8 S) rfl rfl 36 (c8 noKey) hR1 hiS (by rw [c8_size, c8_size, hSl]; rfl) (c8_one _) ?_)
    refine bodyPost_ret (v := .agg (c8 S)) ?_ rfl ?_
    · exact results_cell_row Try.results41 _ _ (w.heap.size + 1) 36 (c8 S) (0, 0) _ rfl nR Try.underlying36 rfl hiS
    exact ⟨rfl, below_setRow hb01 (by omega) _⟩

set_option maxRecDepth 100000 in
set_option maxHeartbeats 2000000 in
theorem cdig_any (A : Option Addr) (c : Nat) (ks : List (List UInt8)) (x : ByteArray) (w : World) (hr : KeysIn w w.heap.size A ks) (hx : x.size ≤ 35184372088832) :
    Calls Try.prog 47 #[.agg #[.slice A ks.length c], .string x] w fun e w' => e = .returned (.agg (c8 (keyedS (idS ks) (bl x)))) ∧ Below w.heap.size w w' := by
  have hR := Blk.new (w.alloc (.cells #[.slice A ks.length c] 31)) 85 (c8 noKey)
  rw [World.size_alloc] at hR
  have hb := ((Below.refl w.heap.size w).alloc (Nat.le_refl _) (.cells #[.slice A ks.length c] 31)).alloc (by simp) (.cells (c8 noKey) 85)
  have hB := ((Blk.new w 31 #[.slice A ks.length c]).alloc (.cells (c8 noKey) 85)).cell 0
  obtain ⟨W0, hW0⟩ : ∃ W0, (w.alloc (.cells #[.slice A ks.length c] 31)).alloc (.cells (c8 noKey) 85) = W0 := ⟨_, rfl⟩
  have hz0 : W0.heap.size = w.heap.size + 2 := by rw [← hW0]; simp
  rw [hW0] at hb hR hB
  have hr0 := (hr.below hb).more hb.size
  have hid := kid_any A c ks W0 hr0
  obtain ⟨I, hI⟩ : ∃ I, idS ks = I := ⟨_, rfl⟩
  have hIl : I.length = 32 := by rw [← hI]; exact idS_length ks hr.1
  have hka := fun w1 : World => hkeyed_any I w1.heap.size x (w1.alloc (.cells #[.string x] 9)) hIl (by simp) ((Blk.new w1 9 #[.string x]).cell 0) hx
  rw [hI] at hid ⊢
  obtain ⟨S, hS⟩ : ∃ S, keyedS I (bl x) = S := ⟨_, rfl⟩
  have hSl : S.length = 32 := by rw [← hS]; exact keyedS_length _ _
  rw [hS] at hka ⊢
  have hiS := hidig S hSl
  have HID := Lib.hid hid
  have HKA := Lib.hid hka
  clear hka hS hid hI hr0 hr
  go_enter Try.func47, Try.ntmps47
  refine wp_seq ?_
  generalize hQ1 : Exit.then _ _ = Q1
  go_wp2
  change Q1 _ _ ((w.alloc (.cells #[.slice A ks.length c] 31)).alloc (.cells (c8 noKey) 85))
  rw [hW0]
  clear hW0
  subst hQ1
  go_wp2_with fail
  refine HID.out.mono ?_
  rintro e w1 ⟨rfl, hb1⟩
  go_wp2_with fail
  refine (HKA.out _).mono ?_
  rintro e w2 ⟨rfl, hb2⟩
  have hR1 := hR.below hb1 hR.lt
  have hR2 := (hR1.alloc (.cells #[.string x] 9)).below hb2 (hR1.alloc _).lt
  have hs1 := hb1.size
  have hb02 := ((hb.trans (hb1.mono (by omega))).alloc (by omega) (.cells #[.string x] 9)).trans (hb2.mono (by simp; omega))
  have nR := hR2.rowed (c8 S)
  go_wp2_with (refine wpList_store_rowTo rfl 85 _ _ rfl rfl (w.heap.size + 1) (c8 S) rfl rfl 85 (c8 noKey) hR2 hiS (by rw [c8_size, c8_size, hSl]; rfl) (c8_one _) ?_)
  refine bodyPost_ret (v := .agg (c8 S)) ?_ rfl ?_
  · exact results_cell_row Try.results47 _ _ (w.heap.size + 1) 85 (c8 S) (0, 0) _ rfl nR Try.underlying85 rfl hiS
  exact ⟨rfl, below_setRow hb02 (by omega) _⟩

set_option maxRecDepth 100000 in
set_option maxHeartbeats 2000000 in
theorem rdig_any (A : Option Addr) (c : Nat) (ks : List (List UInt8)) (x : ByteArray) (w : World) (hr : KeysIn w w.heap.size A ks) (hx : x.size ≤ 35184372088832) :
    Calls Try.prog 49 #[.agg #[.slice A ks.length c], .string x] w fun e w' => e = .returned (.agg (c8 (keyedS (idS ks) (bl x)))) ∧ Below w.heap.size w w' := by
  have hR := Blk.new (w.alloc (.cells #[.slice A ks.length c] 31)) 85 (c8 noKey)
  rw [World.size_alloc] at hR
  have hb := ((Below.refl w.heap.size w).alloc (Nat.le_refl _) (.cells #[.slice A ks.length c] 31)).alloc (by simp) (.cells (c8 noKey) 85)
  have hB := ((Blk.new w 31 #[.slice A ks.length c]).alloc (.cells (c8 noKey) 85)).cell 0
  obtain ⟨W0, hW0⟩ : ∃ W0, (w.alloc (.cells #[.slice A ks.length c] 31)).alloc (.cells (c8 noKey) 85) = W0 := ⟨_, rfl⟩
  have hz0 : W0.heap.size = w.heap.size + 2 := by rw [← hW0]; simp
  rw [hW0] at hb hR hB
  have hr0 := (hr.below hb).more hb.size
  have hid := rid_any A c ks W0 hr0
  obtain ⟨I, hI⟩ : ∃ I, idS ks = I := ⟨_, rfl⟩
  have hIl : I.length = 32 := by rw [← hI]; exact idS_length ks hr.1
  have hka := fun w1 : World => rkeyed_any I w1.heap.size x (w1.alloc (.cells #[.string x] 9)) hIl (by simp) ((Blk.new w1 9 #[.string x]).cell 0) hx
  rw [hI] at hid ⊢
  obtain ⟨S, hS⟩ : ∃ S, keyedS I (bl x) = S := ⟨_, rfl⟩
  have hSl : S.length = 32 := by rw [← hS]; exact keyedS_length _ _
  rw [hS] at hka ⊢
  have hiS := hidig S hSl
  have HID := Lib.hid hid
  have HKA := Lib.hid hka
  clear hka hS hid hI hr0 hr
  go_enter Try.func49, Try.ntmps49
  refine wp_seq ?_
  generalize hQ1 : Exit.then _ _ = Q1
  go_wp2
  change Q1 _ _ ((w.alloc (.cells #[.slice A ks.length c] 31)).alloc (.cells (c8 noKey) 85))
  rw [hW0]
  clear hW0
  subst hQ1
  go_wp2_with fail
  refine HID.out.mono ?_
  rintro e w1 ⟨rfl, hb1⟩
  go_wp2_with fail
  refine (HKA.out _).mono ?_
  rintro e w2 ⟨rfl, hb2⟩
  have hR1 := hR.below hb1 hR.lt
  have hR2 := (hR1.alloc (.cells #[.string x] 9)).below hb2 (hR1.alloc _).lt
  have hs1 := hb1.size
  have hb02 := ((hb.trans (hb1.mono (by omega))).alloc (by omega) (.cells #[.string x] 9)).trans (hb2.mono (by simp; omega))
  have nR := hR2.rowed (c8 S)
  go_wp2_with (refine wpList_store_rowTo rfl 85 _ _ rfl rfl (w.heap.size + 1) (c8 S) rfl rfl 85 (c8 noKey) hR2 hiS (by rw [c8_size, c8_size, hSl]; rfl) (c8_one _) ?_)
  refine bodyPost_ret (v := .agg (c8 S)) ?_ rfl ?_
  · exact results_cell_row Try.results49 _ _ (w.heap.size + 1) 85 (c8 S) (0, 0) _ rfl nR Try.underlying85 rfl hiS
  exact ⟨rfl, below_setRow hb02 (by omega) _⟩

set_option maxRecDepth 100000 in
set_option maxHeartbeats 2000000 in
theorem cname_any (A : Option Addr) (c : Nat) (ks : List (List UInt8)) (x : ByteArray) (w : World) (hr : KeysIn w w.heap.size A ks) (hx : x.size ≤ 35184372088832) :
    Calls Try.prog 19 #[.agg #[.slice A ks.length c], .string x] w fun e w' => e = .returned (.string ⟨(hexS (keyedS (idS ks) (bl x))).toArray⟩) ∧ Below w.heap.size w w' := by
  have hb := (Below.refl w.heap.size w).alloc (Nat.le_refl _) (.cells #[.slice A ks.length c] 31)
  have hid := cdig_any A c ks x (w.alloc (.cells #[.slice A ks.length c] 31)) ((hr.below hb).more hb.size) hx
  have hl := keyedS_length (idS ks) (bl x)
  generalize keyedS (idS ks) (bl x) = S at *
  have hh := fun w => hhex_any S w hl
  have HID := Lib.hid hid
  have HH := Lib.hid hh
  clear hid hh hr
  generalize hexS S = X at *
  go_enter Try.func19, Try.ntmps19
  go_wp2_with fail
  refine HID.out.mono ?_
  rintro e w1 ⟨rfl, hb1⟩
  go_wp2_with fail
  refine (HH.out _).mono ?_
  rintro e w2 ⟨rfl, hb2⟩
  have hb01 := hb.trans (hb1.mono (by simp))
  go_wp2
  go_ret
  exact ⟨rfl, hb01.trans (hb2.mono hb01.size)⟩

set_option maxRecDepth 100000 in
set_option maxHeartbeats 2000000 in
theorem rname39_any (A : Option Addr) (c : Nat) (ks : List (List UInt8)) (x : ByteArray) (w : World) (hr : KeysIn w w.heap.size A ks) (hx : x.size ≤ 35184372088832) :
    Calls Try.prog 20 #[.agg #[.slice A ks.length c], .string x] w fun e w' => e = .returned (.string ⟨(hexS (keyedS (idS ks) (bl x))).toArray⟩) ∧ Below w.heap.size w w' := by
  have hb := (Below.refl w.heap.size w).alloc (Nat.le_refl _) (.cells #[.slice A ks.length c] 31)
  have hid := rdig_any A c ks x (w.alloc (.cells #[.slice A ks.length c] 31)) ((hr.below hb).more hb.size) hx
  have hl := keyedS_length (idS ks) (bl x)
  generalize keyedS (idS ks) (bl x) = S at *
  have hh := fun w => rhex_any S w hl
  have HID := Lib.hid hid
  have HH := Lib.hid hh
  clear hid hh hr
  generalize hexS S = X at *
  go_enter Try.func20, Try.ntmps20
  go_wp2_with fail
  refine HID.out.mono ?_
  rintro e w1 ⟨rfl, hb1⟩
  go_wp2_with fail
  refine (HH.out _).mono ?_
  rintro e w2 ⟨rfl, hb2⟩
  have hb01 := hb.trans (hb1.mono (by simp))
  go_wp2
  go_ret
  exact ⟨rfl, hb01.trans (hb2.mono hb01.size)⟩
end Go.Proofs.Ytncoghoeeefjhaa
