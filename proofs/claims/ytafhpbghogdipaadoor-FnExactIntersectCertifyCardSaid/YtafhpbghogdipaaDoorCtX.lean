/- Ct1 Ct2 Ct3 Ct4 Ct5 Ct6 CtF (merge.py). -/
import Derived.Test.YtafhpbghogdipaaDoorIn4
import Derived.Shelf.Spec.TrailingZeros
import Derived.Test.YtafhpbghogdipaaDoorCoX
import Derived.Deep.RegionHeld3
import Derived.Deep.RegionLaw
import Derived.Deep.AppendLies
import Derived.LaidMore
import Derived.Stop.LaidErr
import Derived.Shelf.Vars
import Derived.Lib.LaidTab
import Derived.Stop.Joined
/- The certificate: TrailingZeros; the plain law. -/
namespace Go.Proofs.YtafhpbghogdipaaDoor
open Go.RowKit
set_option maxHeartbeats 4000000
set_option maxRecDepth 100000
set_option linter.unusedVariables false

theorem tz64_walk (x k idx : Nat) (w : World) (hx0 : ((x : Int) == 0) = false)
    (key : IntKind.u64.wrap (bits BinOp.and IntKind.u64 (x : Int) (IntKind.u64.wrap (-(x : Int))) * 285870213051353865) / 288230376151711744 = (idx : Int))
    (hi : idx < 64) (hk : k < 64) (hcell : w.cell? ⟨3, idx, none⟩ = some (.int .u8 k)) :
    Calls Tryd.prog 40 #[.int .u64 x] w fun e w' => e = .returned (.int .i64 k) ∧ w' = w := by
  go_enter Tryd.func40, Tryd.ntmps40
  go_wp2_with (simp only [key])
  go_ret
  exact ⟨rfl, rfl⟩
theorem tz_any (x : Nat) (hx0 : x ≠ 0) (hx : x < 64) (w : World) (hT : TabAt 3 Lib.deBruijn64tab w) :
    Calls Tryd.prog 26 #[.int .u64 x] w fun e w' => e = .returned (.int .i64 (Lib.ctz 64 x)) ∧ w' = w := by
  obtain ⟨hlow, hk⟩ := Lib.lowest_bit 64 x hx0 (by omega)
  obtain ⟨hi, htab⟩ := Lib.deBruijn64_at _ hk
  have hcell := hT _ hi
  rw [htab] at hcell
  have hc := tz64_walk x _ _ w (by simp; omega) (tz64_key x _ (by omega) hx0 hlow) hi hk hcell
  have HC := Lib.hid hc
  clear hc hcell htab hi hk hlow
  generalize Lib.ctz 64 x = z at HC
  go_enter Tryd.func26, Tryd.ntmps26
  go_wp2_with (go_at_call 40; refine HC.out.mono ?_; rintro e w' ⟨rfl, rfl⟩)
  go_ret
  exact ⟨rfl, rfl⟩

/-- A mask's entry in the certificate. -/
def cv (x : Int) : Int := (Lib.ctz 64 x.toNat : Int) + 1
theorem head_mask : ∀ m : Nat, m < 64 → ∀ k : Nat, k < 64 → ((m &&& k) == 0) = true ∨ (interL (ofTo m 6) (ofTo k 6)).getD 0 0 = (Lib.ctz 64 (m &&& k) : Int) + 1 := by decide +kernel
theorem head0 {a b : List Int} (ha : setB a = true) (hb : setB b = true) (h : ((mkS a &&& mkS b) == 0) = false) : (interL a b).getD 0 0 = cv (bits .and .u64 ((mkS a : Nat) : Int) ((mkS b : Nat) : Int)) := by
  have h1 := head_mask _ (mk_small ha) _ (mk_small hb)
  rw [← set_canon ha, ← set_canon hb, h] at h1
  rw [and_mask _ (mk_small ha) _ (mk_small hb)]
  rcases h1 with h1 | h1
  · cases h1
  · exact h1
/-- The heads of what zs has in common with the first k lists. -/
def hdRow (zs : List Int) (gss : List (List Int)) : Nat → List Int
  | 0 => []
  | k + 1 => hdRow zs gss k ++ [(interL zs (rw_ gss k)).getD 0 0]
def hdAll (fss gss : List (List Int)) (ng : Nat) : Nat → List Int
  | 0 => []
  | i + 1 => hdAll fss gss ng i ++ hdRow (rw_ fss i) gss ng
theorem hdRow_len (zs : List Int) (gss : List (List Int)) : ∀ k, (hdRow zs gss k).length = k
  | 0 => rfl
  | k + 1 => by simp [hdRow, hdRow_len zs gss k]
theorem hdAll_len (fss gss : List (List Int)) (ng : Nat) : ∀ i, (hdAll fss gss ng i).length = i * ng
  | 0 => by simp [hdAll]
  | i + 1 => by simp [hdAll, hdAll_len fss gss ng i, hdRow_len, Nat.add_mul]
theorem hit_at {gss : List (List Int)} {zs : List Int} {ng k : Nat} (hk : k < ng) (h : hitTo gss zs ng = true) : (((interL (rw_ gss k) zs).length : Int) == 0) = false := by
  cases hc : (((interL (rw_ gss k) zs).length : Int) == 0)
  · rfl
  · rw [hit_no hk hc] at h; cases h
theorem met_at {fss gss : List (List Int)} {ng nf i : Nat} (hi : i < nf) (h : metTo fss gss ng nf = true) : hitTo gss (rw_ fss i) ng = true := by
  cases hc : hitTo gss (rw_ fss i) ng
  · rw [met_no hi hc] at h; cases h
  · rfl
theorem fam_setr {gss : List (List Int)} {ng k : Nat} (hk : k < ng) (hg : famTo gss ng = true) : setB (rw_ gss k) = true := fam_set hk hg
theorem pair_mask {gss : List (List Int)} {zs : List Int} {ng k : Nat} (hz : setB zs = true) (hk : k < ng) (hg : famTo gss ng = true) (h : hitTo gss zs ng = true) : ((mkS zs &&& mkS (rw_ gss k)) == 0) = false := by
  have h1 := hit_at hk h
  rw [inter0 (fam_setr hk hg) hz, Nat.and_comm] at h1
  exact h1
theorem pair_pos {gss : List (List Int)} {zs : List Int} {ng k : Nat} (hz : setB zs = true) (hk : k < ng) (hg : famTo gss ng = true) (h : hitTo gss zs ng = true) : 0 < (interL zs (rw_ gss k)).length := by
  have h1 := pair_mask hz hk hg h
  rw [← inter0 hz (fam_setr hk hg)]  at h1
  simp at h1
  exact List.length_pos_iff.2 h1
theorem hd_row {fss gss : List (List Int)} {ng i : Nat} (hi : setB (rw_ fss i) = true) (hg : famTo gss ng = true) (h : hitTo gss (rw_ fss i) ng = true) : ∀ k, k ≤ ng → hdRow (rw_ fss i) gss k = (rowK ((mAt fss i : Nat) : Int) (mI gss ng) k).map cv
  | 0, _ => by simp [hdRow, rowK]
  | k + 1, hk => by
    have e : mAt gss k = mkS (rw_ gss k) := rfl
    have e2 : mAt fss i = mkS (rw_ fss i) := rfl
    rw [hdRow, hd_row hi hg h k (by omega), rowK_succ, List.map_append, head0 hi (fam_setr (by omega) hg) (pair_mask hi (by omega) hg h), mI_at gss (by omega), e, e2]
    rfl
theorem hd_all {fss gss : List (List Int)} {nf ng : Nat} (hf : famTo fss nf = true) (hg : famTo gss ng = true) (h : metTo fss gss ng nf = true) : ∀ i, i ≤ nf → hdAll fss gss ng i = (catR (rowsF (mI fss nf) (mI gss ng) ng) i).map cv
  | 0, _ => by simp [hdAll, catR]
  | i + 1, hi => by
    rw [hdAll, hd_all hf hg h i (by omega), catR, List.map_append, hd_row (fam_setr (by omega) hf) hg (met_at (by omega) h) ng (Nat.le_refl _)]
    rw [rowsF, mI_at fss (by omega)]
/-- The certificate. -/
def certL (fss gss : List (List Int)) (nf ng : Nat) : List Int := if meetB fss gss nf ng then hdAll fss gss ng nf else []
theorem cert_len {fss gss : List (List Int)} {nf ng : Nat} (hnf : fss.length = nf) (hng : gss.length = ng) : (certL fss gss nf ng).length ≤ 400 := by
  unfold certL
  split
  · rename_i h
    simp only [meetB, Bool.and_eq_true] at h
    have h1 := (famB_to h.1.1).1
    have h2 := (famB_to h.1.2).1
    rw [hdAll_len]
    exact Nat.le_trans (Nat.mul_le_mul (by omega : nf ≤ 20) (by omega : ng ≤ 20)) (by decide)
  · simp
end Go.Proofs.YtafhpbghogdipaaDoor

/- Marks written into copies, and read back. -/
namespace Go.Proofs.YtafhpbghogdipaaDoor
open Go.RowKit
set_option maxHeartbeats 8000000
set_option maxRecDepth 100000
set_option linter.unusedVariables false

/-- Only integers, only in blocks between lo and hi, have turned. -/
structure Mks (lo hi : Nat) (w w' : World) : Prop where
  int : ∀ (a : Addr) (u : Int), w.cell? a = some (.int .i64 u) → ∃ u', w'.cell? a = some (.int .i64 u')
  frz : ∀ a : Addr, w'.frozen? a = w.frozen? a
  blk : ∀ b : Nat, (b ≤ lo ∨ hi ≤ b) → w'.heap[b]? = w.heap[b]?
  grw : Below lo w w'
  siz : w'.heap.size = w.heap.size
theorem Mks.refl (lo hi : Nat) (w : World) : Mks lo hi w w := ⟨fun _ u h => ⟨u, h⟩, fun _ => rfl, fun _ _ => rfl, Below.refl _ _, rfl⟩
theorem Mks.trans {lo hi : Nat} {w w' w'' : World} (h : Mks lo hi w w') (h' : Mks lo hi w' w'') : Mks lo hi w w'' :=
  ⟨fun a u e => by obtain ⟨u1, e1⟩ := h.int a u e; exact h'.int a u1 e1, fun a => (h'.frz a).trans (h.frz a), fun b hb => (h'.blk b hb).trans (h.blk b hb), h.grw.trans h'.grw, h'.siz.trans h.siz⟩
theorem Mks.put {lo hi g : Nat} {w w' : World} (h : Mks lo hi w w') (h1 : lo < g) (h2 : g < hi) {i : Nat} {u : Int} (hc : w'.cell? ⟨g, i, none⟩ = some (.int .i64 u)) (z : Int) : Mks lo hi w (w'.setCell ⟨g, i, none⟩ (.int .i64 z)) := by
  refine ⟨fun a v e => ?_, fun a => ?_, fun b hb => ?_, h.grw.setCell (Nat.le_of_lt h1) _, ?_⟩
  · obtain ⟨v1, e1⟩ := h.int a v e
    by_cases ha : a = ⟨g, i, none⟩
    · subst ha
      exact ⟨z, World.cell?_setCell_same _ _ _ (by rw [hc])⟩
    · rw [World.cell?_setCell_other _ _ _ _ (fun e => ha e.symm)]
      exact ⟨v1, e1⟩
  · rw [World.frozen?_setCell]
    exact h.frz a
  · rw [Below.heap_setCell _ _ _ b (by show b ≠ g; omega)]
    exact h.blk b hb
  · have := h.siz
    simpa using this
theorem Mks.drewN {lo hi : Nat} {w w' : World} (h : Mks lo hi w w') (m : Nat) : Mks lo hi w (w'.drewN m) := ⟨h.int, h.frz, h.blk, below_drewN h.grw m, h.siz⟩

theorem mark_zero (A : Option Addr) (c : Nat) (k : Int) (w : World) : Calls Tryd.prog 12 #[.slice A 0 c, .int .i64 k] w fun e w' => e = .returned (.int .i64 k) ∧ w' = w := by
  go_enter Tryd.func12, Tryd.ntmps12
  go_wp2
  go_loopw [1, 5] (fun q i wr => q = .int .i64 k ∧ i = .int .i64 0 ∧ wr = w) (fun _ _ _ => 0)
  case atStart => exact ⟨rfl, rfl, rfl⟩
  case round =>
    obtain ⟨rfl, rfl, rfl⟩ := hrel
    go_wp2
    go_ret
    exact ⟨rfl, rfl⟩
theorem held_zero (A : Option Addr) (c : Nat) (k : Int) (w : World) : Calls Tryd.prog 13 #[.slice A 0 c, .int .i64 k] w fun e w' => e = .returned (.int .i64 k) ∧ w' = w := by
  go_enter Tryd.func13, Tryd.ntmps13
  go_wp2
  go_loopw [1, 5] (fun q i wr => q = .int .i64 k ∧ i = .int .i64 0 ∧ wr = w) (fun _ _ _ => 0)
  case atStart => exact ⟨rfl, rfl, rfl⟩
  case round =>
    obtain ⟨rfl, rfl, rfl⟩ := hrel
    go_wp2
    go_ret
    exact ⟨rfl, rfl⟩
theorem mark_is (lo hi g n c : Nat) (k : Int) (w : World) (h1 : lo < g) (h2 : g < hi) (hk0 : 0 ≤ k) (hk1 : k ≤ 1125899906842624) (hn : n ≤ 1048576) (hc : ∀ i : Nat, i < n → ∃ u, w.cell? ⟨g, i, none⟩ = some (.int .i64 u)) (hf : ∀ i : Nat, w.frozen? ⟨g, i, none⟩ = false) :
    Calls Tryd.prog 12 #[.slice (some ⟨g, 0, none⟩) n c, .int .i64 k] w fun e w' => e = .returned (.int .i64 (k + n)) ∧ Mks lo hi w w' ∧ (∀ i : Nat, i < n → w'.cell? ⟨g, i, none⟩ = some (.int .i64 (k + i))) := by
  have HC0 := Lib.hid hc
  have HF0 := Lib.hid hf
  clear hc hf
  go_enter Tryd.func12, Tryd.ntmps12
  go_wp2
  go_loopw [1, 5] (fun q i wr => ∃ j : Nat, j ≤ n ∧ i = .int .i64 j ∧ q = .int .i64 (k + j) ∧ Mks lo hi w wr ∧ (∀ i : Nat, i < j → wr.cell? ⟨g, i, none⟩ = some (.int .i64 (k + i)))) (fun _ i _ => n - (intOf i).toNat)
  case atStart => exact ⟨0, Nat.zero_le _, rfl, by simp, Mks.refl _ _ _, fun i h => absurd h (by omega)⟩
  case round =>
    obtain ⟨j, hj, rfl, rfl, M, hat⟩ := hrel
    have HM := Lib.hid M
    have HA := Lib.hid hat
    by_cases hjn : j < n
    · have i1 : (j : Int) < n := by omega
      obtain ⟨u, hu⟩ : ∃ u, wr.cell? ⟨g, j, none⟩ = some (.int .i64 u) := by
        obtain ⟨u0, h0⟩ := HC0.out j hjn
        exact M.int _ _ h0
      have hfj : wr.frozen? ⟨g, j, none⟩ = false := (M.frz _).trans (HF0.out j)
      have HU := Lib.hid hu
      have j1 : IntKind.i64.wrap (k + j + 1) = k + j + 1 := IntWalk.i64_in _ (by omega)
      have J1 := Lib.hid j1
      clear M hat
      go_wp2
      go_roundw
      case rel =>
        refine ⟨j + 1, by omega, by go_num, by congr 1; omega, HM.out.put h1 h2 HU.out _, fun i hi => ?_⟩
        by_cases hij : i = j
        · subst hij
          rw [World.cell?_setCell_same _ _ _ (by rw [hu])]
        · rw [World.cell?_setCell_other _ _ _ _ (by intro e; cases e; exact hij rfl)]
          exact HA.out i (by omega)
      case measure => simp [intOf]; omega
    · obtain rfl : j = n := by omega
      clear M hat
      go_wp2
      go_ret
      exact ⟨rfl, HM.out, HA.out⟩
theorem held_is (g n c : Nat) (k : Int) (w : World) (hk0 : 0 ≤ k) (hk1 : k ≤ 1000) (hn : n ≤ 1048576) (hc : ∀ i : Nat, i < n → w.cell? ⟨g, i, none⟩ = some (.int .i64 (k + i))) :
    Calls Tryd.prog 13 #[.slice (some ⟨g, 0, none⟩) n c, .int .i64 k] w fun e w' => e = .returned (.int .i64 (k + n)) ∧ w' = w := by
  have HC := Lib.hid hc
  clear hc
  go_enter Tryd.func13, Tryd.ntmps13
  go_wp2
  go_loopw [1, 5] (fun q i wr => ∃ j : Nat, j ≤ n ∧ i = .int .i64 j ∧ q = .int .i64 (k + j) ∧ wr = w) (fun _ i _ => n - (intOf i).toNat)
  case atStart => exact ⟨0, Nat.zero_le _, rfl, by simp, rfl⟩
  case round =>
    obtain ⟨j, hj, rfl, rfl, rfl⟩ := hrel
    by_cases hjn : j < n
    · have i1 : (j : Int) < n := by omega
      have hu := HC.out j hjn
      have j1 : IntKind.i64.wrap (k + j + 1) = k + j + 1 := IntWalk.i64_in _ (by omega)
      have J1 := Lib.hid j1
      go_wp2
      go_roundw
      case rel => exact ⟨j + 1, by omega, by go_num, by congr 1; omega, by first | trivial | rfl⟩
      case measure => simp [intOf]; omega
    · obtain rfl : j = n := by omega
      go_wp2
      go_ret
      exact ⟨rfl, rfl⟩

/-- The rows of a copy, in blocks between h and hi. -/
def RowsIn (w : World) (h hi n : Nat) (zss : List (List Int)) : Prop := ∃ xs : List Value, w.heap[h]? = some (.cells xs.toArray 24 (0, 0)) ∧ xs.length = n ∧
  ∀ j, j < n → ∃ b, h < b ∧ b < hi ∧ xs[j]? = some (.slice (some ⟨b, 0, none⟩) (ln zss j) (ln zss j)) ∧ (∀ i, i < ln zss j → ∃ u, w.cell? ⟨b, i, none⟩ = some (.int .i64 u)) ∧ (∀ i, w.frozen? ⟨b, i, none⟩ = false) ∧ b < w.heap.size
theorem RowsIn.of {w : World} {h n : Nat} {zss : List (List Int)} (m : MatP w h zss n n) : RowsIn w h w.heap.size n zss := by
  obtain ⟨xs, h1, h2, h3, _⟩ := m
  refine ⟨xs, h1, h2, fun j hj => ?_⟩
  obtain ⟨b, e1, e2, e3⟩ := h3 j hj
  exact ⟨b, e1, blk_lt e3, e2, fun i hi => ⟨(rw_ zss j).getD i 0, by rw [blk_cell e3]; have : i < (rw_ zss j).length := hi; simp [this]⟩, fun i => blk_free e3 i, blk_lt e3⟩
theorem RowsIn.keep {w w' : World} {h hi n : Nat} {zss : List (List Int)} (m : RowsIn w h hi n zss) (hk : ∀ b, b < w.heap.size → w'.heap[b]? = w.heap[b]?) (hs : w.heap.size ≤ w'.heap.size) : RowsIn w' h hi n zss := by
  obtain ⟨xs, h1, h2, h3⟩ := m
  refine ⟨xs, (hk h (blk_lt h1)).trans h1, h2, fun j hj => ?_⟩
  obtain ⟨b, e1, e2, e3, e4, e5, e6⟩ := h3 j hj
  refine ⟨b, e1, e2, e3, fun i hi => ?_, fun i => ?_, by omega⟩
  · obtain ⟨u, hu⟩ := e4 i hi
    exact ⟨u, (World.cell?_of_block (hk b e6)).trans hu⟩
  · have := e5 i
    unfold World.frozen? at this ⊢
    rw [hk b e6]
    exact this
theorem RowsIn.below {w w' : World} {h hi n K : Nat} {zss : List (List Int)} (m : RowsIn w h hi n zss) (hb : Below K w w') (hK : w.heap.size ≤ K) : RowsIn w' h hi n zss := m.keep (fun b hb' => hb.block b (by omega)) hb.size
theorem RowsIn.bel {w w' : World} {h hi n : Nat} {zss : List (List Int)} (m : RowsIn w h hi n zss) (hb : Bel w.heap.size w w') : RowsIn w' h hi n zss := m.keep (fun b hb' => hb.block b hb') hb.size
theorem RowsIn.mks {w w' : World} {h hi n lo hi' : Nat} {zss : List (List Int)} (m : RowsIn w h hi n zss) (hm : Mks lo hi' w w') (hl : h ≤ lo ∨ hi' ≤ h) : RowsIn w' h hi n zss := by
  obtain ⟨xs, h1, h2, h3⟩ := m
  refine ⟨xs, (hm.blk h hl).trans h1, h2, fun j hj => ?_⟩
  obtain ⟨b, e1, e2, e3, e4, e5, e6⟩ := h3 j hj
  exact ⟨b, e1, e2, e3, fun i hi => by obtain ⟨u, hu⟩ := e4 i hi; exact hm.int _ _ hu, fun i => (hm.frz _).trans (e5 i), by rw [hm.siz]; exact e6⟩
theorem RowsIn.get {w : World} {h hi n : Nat} {zss : List (List Int)} (m : RowsIn w h hi n zss) {j : Nat} (hj : j < n) : ∃ b, h < b ∧ b < hi ∧ w.cell? ⟨h, j, none⟩ = some (.slice (some ⟨b, 0, none⟩) (ln zss j) (ln zss j)) ∧ (∀ i, i < ln zss j → ∃ u, w.cell? ⟨b, i, none⟩ = some (.int .i64 u)) ∧ (∀ i, w.frozen? ⟨b, i, none⟩ = false) := by
  obtain ⟨xs, h1, h2, h3⟩ := m
  obtain ⟨b, e1, e2, e3, e4, e5, _⟩ := h3 j hj
  exact ⟨b, e1, e2, (blk_cell h1 j).trans e3, e4, e5⟩
theorem RowsIn.lt {w : World} {h hi n : Nat} {zss : List (List Int)} (m : RowsIn w h hi n zss) : h < w.heap.size := by
  obtain ⟨xs, h1, _⟩ := m
  exact blk_lt h1
theorem markSS_is (h hi n c : Nat) (zss : List (List Int)) (k : Int) (w : World) (hR : RowsIn w h hi n zss) (hz : SzOk zss n) (hk0 : 0 ≤ k) (hk1 : k ≤ 2199023255552) :
    Calls Tryd.prog 11 #[.slice (some ⟨h, 0, none⟩) n c, .int .i64 k] w fun e w' => ∃ r : Int, e = .returned (.int .i64 r) ∧ 0 ≤ r ∧ r ≤ k + 1099511627776 ∧ Mks h hi w w' := by
  have hn := hz.1
  have HR := Lib.hid hR
  have HZ := Lib.hid hz
  clear hR hz
  go_enter Tryd.func11, Tryd.ntmps11
  go_wp2
  go_loopw [1, 5] (fun q i wr => ∃ (j : Nat) (r : Int), j ≤ n ∧ i = .int .i64 j ∧ q = .int .i64 r ∧ 0 ≤ r ∧ r ≤ k + j * 1048576 ∧ Mks h hi w wr) (fun _ i _ => n - (intOf i).toNat)
  case atStart => exact ⟨0, k, Nat.zero_le _, rfl, rfl, hk0, by omega, Mks.refl _ _ _⟩
  case round =>
    obtain ⟨j, r, hj, rfl, rfl, hr0, hr1, M⟩ := hrel
    have HM := Lib.hid M
    by_cases hjn : j < n
    · have i1 : (j : Int) < n := by omega
      obtain ⟨b, b1, b2, hcell, hc, hf⟩ := (HR.out.mks M (.inl (Nat.le_refl _))).get hjn
      have hln := HZ.out.2 j hjn
      have HK := Lib.hid (mark_is h hi b (ln zss j) (ln zss j) r wr b1 b2 hr0 (by omega) hln hc hf)
      clear M hc hf
      generalize ln zss j = l at hcell hln HK
      go_wp2_with fail
      refine HK.out.mono ?_
      rintro e w1 ⟨rfl, M1, _⟩
      have HM1 := Lib.hid (HM.out.trans M1)
      clear M1
      go_wp2
      go_roundw
      case rel => exact ⟨j + 1, _, by omega, by go_num, rfl, by omega, by push_cast; omega, HM1.out⟩
      case measure => simp [intOf]; omega
    · obtain rfl : j = n := by omega
      clear M
      go_wp2
      go_ret
      exact ⟨_, rfl, hr0, by omega, HM.out⟩
end Go.Proofs.YtafhpbghogdipaaDoor

/- The reference's IntersectCertify. -/
namespace Go.Proofs.YtafhpbghogdipaaDoor
open Go.RowKit
set_option maxHeartbeats 16000000
set_option maxRecDepth 100000
set_option linter.unusedVariables false

theorem own_emptyc {w : World} {B : Nat} (hB : B ≤ w.heap.size) : OwnI (w.alloc (.cells #[] 3)) B (.slice (some ⟨w.heap.size, 0, none⟩) 0 0) [] := owns_empty w _ hB
theorem own_nilc (w : World) (B : Nat) : OwnI w B (.slice none 0 0) [] := World.ownsRow_nil w B 3 1
theorem own_keepc {w w' : World} {B K : Nat} {v : Value} {zs : List Int} (h : OwnI w B v zs) (hb : Below K w w') (hK : w.heap.size ≤ K) : OwnI w' B v zs := owns_below h hb hK
theorem append_int_run {W : World} {B : Nat} {v : Value} {zs : List Int} {q : Int} (hown : OwnI W B v zs) (hn : zs.length ≤ 10000000) (hbase : B ≤ W.heap.size) :
    ∃ v' w', (Builtin.append_ #[24, 24] 24 #[v, .slice (some ⟨W.heap.size, 0, none⟩) 1 1]).run Tryd.prog (W.alloc (.cells #[.int .i64 q] 3)) = .ok v' w' ∧ OwnI w' B v' (zs ++ [q]) ∧ Below B W w' := by
  obtain ⟨i0, hi, hz0, hz1, hz2⟩ := info_parts int_inf
  obtain ⟨v', w', hrun, ho', hg, _, _⟩ := run_append_own_at (P := Tryd.prog) (W.alloc (.cells #[.int .i64 q] 3)) B 24 24 3 i0 (.int .i64 0) 1 8 Tryd.underlying24 hi hz0 hz1 hz2 rfl (by omega) v zs.length _ (hown.alloc _) ⟨W.heap.size, 0, none⟩ 1 1 [.int .i64 q] rfl (by
      intro j u' hj
      have hj0 : j = 0 := by
        rcases Nat.eq_zero_or_pos j with h0 | h0
        · exact h0
        · rw [List.getElem?_eq_none (by simp; omega)] at hj; cases hj
      subst hj0
      simp at hj
      subst hj
      have := cell_of_row (W.alloc (.cells #[.int .i64 q] 3)) W.heap.size 0 #[.int .i64 q] 3 (0, 0) (heap_alloc_new W _)
      simp [Addr.add, this]) (by simp [Value.oneCell']) (by unfold maxLen; omega) (by omega) (by simp; omega)
  refine ⟨v', w', hrun, ?_, ((Below.refl B W).alloc hbase _).grown hg (by simp; omega) (fun k hk => (hown.lt k hk).1)⟩
  unfold OwnI
  simpa using ho'
theorem step_append_int {W : World} {ops : Array Oper} {o : Oper} {a : Act} {K : Act → World → Prop} {Q : Exit → Act → World → Prop} {E : Prop} (hw : Region.wanted o (yielded ops a.tmps) = true) (s x : Operand)
    (ho : o.op = .call { callee := .builtin .append, args := #[s, x], argTypes := #[24, 24] }) (hty : o.type = 24)
    (B : Nat) (v : Value) (zs : List Int) (q : Int) (hs : a.eval s = v) (hown : OwnI W B v zs) (hx : a.eval x = .slice (some ⟨W.heap.size, 0, none⟩) 1 1) (hn : zs.length ≤ 10000000) (hbase : B ≤ W.heap.size)
    (h : ∀ v' w', OwnI w' B v' (zs ++ [q]) → Below B W w' → K (a.put o.dst v') w') :
    if Region.wanted o (yielded ops a.tmps) = true then Oper.wp Tryd.prog o a (W.alloc (.cells #[.int .i64 q] 3)) K Q else E := by
  rw [if_pos hw]
  obtain ⟨v', w', hrun, ho', hb⟩ := append_int_run (q := q) hown hn hbase
  unfold Oper.wp execOp
  simp only [ho, hty, resolve, invoke, builtin, Sem.run_bind, Sem.run_pure, Result.andThen_ok, List.map_toArray, List.map_cons, List.map_nil, hs, hx, hrun]
  exact h v' w' ho' hb
/-- How the reference's call ends. -/
def CertS (zss yss : List (List Int)) (n n2 : Nat) (w : World) (e : Ending) (w' : World) : Prop := ∃ v, e = .returned (.tuple #[v, .bool (meetB zss yss n n2)]) ∧ OwnI w' w.heap.size v (certL zss yss n n2) ∧ Below w.heap.size w w'
theorem specCert_any (A : Option Addr) (n c : Nat) (zss : List (List Int)) (A2 : Option Addr) (n2 c2 : Nat) (yss : List (List Int)) (w : World) (h : Mat w w.heap.size A n zss) (hz : SzOk zss n) (h2 : Mat w w.heap.size A2 n2 yss) (hz2 : SzOk yss n2) :
    Calls Tryd.prog 6 #[.slice A n c, .slice A2 n2 c2] w (CertS zss yss n n2 w) := by
  have H0 := fun (W : World) (hb : Below w.heap.size w W) => specMeet_any A n c zss A2 n2 c2 yss W ((h.below hb).more hb.size) hz ((h2.below hb).more hb.size) hz2
  have HM := Lib.hid h
  have HM2 := Lib.hid h2
  have HZ := Lib.hid hz
  have HZ2 := Lib.hid hz2
  have hl := h.len
  have hl2 := h2.len
  have hn := hz.1
  have hn2 := hz2.1
  clear h h2 hz hz2
  obtain ⟨F, hF⟩ : ∃ F, F = CertS zss yss n n2 w := ⟨_, rfl⟩
  rw [← hF]
  have HF := Lib.hid hF
  clear hF
  obtain ⟨q, hq⟩ : ∃ q, q = meetB zss yss n n2 := ⟨_, rfl⟩
  rw [← hq] at H0
  have HQ := Lib.hid hq
  have H1 := Lib.hid H0
  clear hq H0
  have HO0 := Lib.hid (own_emptyc (w := w) (B := w.heap.size) (Nat.le_refl _))
  have HB0 := Lib.hid ((Below.refl w.heap.size w).alloc (Nat.le_refl _) (.cells #[] 3))
  go_enter Tryd.func6, Tryd.ntmps6
  go_wp2_with fail
  refine (H1.out _ HB0.out).mono ?_
  rintro e w1 ⟨rfl, hb1⟩
  have HO1 := Lib.hid (own_keepc HO0.out hb1 (Nat.le_refl _))
  have hb1' := HB0.out.trans (hb1.mono HB0.out.size)
  have HB1 := Lib.hid hb1'
  clear hb1 hb1'
  cases q
  · go_wp2
    rw [HF.out]
    refine ⟨_, by rw [← HQ.out]; rfl, ?_, HB1.out⟩
    unfold certL
    rw [← HQ.out]
    exact HO1.out
  have hmt : meetB zss yss n n2 = true := HQ.out.symm
  simp only [meetB, Bool.and_eq_true] at hmt
  have hf1 := (famB_to hmt.1.1).2
  have hf2 := (famB_to hmt.1.2).2
  have hk1 := (famB_to hmt.1.1).1
  have hk2 := (famB_to hmt.1.2).1
  rw [hl] at hf1 hk1
  rw [hl2] at hf2 hk2
  have HPos := Lib.hid (fun (i k : Nat) (hi : i < n) (hk : k < n2) => pair_pos (gss := yss) (zs := rw_ zss i) (fam_setr hi hf1) hk hf2 (met_at hi hmt.2))
  clear hmt hf1 hf2
  go_wp2_with fail
  go_loopw [6, 7] (fun u i wr => ∃ k : Nat, k ≤ n ∧ i = .int .i64 k ∧ OwnI wr w.heap.size u (hdAll zss yss n2 k) ∧ Below w.heap.size w wr) (fun _ i _ => n - (intOf i).toNat)
  case atStart => exact ⟨0, Nat.zero_le _, rfl, HO1.out, HB1.out⟩
  case round =>
    obtain ⟨k, hk, rfl, ho, hb⟩ := hrel
    have HO := Lib.hid ho
    have HB := Lib.hid hb
    clear ho hb
    by_cases hkn : k < n
    · have i1 : (k : Int) < n := by omega
      go_wp2_with fail
      go_loopw [6, 8] (fun u i wr => ∃ j : Nat, j ≤ n2 ∧ i = .int .i64 j ∧ OwnI wr w.heap.size u (hdAll zss yss n2 k ++ hdRow (rw_ zss k) yss j) ∧ Below w.heap.size w wr) (fun _ i _ => n2 - (intOf i).toNat)
      case atStart => exact ⟨0, Nat.zero_le _, rfl, by simpa [hdRow] using HO.out, HB.out⟩
      case round =>
        obtain ⟨j, hj, rfl, ho2, hbw⟩ := hrel
        have HO2 := Lib.hid ho2
        clear ho2
        have hsz := hbw.size
        by_cases hjn : j < n2
        · have i2 : (j : Int) < n2 := by omega
          obtain ⟨b, off, C, cc, g⟩ := (HM.out.below hbw).get hkn
          obtain ⟨b2, off2, C2, cc2, g2⟩ := (HM2.out.below hbw).get hjn
          obtain rfl := g.adr
          obtain rfl := g2.adr
          have hcell := g.cell
          have hcell2 := g2.cell
          have HC := Lib.hid (fun (y : World) (hy : Below wr.heap.size wr y) => l1Intersect_any C _ cc (rw_ zss k) C2 _ cc2 (rw_ yss j) y (((g.row.more hsz).below hy).more hy.size) rfl (HZ.out.2 k hkn) (((g2.row.more hsz).below hy).more hy.size) rfl (HZ2.out.2 j hjn))
          have hlt1 := World.block_lt_of_cell? _ _ hcell
          have hlt2 := World.block_lt_of_cell? _ _ hcell2
          have HK := Lib.hid (fun (y : World) (hy : Below wr.heap.size wr y) => (⟨hy, (hy.cell (p := ⟨b, off + k, none⟩) hlt1).trans hcell, (hy.cell (p := ⟨b2, off2 + j, none⟩) hlt2).trans hcell2⟩ : Below wr.heap.size wr y ∧ y.cell? ⟨b, off + k, none⟩ = some (.slice C (ln zss k) cc) ∧ y.cell? ⟨b2, off2 + j, none⟩ = some (.slice C2 (ln yss j) cc2)))
          have hpos := HPos.out k j hkn hjn
          have hlen : (hdAll zss yss n2 k ++ hdRow (rw_ zss k) yss j).length ≤ 10000000 := by
            rw [List.length_append, hdAll_len, hdRow_len]
            have := Nat.mul_le_mul (show k ≤ 20 by omega) (show n2 ≤ 20 by omega)
            omega
          have HNx := Lib.hid (show hdRow (rw_ zss k) yss (j + 1) = hdRow (rw_ zss k) yss j ++ [(interL (rw_ zss k) (rw_ yss j)).getD 0 0] from rfl)
          clear g g2
          have hx0 : ((interL (rw_ zss k) (rw_ yss j)).map (Value.int .i64))[0]? = some (.int .i64 ((interL (rw_ zss k) (rw_ yss j)).getD 0 0)) := by
            cases hI : interL (rw_ zss k) (rw_ yss j) with
            | nil => rw [hI] at hpos; simp at hpos
            | cons x l => simp
          have HX0 := Lib.hid hx0
          clear hx0
          generalize interL (rw_ zss k) (rw_ yss j) = xs at HC hpos HNx HX0
          generalize xs.getD 0 0 = z at HNx HX0
          generalize hL : hdAll zss yss n2 k ++ hdRow (rw_ zss k) yss j = L at HO2 hlen
          have HLL := Lib.hid hL
          clear hL
          go_wp2_with fail
          go_region_law (first
            | (rw [if_pos (by rfl)]; go_simp; go_at_call 21; refine (HC.out _ (by (repeat (first | (with_reducible exact Below.refl _ _) | (with_reducible assumption) | (with_reducible refine below_drewN ?_ _) | (with_reducible refine Below.drew ?_) | (with_reducible refine Below.alloc ?_ (by (first | omega | (show _ < _; omega) | (simp; omega) | (simp; done))) _) | (with_reducible refine Below.setCell ?_ (by (first | omega | (show _ < _; omega) | (simp; omega) | (simp; done))) _) | (with_reducible refine Below.trans ?_ (Below.mono (by with_reducible assumption) (by (first | omega | (show _ < _; omega) | (simp; omega) | (simp; done))))) | (with_reducible refine below_grown ?_ (by with_reducible assumption) (by (first | omega | (show _ < _; omega) | (simp; omega) | (simp; done))) (by (first | omega | (show _ < _; omega) | (simp; omega) | (simp; done)))))))).mono ?_; rintro e w3 ⟨v, rfl, ho3, hb3⟩; obtain ⟨A3, c3, rfl, h3a, h3b, hr3⟩ := owns_row ho3; obtain ⟨b3, off3, rfl, hb3lt, hc3⟩ := hr3.at_ HX0.out; rw [Nat.add_zero] at hc3; have hb3' : Below wr.heap.size wr w3 := ((Below.refl wr.heap.size wr).drew).trans hb3; have HO3 := Lib.hid (own_keepc HO2.out hb3' (Nat.le_refl _)); have HB3 := Lib.hid (hbw.trans (hb3'.mono hsz)); have hs3 : w.heap.size ≤ w3.heap.size := Nat.le_trans hsz hb3'.size; clear ho3 hb3 hr3 hb3')
            | (apply step_append_int (s := .tmp 27) (x := .tmp 39) (B := w.heap.size) (zs := L) (q := z); (focus rfl); (focus rfl); (focus rfl); (focus rfl); (focus (exact HO3.out)); (focus rfl); (focus omega); (focus omega); intro v2 w4 hown4 hb4; have HB4 := Lib.hid (HB3.out.trans hb4); have HO4 := Lib.hid hown4; clear hown4 hb4)
            | fail)
          all_goals go_wp2
          all_goals go_roundw
          all_goals first | exact ⟨j + 1, by omega, by go_num, by rw [HNx.out, ← List.append_assoc, HLL.out]; exact HO4.out, HB4.out⟩ | (simp [intOf]; omega)
        · obtain rfl : j = n2 := by omega
          go_wp2_with fail
          go_roundw
          case rel => exact ⟨k + 1, by omega, by go_num, HO2.out, hbw⟩
          case measure => simp [intOf]; omega
    · obtain rfl : k = n := by omega
      go_wp2_with fail
      rw [HF.out]
      refine ⟨_, by rw [← HQ.out]; rfl, ?_, HB.out⟩
      unfold certL
      rw [← HQ.out]
      exact HO.out
end Go.Proofs.YtafhpbghogdipaaDoor

/- impl.IntersectCertify around common: the lone parts. -/
namespace Go.Proofs.YtafhpbghogdipaaDoor
open Go.RowKit
set_option maxHeartbeats 8000000
set_option maxRecDepth 100000
set_option linter.unusedVariables false
set_option linter.unusedSimpArgs false

theorem cell_belc {w w' : World} (h : Bel w.heap.size w w') {b o : Nat} {v : Value} (hc : w.cell? ⟨b, o, none⟩ = some v) : w'.cell? ⟨b, o, none⟩ = some v :=
  (World.cell?_of_block (h.block b (by have := World.block_lt_of_cell? _ _ hc; simpa using this))).trans hc
theorem tab_bel {w w' : World} {g : Nat} {tab : List Nat} (h : TabAt g tab w) (hb : Bel w.heap.size w w') : TabAt g tab w' := fun j hj => cell_belc hb (h j hj)
theorem tab_below {w w' : World} {g : Nat} {tab : List Nat} (h : TabAt g tab w) (hb : Below w.heap.size w w') : TabAt g tab w' := fun j hj => (hb.cell (p := ⟨g, j, none⟩) (by have := World.block_lt_of_cell? _ _ (h j hj); simpa using this)).trans (h j hj)
/-- Each entry of the table of masks is a mask. -/
theorem row_masks {fss gss : List (List Int)} {ng i : Nat} (hi : mAt fss i < 64) (hg : famTo gss ng = true) : ∀ k, k ≤ ng → ∀ x ∈ rowK ((mAt fss i : Nat) : Int) (mI gss ng) k, ∃ m : Nat, m < 64 ∧ x = m
  | 0, _, x, hx => by simp [rowK] at hx
  | k + 1, hk, x, hx => by
    rw [rowK_succ, List.mem_append] at hx
    rcases hx with hx | hx
    · exact row_masks hi hg k (by omega) x hx
    · have hk64 : mAt gss k < 64 := m_small (fam_set (by omega) hg)
      rw [mI_at gss (by omega), and_mask _ hi _ hk64, List.mem_singleton] at hx
      exact ⟨_, Nat.lt_of_le_of_lt Nat.and_le_left hi, hx⟩
theorem cat_masks {fss gss : List (List Int)} {nf ng : Nat} (hf : famTo fss nf = true) (hg : famTo gss ng = true) : ∀ i, i ≤ nf → ∀ x ∈ catR (rowsF (mI fss nf) (mI gss ng) ng) i, ∃ m : Nat, m < 64 ∧ x = m
  | 0, _, x, hx => by simp [catR] at hx
  | i + 1, hi, x, hx => by
    rw [catR, List.mem_append] at hx
    rcases hx with hx | hx
    · exact cat_masks hf hg i (by omega) x hx
    · rw [rowsF, mI_at fss (by omega)] at hx
      exact row_masks (m_small (fam_set (by omega) hf)) hg ng (Nat.le_refl _) x hx

theorem plain8 : plainCode SP (headN 3 (bodyOf 8)) = true := by kernel_rfl
theorem graft8 : graft (headN 3 (bodyOf 8)) (tailN 3 (bodyOf 8)) = bodyOf 8 := by kernel_rfl
noncomputable def Z8 : Code := tailN 3 (bodyOf 8)
noncomputable def K8 : Code := match Z8 with | .seq (.seq _ k) _ => k | _ => .skip
noncomputable def R8 : Code := restOf Z8
noncomputable def ops8 : Array Oper := match Z8 with | .seq (.seq (.region _ ops _) _) _ => ops | _ => #[]
theorem plainK8 : plainCode SP K8 = true := by kernel_rfl
theorem plainR8 : plainCode SP R8 = true := by kernel_rfl
theorem plainO8 : ([4, 5].all fun i => ((ops8[i]?).map fun o => plainOp SP o.op).getD true) = true := by kernel_rfl
/-- It stands ahead of common. -/
def QA8 (g0 n : Nat) (zss : List (List Int)) (g1 n2 : Nat) (yss : List (List Int)) (w0 : World) (a : Act) (w : World) : Prop :=
  ∃ (d12 d13 d14 d15 d16 d17 d18 d19 d20 : Value) (A1 : Option Addr) (c1 : Nat) (A3 : Option Addr) (c3 : Nat), a = ⟨#[.slice (some ⟨g0, 0, none⟩) n n, .slice (some ⟨g1, 0, none⟩) n2 n2, undef, undef, .slice none 0 0, .bool false, .slice A1 n c1, .slice A3 n2 c3, .bool true, .slice none 0 0, undef, undef, d12, d13, d14, d15, d16, d17, d18, d19, d20, undef, undef, undef, undef, undef, undef, undef, undef, undef, undef, undef, undef, undef, undef, undef, undef, undef, undef, undef], []⟩ ∧
    Row w w.heap.size A1 (mV (mAt zss) n) ∧ Row w w.heap.size A3 (mV (mAt yss) n2) ∧ (famB zss && famB yss) = true ∧ Bel w0.heap.size w0 w
/-- It gives a certificate and a word. -/
def QX8 (lo : Nat) (L : List Int) (b : Bool) (w0 : World) (a : Act) (w : World) : Prop :=
  ∃ v, a.defers = [] ∧ a.tmps.getD 4 undef = v ∧ a.tmps.getD 5 undef = .bool b ∧ OwnI w lo v L ∧ Bel w0.heap.size w0 w
def QR8 (zss yss : List (List Int)) (w0 : World) (a : Act) (w : World) : Prop := QX8 0 [] false w0 a w ∧ a.tmps.getD 4 undef = .slice none 0 0 ∧ (famB zss && famB yss) = false
theorem QA8.tp {g0 n : Nat} {zss : List (List Int)} {g1 n2 : Nat} {yss : List (List Int)} {w0 : World} (a : Act) (w : World) (T : Nat → Question → Nat) (d : Nat) (h : QA8 g0 n zss g1 n2 yss w0 a w) : QA8 g0 n zss g1 n2 yss w0 a (tp w T d) := by
  obtain ⟨d12, d13, d14, d15, d16, d17, d18, d19, d20, A1, c1, A3, c3, e, h1, h2, h3, h4⟩ := h
  exact ⟨d12, d13, d14, d15, d16, d17, d18, d19, d20, A1, c1, A3, c3, e, h1, h2, h3, h4.tp T d⟩
theorem QX8.tp {lo : Nat} {L : List Int} {b : Bool} {w0 : World} (a : Act) (w : World) (T : Nat → Question → Nat) (d : Nat) (h : QX8 lo L b w0 a w) : QX8 lo L b w0 a (tp w T d) := by
  obtain ⟨v, h1, h2, h3, h4, h5⟩ := h
  exact ⟨v, h1, h2, h3, h4, h5.tp T d⟩
theorem QR8.tp {zss yss : List (List Int)} {w0 : World} (a : Act) (w : World) (T : Nat → Question → Nat) (d : Nat) (h : QR8 zss yss w0 a w) : QR8 zss yss w0 a (tp w T d) := ⟨h.1.tp a w T d, h.2⟩
theorem certA (g0 n : Nat) (zss : List (List Int)) (g1 n2 : Nat) (yss : List (List Int)) (w : World) (h1 : CpM w g0 n zss) (h2 : CpM w g1 n2 yss) :
    (headN 3 (bodyOf 8)).wp Tryd.prog (QQ (QA8 g0 n zss g1 n2 yss w) (QR8 zss yss w)) ⟨#[.slice (some ⟨g0, 0, none⟩) n n, .slice (some ⟨g1, 0, none⟩) n2 n2] ++ Array.replicate (40 - 2) undef, []⟩ w := by
  obtain ⟨Q, hQ⟩ : ∃ Q, Q = QQ (QA8 g0 n zss g1 n2 yss w) (QR8 zss yss w) := ⟨_, rfl⟩
  rw [← hQ]
  have HQ := Lib.hid hQ
  clear hQ
  have HK := Lib.hid (fun (W : World) (hb : Below w.heap.size w W) => readFamilies_any _ n n zss _ n2 n2 yss W (h1.below hb).mat h1.ok (h2.below hb).mat h2.ok)
  clear h1 h2
  simp only [bodyOf, Tryd.func8, Tryd.f8, headN, Option.bind_some, Option.getD_some, Array.replicate, List.replicate, List.append_toArray, List.cons_append, List.nil_append, Nat.reduceSub]
  go_wp2_with fail
  refine (HK.out _ (by (repeat (first | (with_reducible exact Below.refl _ _) | (with_reducible assumption) | (with_reducible refine below_drewN ?_ _) | (with_reducible refine Below.drew ?_) | (with_reducible refine Below.alloc ?_ (by (first | omega | (show _ < _; omega) | (simp; omega) | (simp; done))) _) | (with_reducible refine Below.setCell ?_ (by (first | omega | (show _ < _; omega) | (simp; omega) | (simp; done))) _) | (with_reducible refine Below.trans ?_ (Below.mono (by with_reducible assumption) (by (first | omega | (show _ < _; omega) | (simp; omega) | (simp; done))))) | (with_reducible refine below_grown ?_ (by with_reducible assumption) (by (first | omega | (show _ < _; omega) | (simp; omega) | (simp; done))) (by (first | omega | (show _ < _; omega) | (simp; omega) | (simp; done)))))))).mono ?_
  rintro e w1 ⟨hb, v1, v2, rfl, hr⟩
  have HB := Lib.hid hb
  have HR := Lib.hid hr
  clear hb hr
  obtain ⟨p, hp⟩ : ∃ p, p = (famB zss && famB yss) := ⟨_, rfl⟩
  rw [← hp]
  have HP := Lib.hid hp
  clear hp
  cases p
  · go_wp2_with fail
    rw [HQ.out]
    exact .inr ⟨rfl, ⟨_, rfl, rfl, rfl, own_nilc _ _, Bel.of' HB.out⟩, rfl, HP.out.symm⟩
  · obtain ⟨A1, c1, A2, c2, rfl, rfl, hc1, hc2, r1, r2⟩ := HR.out HP.out.symm
    have HR1 := Lib.hid r1
    have HR2 := Lib.hid r2
    clear r1 r2
    go_wp2_with fail
    rw [HQ.out]
    exact .inl ⟨rfl, _, _, _, _, _, _, _, _, _, _, _, _, _, rfl, HR1.out, HR2.out, HP.out.symm, Bel.of' HB.out⟩
/-- The walk over the masks begins. -/
def QB8 (s : Act) (w0 : World) (a : Act) (w : World) : Prop := a = s ∧ Bel w0.heap.size w0 w
theorem QB8.tp {s : Act} {w0 : World} (a : Act) (w : World) (T : Nat → Question → Nat) (d : Nat) (h : QB8 s w0 a w) : QB8 s w0 a (tp w T d) := ⟨h.1, h.2.tp T d⟩
theorem wpOps_dropc {P : Program} {ops : Array Oper} {Q : Exit → Act → World → Prop} (k m : Nat) (h : ops.size = k + m) : wpOps P ops Q (List.range' k m) = wpList P ops Q (ops.toList.drop k) := by
  have := wpOps_eq_wpList (P := P) (ops := ops) (Q := Q) (ops.toList.drop k) k (fun j => by simp [List.getElem?_drop])
  rw [← this]
  congr 1
  simp
  omega
theorem certB_ops (x y v1 v2 d12 d13 d14 d15 d16 d17 d18 d19 d20 t21 t22 t23 : Value) (A5 : Option Addr) (l c5 : Nat) (w : World) (T : Nat → Question → Nat) :
    wpOps Tryd.prog ops8 (QQ (QB8 ⟨#[x, y, undef, undef, .slice none 0 0, .bool false, v1, v2, .bool true, .slice none 0 0, undef, undef, d12, d13, d14, d15, d16, d17, d18, d19, d20, t21, t22, t23, .slice A5 l c5, .int .i64 l, .int .i64 0, undef, undef, undef, undef, undef, undef, undef, undef, undef, undef, undef, undef, undef], []⟩ w) (fun _ _ => False)) [4, 5] ⟨#[x, y, undef, undef, .slice none 0 0, .bool false, v1, v2, .bool true, .slice none 0 0, undef, undef, d12, d13, d14, d15, d16, d17, d18, d19, d20, t21, t22, t23, .slice A5 l c5, undef, undef, undef, undef, undef, undef, undef, undef, undef, undef, undef, undef, undef, undef, undef], []⟩ (tp w T 0) := by
  have hbb : ∀ y', Below (tp w T 0).heap.size (tp w T 0) y' → Bel w.heap.size w y' := fun y' h => bel_base (Bel.of' h)
  generalize tp w T 0 = y' at hbb ⊢
  obtain ⟨Q, hQ⟩ : ∃ Q, Q = QQ (QB8 ⟨#[x, y, undef, undef, .slice none 0 0, .bool false, v1, v2, .bool true, .slice none 0 0, undef, undef, d12, d13, d14, d15, d16, d17, d18, d19, d20, t21, t22, t23, .slice A5 l c5, .int .i64 l, .int .i64 0, undef, undef, undef, undef, undef, undef, undef, undef, undef, undef, undef, undef, undef], []⟩ w) (fun _ _ => False) := ⟨_, rfl⟩
  rw [← hQ]
  have HQ := Lib.hid hQ
  clear hQ
  have e := wpOps_dropc (P := Tryd.prog) (ops := ops8) (Q := Q) 4 2 (by kernel_rfl)
  have e2 : List.range' 4 2 = [4, 5] := by decide
  rw [e2] at e
  rw [e]
  clear e e2
  simp only [ops8, Z8, tailN, bodyOf, Tryd.func8, Tryd.f8, Option.bind_some, Option.getD_some, Array.replicate, List.replicate, List.append_toArray, List.cons_append, List.nil_append, Nat.reduceSub, List.drop_succ_cons, List.drop_zero]
  go_wp2
  rw [HQ.out]
  exact .inl ⟨rfl, rfl, hbb _ (by (repeat (first | (with_reducible exact Below.refl _ _) | (with_reducible assumption) | (with_reducible refine below_drewN ?_ _) | (with_reducible refine Below.drew ?_) | (with_reducible refine Below.alloc ?_ (by (first | omega | (show _ < _; omega) | (simp; omega) | (simp; done))) _) | (with_reducible refine Below.setCell ?_ (by (first | omega | (show _ < _; omega) | (simp; omega) | (simp; done))) _) | (with_reducible refine Below.trans ?_ (Below.mono (by with_reducible assumption) (by (first | omega | (show _ < _; omega) | (simp; omega) | (simp; done))))) | (with_reducible refine below_grown ?_ (by with_reducible assumption) (by (first | omega | (show _ < _; omega) | (simp; omega) | (simp; done))) (by (first | omega | (show _ < _; omega) | (simp; omega) | (simp; done)))))))⟩
/-- The walk over the masks has ended: no nought. -/
def QK8 (zs : List Int) (w0 : World) (a : Act) (w : World) : Prop :=
  ∃ (t0 t1 t2 t3 t4 t5 t6 t7 t8 t9 t10 t11 t12 t13 t14 t15 t16 t17 t18 t19 t20 t21 t22 t23 t24 t25 t26 t27 t28 t29 t30 t31 t32 t33 t34 t35 t36 t37 t38 t39 : Value), a = ⟨#[t0, t1, t2, t3, t4, t5, t6, t7, t8, t9, t10, t11, t12, t13, t14, t15, t16, t17, t18, t19, t20, t21, t22, t23, t24, t25, t26, t27, t28, t29, t30, t31, t32, t33, t34, t35, t36, t37, t38, t39], []⟩ ∧ OwnI w w0.heap.size t9 (zs.map cv) ∧ hasZ zs zs.length = false ∧ Bel w0.heap.size w0 w
theorem QK8.tp {zs : List Int} {w0 : World} (a : Act) (w : World) (T : Nat → Question → Nat) (d : Nat) (h : QK8 zs w0 a w) : QK8 zs w0 a (tp w T d) := by
  obtain ⟨t0, t1, t2, t3, t4, t5, t6, t7, t8, t9, t10, t11, t12, t13, t14, t15, t16, t17, t18, t19, t20, t21, t22, t23, t24, t25, t26, t27, t28, t29, t30, t31, t32, t33, t34, t35, t36, t37, t38, t39, e, h1, h2, h3⟩ := h
  exact ⟨t0, t1, t2, t3, t4, t5, t6, t7, t8, t9, t10, t11, t12, t13, t14, t15, t16, t17, t18, t19, t20, t21, t22, t23, t24, t25, t26, t27, t28, t29, t30, t31, t32, t33, t34, t35, t36, t37, t38, t39, e, h1, h2, h3.tp T d⟩
/-- A nought was met. -/
def QZ8 (zs : List Int) (w0 : World) (a : Act) (w : World) : Prop := QX8 w0.heap.size [] false w0 a w ∧ hasZ zs zs.length = true
theorem QZ8.tp {zs : List Int} {w0 : World} (a : Act) (w : World) (T : Nat → Question → Nat) (d : Nat) (h : QZ8 zs w0 a w) : QZ8 zs w0 a (tp w T d) := ⟨h.1.tp a w T d, h.2⟩
theorem certK (x y v1 v2 d12 d13 d14 d15 d16 d17 d18 d19 d20 t21 t22 t23 : Value) (A5 : Option Addr) (c5 : Nat) (zs : List Int) (w : World) (hr : Row w w.heap.size A5 (zs.map (Value.int .u64))) (hz : zs.length ≤ 1000000) (hm : ∀ x ∈ zs, ∃ m : Nat, m < 64 ∧ x = m) (hT : TabAt 3 Lib.deBruijn64tab w) :
    K8.wp Tryd.prog (QQ (QK8 zs w) (QZ8 zs w)) ⟨#[x, y, undef, undef, .slice none 0 0, .bool false, v1, v2, .bool true, .slice none 0 0, undef, undef, d12, d13, d14, d15, d16, d17, d18, d19, d20, t21, t22, t23, .slice A5 zs.length c5, .int .i64 zs.length, .int .i64 0, undef, undef, undef, undef, undef, undef, undef, undef, undef, undef, undef, undef, undef], []⟩ w := by
  obtain ⟨Q, hQ⟩ : ∃ Q, Q = QQ (QK8 zs w) (QZ8 zs w) := ⟨_, rfl⟩
  rw [← hQ]
  have HQ := Lib.hid hQ
  clear hQ
  have HR := Lib.hid hr
  have HMm := Lib.hid hm
  have HT := Lib.hid hT
  clear hr hm hT
  obtain ⟨l, hl⟩ : ∃ l, l = zs.length := ⟨_, rfl⟩
  rw [← hl] at hz ⊢
  have HL := Lib.hid hl
  clear hl
  simp only [K8, Z8, tailN, bodyOf, Tryd.func8, Tryd.f8, Option.bind_some, Option.getD_some, Array.replicate, List.replicate, List.append_toArray, List.cons_append, List.nil_append, Nat.reduceSub]
  go_wp2_with fail
  go_loopw [9, 26] (fun u i wr => ∃ k : Nat, k ≤ l ∧ i = .int .i64 k ∧ OwnI wr w.heap.size u ((zs.take k).map cv) ∧ hasZ zs k = false ∧ Below w.heap.size w wr) (fun _ i _ => l - (intOf i).toNat)
  case atStart => exact ⟨0, Nat.zero_le _, rfl, by simpa using own_nilc _ _, rfl, Below.refl _ _⟩
  case round =>
    obtain ⟨k, hk, rfl, ho, hno, hb⟩ := hrel
    have HO := Lib.hid ho
    have HN := Lib.hid hno
    have hsz := hb.size
    clear ho hno
    by_cases hkn : k < l
    · have i1 : (k : Int) < l := by omega
      have hkl : k < zs.length := by rw [← HL.out]; exact hkn
      obtain ⟨m, hm64, hmx⟩ := HMm.out (zs.getD k 0) (by simp [hkl])
      have hg : (zs.map (Value.int .u64))[k]? = some (.int .u64 (zs.getD k 0)) := by simp [hkl]
      obtain ⟨b, off, rfl, hblt, hc⟩ := HR.out.at_ hg
      have hcr : wr.cell? ⟨b, off + k, none⟩ = some (.int .u64 (m : Int)) := by rw [← hmx]; exact (hb.cell (p := ⟨b, off + k, none⟩) hblt).trans hc
      have HX := Lib.hid (show hasZ zs (k + 1) = (hasZ zs k || zs.getD k 0 == 0) from rfl)
      have HTk : Hid ((zs.take (k + 1)).map cv = (zs.take k).map cv ++ [((Lib.ctz 64 m : Nat) : Int) + 1]) := Lib.hid (by
        have hgg : zs[k] = (m : Int) := by rw [← hmx]; simp [hkl]
        rw [List.take_succ_eq_append_getElem hkl, List.map_append, hgg]
        rfl)
      have HY := Lib.hid (fun h => hasZ_is (zs := zs) (n := zs.length) hkl h)
      rw [hmx] at HX HY
      have hlen : ((zs.take k).map cv).length ≤ 10000000 := by simp; omega
      clear hg hc hmx
      by_cases hm0 : m = 0
      · subst hm0
        have HF := Lib.hid (HY.out rfl)
        clear HX HY HTk
        go_wp2
        rw [HQ.out]
        exact .inr ⟨rfl, ⟨_, rfl, rfl, rfl, own_nilc _ _, Bel.of' (by (repeat (first | (with_reducible exact Below.refl _ _) | (with_reducible assumption) | (with_reducible refine below_drewN ?_ _) | (with_reducible refine Below.drew ?_) | (with_reducible refine Below.alloc ?_ (by (first | omega | (show _ < _; omega) | (simp; omega) | (simp; done))) _) | (with_reducible refine Below.setCell ?_ (by (first | omega | (show _ < _; omega) | (simp; omega) | (simp; done))) _) | (with_reducible refine Below.trans ?_ (Below.mono (by with_reducible assumption) (by (first | omega | (show _ < _; omega) | (simp; omega) | (simp; done))))) | (with_reducible refine below_grown ?_ (by with_reducible assumption) (by (first | omega | (show _ < _; omega) | (simp; omega) | (simp; done))) (by (first | omega | (show _ < _; omega) | (simp; omega) | (simp; done)))))))⟩, HF.out⟩
      · have hmi : ((m : Int) == 0) = false := by simp; omega
        have hctz : Lib.ctz 64 m < 64 := (Lib.lowest_bit 64 m hm0 (by omega)).2
        have HZ := Lib.hid (fun (W : World) (hW : Below w.heap.size w W) => tz_any m hm0 hm64 W (tab_below HT.out hW))
        have HH : Hid (hasZ zs (k + 1) = false) := Lib.hid (by rw [HX.out, HN.out, hmi]; rfl)
        generalize Lib.ctz 64 m = z at HTk hctz HZ
        have z1 : IntKind.i64.wrap ((z : Int) + 1) = (z : Int) + 1 := IntWalk.i64_in _ (by omega)
        clear HX HY
        go_wp2_with (first
          | (go_at_call 26; refine (HZ.out _ (by (repeat (first | (with_reducible exact Below.refl _ _) | (with_reducible assumption) | (with_reducible refine below_drewN ?_ _) | (with_reducible refine Below.drew ?_) | (with_reducible refine Below.alloc ?_ (by (first | omega | (show _ < _; omega) | (simp; omega) | (simp; done))) _) | (with_reducible refine Below.setCell ?_ (by (first | omega | (show _ < _; omega) | (simp; omega) | (simp; done))) _) | (with_reducible refine Below.trans ?_ (Below.mono (by with_reducible assumption) (by (first | omega | (show _ < _; omega) | (simp; omega) | (simp; done))))) | (with_reducible refine below_grown ?_ (by with_reducible assumption) (by (first | omega | (show _ < _; omega) | (simp; omega) | (simp; done))) (by (first | omega | (show _ < _; omega) | (simp; omega) | (simp; done)))))))).mono ?_; rintro e w' ⟨rfl, rfl⟩)
          | (at_builtin; refine wpl_append_int rfl _ _ (by rfl) w.heap.size _ _ _ (by rfl) HO.out (by rfl) hlen hsz ?_; intro v' w1 hown1 hb1 _ _))
        go_roundw
        case rel => exact ⟨k + 1, by omega, by go_num, by rw [HTk.out]; exact hown1, HH.out, hb.trans hb1⟩
        case measure => simp [intOf]; omega
    · obtain rfl : k = l := by omega
      have hfin := HO.out
      have hno := HN.out
      rw [HL.out] at hfin hno
      rw [List.take_length] at hfin
      have HFin := Lib.hid hfin
      have HNo := Lib.hid hno
      clear hfin hno
      go_wp2
      rw [HQ.out]
      exact .inl ⟨rfl, _, _, _, _, _, _, _, _, _, _, _, _, _, _, _, _, _, _, _, _, _, _, _, _, _, _, _, _, _, _, _, _, _, _, _, _, _, _, _, _, rfl, HFin.out, HNo.out, Bel.of' (by (repeat (first | (with_reducible exact Below.refl _ _) | (with_reducible assumption) | (with_reducible refine below_drewN ?_ _) | (with_reducible refine Below.drew ?_) | (with_reducible refine Below.alloc ?_ (by (first | omega | (show _ < _; omega) | (simp; omega) | (simp; done))) _) | (with_reducible refine Below.setCell ?_ (by (first | omega | (show _ < _; omega) | (simp; omega) | (simp; done))) _) | (with_reducible refine Below.trans ?_ (Below.mono (by with_reducible assumption) (by (first | omega | (show _ < _; omega) | (simp; omega) | (simp; done))))) | (with_reducible refine below_grown ?_ (by with_reducible assumption) (by (first | omega | (show _ < _; omega) | (simp; omega) | (simp; done))) (by (first | omega | (show _ < _; omega) | (simp; omega) | (simp; done)))))))⟩
theorem certR (t0 t1 t2 t3 t4 t5 t6 t7 t8 t9 t10 t11 t12 t13 t14 t15 t16 t17 t18 t19 t20 t21 t22 t23 t24 t25 t26 t27 t28 t29 t30 t31 t32 t33 t34 t35 t36 t37 t38 t39 : Value) (lo : Nat) (L : List Int) (w : World) (ho : OwnI w lo t9 L) :
    R8.wp Tryd.prog (QQ (fun _ _ => False) (QX8 lo L true w)) ⟨#[t0, t1, t2, t3, t4, t5, t6, t7, t8, t9, t10, t11, t12, t13, t14, t15, t16, t17, t18, t19, t20, t21, t22, t23, t24, t25, t26, t27, t28, t29, t30, t31, t32, t33, t34, t35, t36, t37, t38, t39], []⟩ w := by
  obtain ⟨Q, hQ⟩ : ∃ Q, Q = QQ (fun _ _ => False) (QX8 lo L true w) := ⟨_, rfl⟩
  rw [← hQ]
  have HQ := Lib.hid hQ
  have HO := Lib.hid ho
  clear hQ ho
  simp only [R8, restOf, Z8, tailN, bodyOf, Tryd.func8, Tryd.f8, Option.bind_some, Option.getD_some, Array.replicate, List.replicate, List.append_toArray, List.cons_append, List.nil_append, Nat.reduceSub]
  go_wp2
  rw [HQ.out]
  exact .inr ⟨rfl, _, rfl, rfl, rfl, HO.out, Bel.of' (by (repeat (first | (with_reducible exact Below.refl _ _) | (with_reducible assumption) | (with_reducible refine below_drewN ?_ _) | (with_reducible refine Below.drew ?_) | (with_reducible refine Below.alloc ?_ (by (first | omega | (show _ < _; omega) | (simp; omega) | (simp; done))) _) | (with_reducible refine Below.setCell ?_ (by (first | omega | (show _ < _; omega) | (simp; omega) | (simp; done))) _) | (with_reducible refine Below.trans ?_ (Below.mono (by with_reducible assumption) (by (first | omega | (show _ < _; omega) | (simp; omega) | (simp; done))))) | (with_reducible refine below_grown ?_ (by with_reducible assumption) (by (first | omega | (show _ < _; omega) | (simp; omega) | (simp; done))) (by (first | omega | (show _ < _; omega) | (simp; omega) | (simp; done)))))))⟩
/-- Its results. -/
theorem res8 {lo : Nat} {L : List Int} {b : Bool} {w0 : World} {a : Act} {w : World} (h : QX8 lo L b w0 a w) : ∃ v, OwnI w lo v L ∧ ∀ T d, (results Tryd.f8 a.tmps).run Tryd.prog (tp w T d) = .ok (.tuple #[v, .bool b]) (tp w T d) := by
  obtain ⟨v, h1, h2, h3, h4, h5⟩ := h
  refine ⟨v, h4, fun T d => ?_⟩
  have h2' : a.tmps[4]?.getD undef = v := by simpa using h2
  have h3' : a.tmps[5]?.getD undef = .bool b := by simpa using h3
  simp only [results, Tryd.results8]
  go_simp
end Go.Proofs.YtafhpbghogdipaaDoor

/- impl.IntersectCertify: the quiet walks; from its call to its return. -/
namespace Go.Proofs.YtafhpbghogdipaaDoor
open Go.Conc Go.ConcN Go.RowKit Go.Conc.Lib Go.ConcR.Gen Go.ConcN.Gen
open Go.ConcR (DC0)
set_option maxHeartbeats 8000000
set_option maxRecDepth 100000
set_option linter.unusedVariables false
set_option linter.unusedSimpArgs false

theorem row_belc {w w' : World} {A : Option Addr} {xs : List Value} (h : Row w w.heap.size A xs) (hb : Bel w.heap.size w w') : Row w' w'.heap.size A xs := by
  intro hn
  obtain ⟨b, off, e, h1, h2⟩ := h hn
  exact ⟨b, off, e, Nat.lt_of_lt_of_le h1 hb.size, fun j v hj => cell_belc hb (h2 j v hj)⟩
/-- IntersectCertify waits. -/
noncomputable def W8 (x y v1 v2 d12 d13 d14 d15 d16 d17 d18 d19 d20 t23 : Value) (l : List Nat) : Frame := (base 8).at ⟨#[x, y, undef, undef, .slice none 0 0, .bool false, v1, v2, .bool true, .slice none 0 0, undef, undef, d12, d13, d14, d15, d16, d17, d18, d19, d20, v1, v2, t23, undef, undef, undef, undef, undef, undef, undef, undef, undef, undef, undef, undef, undef, undef, undef, undef], []⟩ (.inRegion ops8 l :: .code K8 :: .code R8 :: [])
set_option maxRecDepth 100000 in
theorem quiet8a (x y v1 v2 d12 d13 d14 d15 d16 d17 d18 d19 d20 : Value) (cs : List Frame) : ∀ w, True → Goes Tryd.prog true AtRel DC0 (fun g1 _ => g1 = G ((base 25).at ⟨#[v1, v2] ++ Array.replicate (24 - 2) undef, []⟩ [.code (bodyOf 25)]) (W8 x y v1 v2 d12 d13 d14 d15 d16 d17 d18 d19 d20 undef [2, 3, 4, 5] :: cs)) 7
    (G ((base 8).at ⟨#[x, y, undef, undef, .slice none 0 0, .bool false, v1, v2, .bool true, .slice none 0 0, undef, undef, d12, d13, d14, d15, d16, d17, d18, d19, d20, undef, undef, undef, undef, undef, undef, undef, undef, undef, undef, undef, undef, undef, undef, undef, undef, undef, undef, undef], []⟩ (.code Z8 :: [])) cs) w := by
  intro w hF
  unfold W8 ops8 K8 R8 Z8
  simp only [bodyOf, tailN, opsOf, restOf, Tryd.func8, Tryd.f8, Option.bind_some, Option.getD_some, Array.replicate, List.replicate, List.append_toArray, List.cons_append, List.nil_append, Nat.reduceSub, Tryd.func25, Tryd.f25]
  u_c stepG_seq no_rely hF
  u_c stepG_seq no_rely hF
  u_reg no_rely hF
  u_op no_rely hF
  u_op no_rely hF
  u_call Tryd.func25 (by decide) Tryd.f25 no_rely hF
  refine Goes.stop (fun w₁ h₁ => ?_)
  rfl
set_option maxRecDepth 100000 in
theorem quiet8b (x y v1 v2 d12 d13 d14 d15 d16 d17 d18 d19 d20 r : Value) (cs : List Frame) : ∀ w, True → Goes Tryd.prog true AtRel DC0 (fun g1 _ => g1 = G (Frame.enter Tryd.prog 24 #[r] .normal) (W8 x y v1 v2 d12 d13 d14 d15 d16 d17 d18 d19 d20 r [3, 4, 5] :: cs)) 3
    (G ((W8 x y v1 v2 d12 d13 d14 d15 d16 d17 d18 d19 d20 undef [2, 3, 4, 5]).finish r) cs) w := by
  intro w hF
  rw [enter_base (P := Tryd.prog) #[r] Tryd.func24 rfl]
  unfold W8 ops8 K8 R8 Z8
  simp only [bodyOf, tailN, opsOf, restOf, Tryd.func8, Tryd.f8, Option.bind_some, Option.getD_some, Array.replicate, List.replicate, List.append_toArray, List.cons_append, List.nil_append, Nat.reduceSub]
  show Goes _ _ _ _ _ _ (G ((base 8).at ⟨#[x, y, undef, undef, .slice none 0 0, .bool false, v1, v2, .bool true, .slice none 0 0, undef, undef, d12, d13, d14, d15, d16, d17, d18, d19, d20, v1, v2, r, undef, undef, undef, undef, undef, undef, undef, undef, undef, undef, undef, undef, undef, undef, undef, undef], []⟩ (.inRegion _ [3, 4, 5] :: _)) cs) w
  u_call Tryd.func24 (by decide) Tryd.f24 no_rely hF
  refine Goes.stop (fun w₁ h₁ => ?_)
  rfl
theorem fin8 (x y v1 v2 d12 d13 d14 d15 d16 d17 d18 d19 d20 r v : Value) : (W8 x y v1 v2 d12 d13 d14 d15 d16 d17 d18 d19 d20 r [3, 4, 5]).finish v = (base 8).at ⟨#[x, y, undef, undef, .slice none 0 0, .bool false, v1, v2, .bool true, .slice none 0 0, undef, undef, d12, d13, d14, d15, d16, d17, d18, d19, d20, v1, v2, r, v, undef, undef, undef, undef, undef, undef, undef, undef, undef, undef, undef, undef, undef, undef, undef], []⟩ (.inRegion ops8 [4, 5] :: .code K8 :: .code R8 :: []) := by kernel_rfl

section
variable {Shun : Loc → Prop} {D : DS} {W : World}
/-- Plain code that may end or return. -/
theorem walk_mid (hS : ∀ l, Shun l → ∃ a, l = .cell a ∧ D a.block) {f : FuncId} (hr : resOk Tryd.prog f = true) {a : Act} {c : Code} {K : List Item} {cs : List Frame} {wp : World} {Qn Qr : World → Act → World → Prop} {B : Nat} (hB : W.heap.size ≤ B) (hd : a.defers = []) (hp : plainCode SP c = true)
    (hQn : ∀ a w T d, Qn wp a w → Qn wp a (tp w T d)) (hQr : ∀ a w T d, Qr wp a w → Qr wp a (tp w T d)) (hbn : ∀ a w, Qn wp a w → Bel B wp w) (hbr : ∀ a w, Qr wp a w → Bel B wp w)
    (hwp : ∀ T, c.wp Tryd.prog (QQ (Qn wp) (Qr wp)) a (tp wp T 0))
    {gs : Array Goroutine} {w : World} (sl : Option (Nat × Nat)) {t : Trace} {q : Nat → Nat} (hF : Fr Tryd.prog Shun D (G ((base f).at a (.code c :: K)) cs) wp gs w t q) (hT : Truth W w wp)
    (hk : ∀ (gs' : Array Goroutine) (wp' w' : World) (sl' : Option (Nat × Nat)) (t' : Trace) (q' : Nat → Nat) (a' : Act), Qn wp a' wp' → Truth W w' wp' → Fr Tryd.prog Shun D (G ((base f).at a' K) cs) wp' gs' w' t' q' → Ends W gs' w' sl' t')
    (hk2 : ∀ (gs' : Array Goroutine) (wp' w' : World) (sl' : Option (Nat × Nat)) (t' : Trace) (q' : Nat → Nat) (a' : Act) (todo : List Item), Qr wp a' wp' → Truth W w' wp' → Fr Tryd.prog Shun D (G { (base f).at a' todo with mode := .returning } cs) wp' gs' w' t' q' → Ends W gs' w' sl' t') : Ends W gs w sl t := by
  refine (lift_last (b := base f) (Qn := Qn wp) (Qr := Qr wp) hSP hS rfl hr hd hp hQn hQr hwp sl hF).ends ?_
  rintro gs1 g1' wp1 w1 sl1 tt1 q1 (⟨a', rfl, h⟩ | ⟨a', todo, rfl, h⟩) hF1
  · exact hk gs1 wp1 w1 sl1 tt1 q1 a' h (hT.next hF.pz hF1.pz (hbn _ _ h) hB) hF1
  · exact hk2 gs1 wp1 w1 sl1 tt1 q1 a' todo h (hT.next hF.pz hF1.pz (hbr _ _ h) hB) hF1
/-- ████ IntersectCertify, from its call to its return. ████ -/
theorem ic_run (hS : ∀ l, Shun l → ∃ a, l = .cell a ∧ D a.block) {g0 n : Nat} {zss : List (List Int)} {g1 n2 : Nat} {yss : List (List Int)} {ca : Frame} {cs : List Frame} {wp : World} {gs : Array Goroutine} {w : World} {t : Trace} {q : Nat → Nat} (sl : Option (Nat × Nat)) (hTab : TabAt 3 Lib.deBruijn64tab wp) (C1 : CpM wp g0 n zss) (C2 : CpM wp g1 n2 yss)
    (hF : Fr Tryd.prog Shun D (G ((base 8).at ⟨#[.slice (some ⟨g0, 0, none⟩) n n, .slice (some ⟨g1, 0, none⟩) n2 n2] ++ Array.replicate (40 - 2) undef, []⟩ [.code (bodyOf 8)]) (ca :: cs)) wp gs w t q) (hT : Truth W w wp)
    (hk : ∀ (gs' : Array Goroutine) (wp' w' : World) (sl' : Option (Nat × Nat)) (t' : Trace) (q' : Nat → Nat) (D' : DS) (Shun' : Loc → Prop) (v : Value), (∀ l, Shun' l → ∃ a, l = .cell a ∧ D' a.block) → OwnI wp' wp.heap.size v (certL zss yss n n2) → Bel wp.heap.size wp wp' → Truth W w' wp' →
      Fr Tryd.prog Shun' D' (G (ca.finish (.tuple #[v, .bool (meetB zss yss n n2)])) cs) wp' gs' w' t' q' → Ends W gs' w' sl' t') : Ends W gs w sl t := by
  rw [← graft8] at hF
  refine walk_code hS (Z := Z8) (Qn := fun w0 => QA8 g0 n zss g1 n2 yss w0) (Qr := fun w0 => QR8 zss yss w0) (by kernel_rfl) rfl plain8 (fun a w T d h => QA8.tp a w T d h) (fun a w T d h => QR8.tp a w T d h)
    (fun a w h => by obtain ⟨_, _, _, _, _, _, _, _, _, _, _, _, _, _, _, _, _, hb⟩ := h; exact hb) (fun a w h => by obtain ⟨⟨_, _, _, _, _, hb⟩, _⟩ := h; exact hb)
    (fun T => wp_mono (certA g0 n zss g1 n2 yss (tp wp T 0) (cpM_tp C1) (cpM_tp C2)) (fun e a w h => h.imp
      (fun ⟨h0, d12, d13, d14, d15, d16, d17, d18, d19, d20, A1, c1, A3, c3, h1, h2, h3, h4, h5⟩ => ⟨h0, d12, d13, d14, d15, d16, d17, d18, d19, d20, A1, c1, A3, c3, h1, h2, h3, h4, bel_base h5⟩)
      (fun ⟨h0, ⟨v, h1, h2, h3, h4, h5⟩, h6⟩ => ⟨h0, ⟨v, h1, h2, h3, h4, bel_base h5⟩, h6⟩))) sl hF hT ?_ ?_
  rotate_left
  · -- no families
    intro gs1 wp1 w1 sl1 t1 q1 a1 todo1 hq1 hT1 hF1
    obtain ⟨⟨v, h1, h2, h3, h4, h5⟩, h6, h7⟩ := hq1
    obtain ⟨v', _, hres⟩ := res8 (⟨v, h1, h2, h3, h4, h5⟩ : QX8 0 [] false wp a1 wp1)
    have hv' : v' = .slice none 0 0 := by
      have e1 := hres (fun _ _ => 0) 0
      have h2' : a1.tmps[4]?.getD undef = .slice none 0 0 := by simpa using h6
      have h3' : a1.tmps[5]?.getD undef = .bool false := by simpa using h3
      have e2 : (results Tryd.f8 a1.tmps).run Tryd.prog (tp wp1 (fun _ _ => 0) 0) = .ok (.tuple #[.slice none 0 0, .bool false]) (tp wp1 (fun _ _ => 0) 0) := by
        simp only [results, Tryd.results8]
        go_simp
      rw [e2] at e1
      simp at e1
      exact e1.symm
    subst hv'
    refine walk_leave hS h1 sl1 Tryd.func8 hres hF1 hT1 ?_
    intro gs2 w2 sl2 t2 q2 hT2 hF2
    have hm : meetB zss yss n n2 = false := by unfold meetB; rw [h7]; rfl
    rw [← hm] at hF2
    refine hk gs2 wp1 w2 sl2 t2 q2 D Shun _ hS ?_ h5 hT2 hF2
    unfold certL
    rw [hm]
    exact own_nilc _ _
  intro gs1 wp1 w1 sl1 t1 q1 a1 hq1 hT1 hF1
  obtain ⟨d12, d13, d14, d15, d16, d17, d18, d19, d20, A1, c1, A3, c3, rfl, hx, hy, hfam, hb1⟩ := hq1
  have hTab1 := tab_bel hTab hb1
  simp only [Bool.and_eq_true] at hfam
  have hf1 := (famB_to hfam.1).2
  have hf2 := (famB_to hfam.2).2
  have hn : n ≤ 20 := by have := (famB_to hfam.1).1; have := C1.len; omega
  have hn2 : n2 ≤ 20 := by have := (famB_to hfam.2).1; have := C2.len; omega
  rw [C1.len] at hf1
  rw [C2.len] at hf2
  refine walk_quiet sl1 hF1 hT1 (quiet8a _ _ _ _ _ _ _ _ _ _ _ _ _ _) ?_
  intro gs2 w2 sl2 t2 q2 hT2 hF2
  refine walk_common hS (xs := mI zss n) (ys := mI yss n2) sl2 hn hn2 (by rw [← mv_map]; exact hx) (mi_len _ _) (by rw [← mv_map]; exact hy) (mi_len _ _) hF2 hT2 ?_
  intro gs3 wp3 w3 sl3 t3 q3 D3 Sh3 C hS3 hrows hb3 hT3 hF3
  refine walk_quiet sl3 hF3 hT3 (quiet8b _ _ _ _ _ _ _ _ _ _ _ _ _ _ _) ?_
  intro gs4 w4 sl4 t4 q4 hT4 hF4
  refine walk_concat hS3 sl4 hrows hn hF4 hT4 ?_
  intro gs5 wp5 w5 sl5 t5 q5 v5 hown hb5 hT5 hF5
  obtain ⟨A5, c5, rfl, _, _, hrow5⟩ := owns_row hown
  rw [fin8] at hF5
  have hB5 : Bel wp1.heap.size wp1 wp5 := hb3.trans (hb5.mono hb3.size)
  have hBe5 : Bel wp.heap.size wp wp5 := hb1.trans (hB5.mono hb1.size)
  refine walk_ops hS3 (Qn := fun w0 => QB8 _ w0) (by kernel_rfl) hT5.size rfl plainO8 (fun a w T d h => QB8.tp a w T d h) (fun a w h => h.2)
    (fun T => certB_ops _ _ _ _ _ _ _ _ _ _ _ _ _ _ _ _ A5 _ c5 wp5 T) sl5 hF5 hT5 ?_
  rintro gs6 wp6 w6 sl6 t6 q6 a6 ⟨rfl, hb6⟩ hT6 hF6
  have hlen : (catR (rowsF (mI zss n) (mI yss n2) n2) n).length ≤ 1000000 := by
    have := catR_len hrows.len n (Nat.le_refl _)
    omega
  have hrow6 := hrow5
  have hTab6 := tab_bel (tab_bel hTab1 hB5) hb6
  have hB6 : Bel wp.heap.size wp wp6 := hBe5.trans (hb6.mono hBe5.size)
  have hmasks := cat_masks hf1 hf2 n (Nat.le_refl _)
  have hmeet := meet_law C1.len C2.len hfam.1 hfam.2
  have hcert : meetB zss yss n n2 = true → certL zss yss n n2 = (catR (rowsF (mI zss n) (mI yss n2) n2) n).map cv := fun h => by
    have h2 := h
    simp only [meetB, Bool.and_eq_true] at h2
    unfold certL
    rw [if_pos h]
    exact hd_all hf1 hf2 h2.2 n (Nat.le_refl _)
  have hrow7 : Row wp6 wp6.heap.size A5 ((catR (rowsF (mI zss n) (mI yss n2) n2) n).map (Value.int .u64)) := row_belc hrow5 hb6
  generalize catR (rowsF (mI zss n) (mI yss n2) n2) n = zs at hF6 hlen hrow7 hmasks hmeet hcert
  refine walk_mid hS3 (B := wp6.heap.size) (Qn := fun w0 => QK8 zs w0) (Qr := fun w0 => QZ8 zs w0) (by kernel_rfl) hT6.size rfl plainK8 (fun a w T d h => QK8.tp a w T d h) (fun a w T d h => QZ8.tp a w T d h)
    (fun a w h => by obtain ⟨_, _, _, _, _, _, _, _, _, _, _, _, _, _, _, _, _, _, _, _, _, _, _, _, _, _, _, _, _, _, _, _, _, _, _, _, _, _, _, _, _, _, _, hb⟩ := h; exact hb) (fun a w h => by obtain ⟨⟨_, _, _, _, _, hb⟩, _⟩ := h; exact hb)
    (fun T => wp_mono (certK _ _ _ _ _ _ _ _ _ _ _ _ _ _ _ _ A5 c5 zs (tp wp6 T 0) (row_tp hrow7) hlen hmasks hTab6) (fun e a w h => h.imp
      (fun ⟨h0, u0, u1, u2, u3, u4, u5, u6, u7, u8, u9, u10, u11, u12, u13, u14, u15, u16, u17, u18, u19, u20, u21, u22, u23, u24, u25, u26, u27, u28, u29, u30, u31, u32, u33, u34, u35, u36, u37, u38, u39, h1, h2, h3, h4⟩ => ⟨h0, u0, u1, u2, u3, u4, u5, u6, u7, u8, u9, u10, u11, u12, u13, u14, u15, u16, u17, u18, u19, u20, u21, u22, u23, u24, u25, u26, u27, u28, u29, u30, u31, u32, u33, u34, u35, u36, u37, u38, u39, h1, h2, h3, bel_base h4⟩)
      (fun ⟨h0, ⟨v, h1, h2, h3, h4, h5⟩, h6⟩ => ⟨h0, ⟨v, h1, h2, h3, h4, bel_base h5⟩, h6⟩))) sl6 hF6 hT6 ?_ ?_
  rotate_left
  · -- a nought
    intro gs7 wp7 w7 sl7 t7 q7 a7 todo7 hq7 hT7 hF7
    obtain ⟨hq7, hz7⟩ := hq7
    have hd7 : a7.defers = [] := by obtain ⟨_, h, _⟩ := hq7; exact h
    have hb7 : Bel wp6.heap.size wp6 wp7 := by obtain ⟨_, _, _, _, _, h⟩ := hq7; exact h
    obtain ⟨v, hov, hres⟩ := res8 hq7
    refine walk_leave hS3 hd7 sl7 Tryd.func8 hres hF7 hT7 ?_
    intro gs8 w8 sl8 t8 q8 hT8 hF8
    have hm : meetB zss yss n n2 = false := by rw [hmeet, hz7]; rfl
    rw [← hm] at hF8
    refine hk gs8 wp7 w8 sl8 t8 q8 D3 Sh3 v hS3 ?_ (hB6.trans (hb7.mono hB6.size)) hT8 hF8
    unfold certL
    rw [hm]
    exact owns_less hov hB6.size
  intro gs7 wp7 w7 sl7 t7 q7 a7 hq7 hT7 hF7
  obtain ⟨u0, u1, u2, u3, u4, u5, u6, u7, u8, u9, u10, u11, u12, u13, u14, u15, u16, u17, u18, u19, u20, u21, u22, u23, u24, u25, u26, u27, u28, u29, u30, u31, u32, u33, u34, u35, u36, u37, u38, u39, rfl, ho7, hz7, hb7⟩ := hq7
  have hm : meetB zss yss n n2 = true := by rw [hmeet, hz7]; rfl
  rw [← hcert hm] at ho7
  refine walk_last hS3 (Qr := fun w0 => QX8 wp6.heap.size (certL zss yss n n2) true w0) (by kernel_rfl) rfl plainR8 (fun a w T d h => QX8.tp a w T d h) (fun a w h => by obtain ⟨_, _, _, _, _, hb⟩ := h; exact hb)
    (fun T => wp_mono (certR _ _ _ _ _ _ _ _ _ _ _ _ _ _ _ _ _ _ _ _ _ _ _ _ _ _ _ _ _ _ _ _ _ _ _ _ _ _ _ _ wp6.heap.size (certL zss yss n n2) (tp wp7 T 0) ho7) (fun e a w h => h.imp (fun h => h)
      (fun ⟨h0, v, h1, h2, h3, h4, h5⟩ => ⟨h0, v, h1, h2, h3, h4, bel_base h5⟩))) sl7 hF7 hT7 ?_
  intro gs8 wp8 w8 sl8 t8 q8 a8 todo8 hq8 hT8 hF8
  have hd8 : a8.defers = [] := by obtain ⟨_, h, _⟩ := hq8; exact h
  have hb8 : Bel wp7.heap.size wp7 wp8 := by obtain ⟨_, _, _, _, _, h⟩ := hq8; exact h
  obtain ⟨v, hov, hres⟩ := res8 hq8
  refine walk_leave hS3 hd8 sl8 Tryd.func8 hres hF8 hT8 ?_
  intro gs9 w9 sl9 t9 q9 hT9 hF9
  rw [← hm] at hF9
  have hB7 := hB6.trans (hb7.mono hB6.size)
  exact hk gs9 wp8 w9 sl9 t9 q9 D3 Sh3 v hS3 (owns_less hov hB6.size) (hB7.trans (hb8.mono hB7.size)) hT9 hF9
end
end Go.Proofs.YtafhpbghogdipaaDoor

/- FnExactIntersectCertify: the law's lone parts. -/
namespace Go.Proofs.YtafhpbghogdipaaDoor
open Go.RowKit
set_option maxHeartbeats 16000000
set_option maxRecDepth 100000
set_option linter.unusedVariables false
set_option linter.unusedSimpArgs false

section
variable (A : Option Addr) (n c : Nat) (zss : List (List Int)) (A2 : Option Addr) (n2 c2 : Nat) (yss : List (List Int))
/-- The law's own memory. -/
structure CtSt (B0 : Option Addr) (x0 hi0 x1 hi1 : Nat) (w : World) : Prop where
  row : Row w x0 B0 ((certL zss yss n n2).map (Value.int .i64))
  R0 : RowsIn w x0 hi0 n zss
  R1 : RowsIn w x1 hi1 n2 yss
  le0 : hi0 ≤ x1
  lt0 : x0 < hi0
  lt1 : x1 < hi1
  le1 : hi1 ≤ w.heap.size
theorem CtSt.bel {B0 : Option Addr} {x0 hi0 x1 hi1 : Nat} {w w' : World} (h : CtSt n zss n2 yss B0 x0 hi0 x1 hi1 w) (hb : Bel w.heap.size w w') : CtSt n zss n2 yss B0 x0 hi0 x1 hi1 w' := by
  have h0 := h.lt0
  have h1 := h.le0
  have h2 := h.lt1
  have h3 := h.le1
  refine ⟨fun hn => ?_, h.R0.bel hb, h.R1.bel hb, h1, h0, h2, Nat.le_trans h3 hb.size⟩
  obtain ⟨b, off, e, h4, h5⟩ := h.row hn
  exact ⟨b, off, e, h4, fun j v hj => cell_belc hb (h5 j v hj)⟩
/-- It is about to answer 'true'. -/
def QR3 (B : Nat) (w0 : World) (a : Act) (w : World) : Prop := a.defers = [] ∧ a.tmps.getD 4 undef = .bool true ∧ Bel B w0 w
theorem QR3.tp {B : Nat} {w0 : World} (a : Act) (w : World) (T : Nat → Question → Nat) (d : Nat) (h : QR3 B w0 a w) : QR3 B w0 a (tp w T d) := ⟨h.1, h.2.1, h.2.2.tp T d⟩
/-- The law stands ahead of the first call. -/
def QA3 (w0 : World) (a : Act) (w : World) : Prop :=
  ∃ (v5 d17 d18 d19 d20 d21 d22 d23 d24 d25 d26 d27 d28 d29 d30 d31 d32 d33 d34 d35 d36 d37 d38 : Value) (B0 : Option Addr) (c0 x0 hi0 x1 hi1 : Nat), a = ⟨#[.slice A n c, .slice A2 n2 c2, undef, undef, .bool false, v5, .slice B0 (certL zss yss n n2).length c0, .bool (meetB zss yss n n2), .slice (some ⟨x0, 0, none⟩) n n, .slice (some ⟨x1, 0, none⟩) n2 n2, undef, undef, undef, undef, undef, undef, undef, d17, d18, d19, d20, d21, d22, d23, d24, d25, d26, d27, d28, d29, d30, d31, d32, d33, d34, d35, d36, d37, d38, undef, undef, undef, undef, undef, undef, undef, undef, undef, undef, undef, undef, undef, undef, undef, undef, undef, undef, undef, undef, undef, undef, undef, undef, undef, undef, undef, undef, undef, undef, undef, undef, undef, undef, undef, undef, undef, undef, undef, undef, undef, undef, undef, undef, undef, undef, undef, undef, undef, undef, undef, undef, undef, undef, undef, undef, undef, undef, undef, undef, undef, undef, undef, undef, undef, undef, undef, undef, undef, undef, undef, undef, undef, undef, undef, undef, undef, undef, undef, undef], []⟩ ∧ CtSt n zss n2 yss B0 x0 hi0 x1 hi1 w ∧ CpM w x0 n zss ∧ CpM w x1 n2 yss ∧ w0.heap.size ≤ x0 ∧ Bel w0.heap.size w0 w
theorem QA3.tp {w0 : World} (a : Act) (w : World) (T : Nat → Question → Nat) (d : Nat) (h : QA3 A n c zss A2 n2 c2 yss w0 a w) : QA3 A n c zss A2 n2 c2 yss w0 a (tp w T d) := by
  obtain ⟨v5, d17, d18, d19, d20, d21, d22, d23, d24, d25, d26, d27, d28, d29, d30, d31, d32, d33, d34, d35, d36, d37, d38, B0, c0, x0, hi0, x1, hi1, e, h1, h2, h3, h4, h5⟩ := h
  exact ⟨v5, d17, d18, d19, d20, d21, d22, d23, d24, d25, d26, d27, d28, d29, d30, d31, d32, d33, d34, d35, d36, d37, d38, B0, c0, x0, hi0, x1, hi1, e, CtSt.bel n zss n2 yss h1 ((Bel.refl w.heap.size w).tp T d), h2.bel ((Bel.refl w.heap.size w).tp T d), h3.bel ((Bel.refl w.heap.size w).tp T d), h4, h5.tp T d⟩
end
theorem plain3 : plainCode SP (headN 8 (bodyOf 3)) = true := by kernel_rfl
theorem graft3 : graft (headN 8 (bodyOf 3)) (tailN 8 (bodyOf 3)) = bodyOf 3 := by kernel_rfl
noncomputable def Z3 : Code := tailN 8 (bodyOf 3)
theorem lawA3 (A : Option Addr) (n c : Nat) (zss : List (List Int)) (A2 : Option Addr) (n2 c2 : Nat) (yss : List (List Int)) (w : World) (hM : ArgM w A n c zss) (hN : ArgM w A2 n2 c2 yss) :
    (headN 8 (bodyOf 3)).wp Tryd.prog (QQ (QA3 A n c zss A2 n2 c2 yss w) (QR3 w.heap.size w)) ⟨#[.slice A n c, .slice A2 n2 c2] ++ Array.replicate (119 - 2) undef, []⟩ w := by
  obtain ⟨Q, hQ⟩ : ∃ Q, Q = QQ (QA3 A n c zss A2 n2 c2 yss w) (QR3 w.heap.size w) := ⟨_, rfl⟩
  rw [← hQ]
  have HQ := Lib.hid hQ
  clear hQ
  have HM := Lib.hid hM
  have HN := Lib.hid hN
  clear hM hN
  simp only [bodyOf, Tryd.func3, Tryd.f3, headN, Option.bind_some, Option.getD_some, Array.replicate, List.replicate, List.append_toArray, List.cons_append, List.nil_append, Nat.reduceSub]
  go_wp2_with fail
  refine (szSS HM.out (by omega) (by omega)).mono ?_
  rintro e wz ⟨r, rfl, hwz, hr1, hz⟩
  subst hwz
  by_cases hr : r < 0
  · go_wp2_with fail
    rw [HQ.out]
    exact .inr ⟨rfl, rfl, rfl, Bel.of' (by (repeat (first | (with_reducible exact Below.refl _ _) | (with_reducible assumption) | (with_reducible refine below_drewN ?_ _) | (with_reducible refine Below.drew ?_) | (with_reducible refine Below.alloc ?_ (by (first | omega | (show _ < _; omega) | (simp; omega) | (simp; done))) _) | (with_reducible refine Below.setCell ?_ (by (first | omega | (show _ < _; omega) | (simp; omega) | (simp; done))) _) | (with_reducible refine Below.trans ?_ (Below.mono (by with_reducible assumption) (by (first | omega | (show _ < _; omega) | (simp; omega) | (simp; done))))) | (with_reducible refine below_grown ?_ (by with_reducible assumption) (by (first | omega | (show _ < _; omega) | (simp; omega) | (simp; done))) (by (first | omega | (show _ < _; omega) | (simp; omega) | (simp; done)))))))⟩
  replace hz := hz (by omega)
  have HZ := Lib.hid hz
  clear hz
  have hr0 : 0 ≤ r := by omega
  go_wp2_with fail
  refine (szSS HN.out hr0 (by omega)).mono ?_
  rintro e wz2 ⟨r2, rfl, hwz2, hr3, hz2⟩
  subst hwz2
  by_cases hr2 : r2 < 0
  · go_wp2_with fail
    rw [HQ.out]
    exact .inr ⟨rfl, rfl, rfl, Bel.of' (by (repeat (first | (with_reducible exact Below.refl _ _) | (with_reducible assumption) | (with_reducible refine below_drewN ?_ _) | (with_reducible refine Below.drew ?_) | (with_reducible refine Below.alloc ?_ (by (first | omega | (show _ < _; omega) | (simp; omega) | (simp; done))) _) | (with_reducible refine Below.setCell ?_ (by (first | omega | (show _ < _; omega) | (simp; omega) | (simp; done))) _) | (with_reducible refine Below.trans ?_ (Below.mono (by with_reducible assumption) (by (first | omega | (show _ < _; omega) | (simp; omega) | (simp; done))))) | (with_reducible refine below_grown ?_ (by with_reducible assumption) (by (first | omega | (show _ < _; omega) | (simp; omega) | (simp; done))) (by (first | omega | (show _ < _; omega) | (simp; omega) | (simp; done)))))))⟩
  replace hz2 := hz2 (by omega)
  have HZ2 := Lib.hid hz2
  clear hz2
  go_wp2_with fail
  refine (copySS HM.out HZ.out (Below.refl _ _)).mono ?_
  rintro e w1 ⟨rfl, C1, -, hb1⟩
  have HC1 := Lib.hid C1
  have HB1 := Lib.hid hb1
  clear C1 hb1
  go_wp2_with fail
  refine (copySS HN.out HZ2.out HB1.out).mono ?_
  rintro e w2 ⟨rfl, C2, hb12, hb2⟩
  have HC1' := Lib.hid (HC1.out.below hb12)
  have HC2 := Lib.hid C2
  have HB2 := Lib.hid hb2
  clear C2 hb12 hb2 HC1
  go_wp2_with fail
  refine (specCert_any _ n n zss _ n2 n2 yss w2 HC1'.out.mat HZ.out HC2.out.mat HZ2.out).mono ?_
  rintro e w3 ⟨v, rfl, ho3, hb3⟩
  obtain ⟨B0, c0, rfl, hc1, hc2, hrow⟩ := owns_row ho3
  have HB3 := Lib.hid (HB2.out.trans (hb3.mono HB2.out.size))
  have HW := Lib.hid hrow
  clear ho3 hb3 HC1' HC2 hrow
  go_wp2_with fail
  refine (copySS HM.out HZ.out HB3.out).mono ?_
  rintro e w4 ⟨rfl, C4, hb34, hb4⟩
  have HW4 := Lib.hid (HW.out.below hb34)
  have HC4 := Lib.hid C4
  have HB4 := Lib.hid hb4
  have hs34 := hb34.size
  clear C4 hb34 hb4 HW
  go_wp2_with fail
  refine (copySS HN.out HZ2.out HB4.out).mono ?_
  rintro e w5 ⟨rfl, C5, hb45, hb5⟩
  have HW5 := Lib.hid (HW4.out.below (hb45.mono hs34))
  have HC4' := Lib.hid (HC4.out.below hb45)
  have HR0 := Lib.hid ((RowsIn.of HC4.out.mp).below hb45 (Nat.le_refl _))
  have HC5 := Lib.hid C5
  have HR1 := Lib.hid (RowsIn.of C5.mp)
  have hl0 := HC4.out.mp.lt
  have hl1 := C5.mp.lt
  have HB5 := Lib.hid hb5
  have hs03 := HB3.out.size
  clear C5 hb45 hb5 HW4
  go_wp2_with fail
  rw [HQ.out]
  exact .inl ⟨rfl, _, _, _, _, _, _, _, _, _, _, _, _, _, _, _, _, _, _, _, _, _, _, _, B0, c0, _, _, _, _, rfl, ⟨HW5.out, HR0.out, HR1.out, Nat.le_refl _, hl0, hl1, Nat.le_refl _⟩, HC4'.out, HC5.out, hs03, Bel.of' HB5.out⟩
end Go.Proofs.YtafhpbghogdipaaDoor

/- What the row's list of variables gives: the table. -/
namespace Go.Proofs.YtafhpbghogdipaaDoor
open Go.RowKit Go.ChangeShapes
set_option maxHeartbeats 4000000
set_option maxRecDepth 100000

theorem gDb : Tryd.prog.globalNamed "math/bits.deBruijn64tab" = some 3 := by kernel_rfl
theorem gDbT : (Tryd.prog.globals[3]?).map (·.type) = some 101 := by kernel_rfl
theorem cells_db : Tryd.prog.cellsOf 101 = 64 := by kernel_rfl
theorem cells_u8 : Tryd.prog.cellsOf 5 = 1 := by kernel_rfl
theorem db_data : (Rows.laid_math_bits_deBruijn64tab : DataW Unit) = Lib.tabData .u8 (Lib.deBruijn64tab.map Int.ofNat) := by kernel_rfl
theorem tab_of {W : World} (h : laidMetH Tryd.prog Rows.fnExactIntersectCertifyRow.laid W) : TabAt 3 Lib.deBruijn64tab W := by
  rw [MakeChecks.laidMetH_plain _ _ _ (by kernel_rfl)] at h
  have h2 := h.tail
  rw [db_data] at h2
  have h3 := Lib.tabIs_of_head gDb gDbT Tryd.underlying101 Tryd.underlying5 cells_u8 cells_db h2
  intro j hj
  have h4 := h3.cell gDb j (by simpa using hj)
  rw [h4]
  congr 2
  simp [List.getD, hj]
end Go.Proofs.YtafhpbghogdipaaDoor
