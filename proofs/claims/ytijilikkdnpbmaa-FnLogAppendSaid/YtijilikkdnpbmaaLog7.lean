/- Appends of whole logs. -/
import Derived.Test.YtijilikkdnpbmaaLog6
namespace Go.Proofs.Ytijilikkdnpbmaa
open Go.RowKit
set_option maxHeartbeats 4000000
set_option linter.unusedVariables false

theorem wpl_append_recs {W : World} {ops : Array Oper} {rest : List Oper} {o : Oper} {a : Act} {Q : Exit → Act → World → Prop} (hgd : o.guard = none) (s x : Operand)
    (ho : o.op = .call { callee := .builtin .append, args := #[s, x], argTypes := #[25, 25] })
    (B : Nat) (v : Value) (n : Nat) (fl : List Int) (hs : a.eval s = v) (hown : OwnR W B v n fl) (B2 : Nat) (A : Option Addr) (m c : Nat) (ys : List Int) (hx : a.eval x = .slice A m c)
    (hr : Row W B2 A (ys.map (Value.int .i64))) (hm : ys.length = m * 2) (hA : A = none → m = 0)
    (hn : n ≤ 10000000) (hm2 : m ≤ 10000000) (hbase : B ≤ W.heap.size)
    (h : ∀ v' w', OwnR w' B v' (n + m) (fl ++ ys) → Below B W w' → W.grownBy w' v.ownBlock → (v'.ownBlock = v.ownBlock ∨ v'.ownBlock = some W.heap.size) → wpList Try.prog ops Q rest (a.put o.dst v') w') :
    wpList Try.prog ops Q (o :: rest) a W := by
  obtain ⟨i0, hi, hz0, hz1, hz2⟩ := info_parts logentry_info
  refine wpl_append_all hgd s x 25 ho B 33 i0 _ 2 16 Try.underlying25 hi hz0 hz1 hz2 rfl (by omega) v n _ hs hown.2 B2 A m c _ hx hr (by simp [hm]) hA (by simp [Value.oneCell']) hn hm2 (by omega) hbase ?_
  intro v' w' hown' h1 h2 h3
  refine h v' w' ⟨by simp [hown.1, hm]; omega, ?_⟩ h1 h2 h3
  simpa using hown'
theorem ownr_below {w w' : World} {B K n : Nat} {v : Value} {fl : List Int} (h : OwnR w B v n fl) (hb : Below K w w') (hK : w.heap.size ≤ K) : OwnR w' B v n fl := ⟨h.1, owns_below h.2 hb hK⟩
theorem ownr_alloc {w : World} {B n : Nat} {v : Value} {fl : List Int} (h : OwnR w B v n fl) (o : Obj) : OwnR (w.alloc o) B v n fl := ⟨h.1, h.2.alloc o⟩
theorem getD_snoc {fl : List Int} {m : Nat} (hl : fl.length = m * 2) (x y : Int) : fV (fl ++ [x, y]) m = x ∧ fC (fl ++ [x, y]) m = y := by
  unfold fV fC
  simp only [List.getD]
  rw [List.getElem?_append_right (by omega), List.getElem?_append_right (by omega), hl]
  simp
theorem getD_keep {fl : List Int} {m j : Nat} (hl : fl.length = m * 2) (hj : j < m) (x y : Int) : fV (fl ++ [x, y]) j = fV fl j ∧ fC (fl ++ [x, y]) j = fC fl j := by
  unfold fV fC
  simp only [List.getD]
  rw [List.getElem?_append_left (by omega), List.getElem?_append_left (by omega)]
  exact ⟨rfl, rfl⟩
theorem ent_snoc {fl : List Int} {m : Nat} (hl : fl.length = m * 2) (x y k : Int) : entTo (fl ++ [x, y]) k (m + 1) = (entTo fl k m && entB x y k) := by
  have h1 := getD_snoc hl x y
  have h2 : ∀ j, j ≤ m → entTo (fl ++ [x, y]) k j = entTo fl k j := by
    intro j
    induction j with
    | zero => intro _; rfl
    | succ j ih =>
      intro hj
      have hk := getD_keep hl (show j < m by omega) x y
      simp only [entTo, hk.1, hk.2, ih (by omega)]
  simp only [entTo, h1.1, h1.2, h2 m (Nat.le_refl _)]
theorem log_snoc_no {fl : List Int} {m : Nat} {k x y : Int} (hl : fl.length = m * 2) (hb : entB x y k = false) : logB (fl ++ [x, y]) k (m + 1) = false := by
  unfold logB
  rw [ent_snoc hl, hb]
  simp
end Go.Proofs.Ytijilikkdnpbmaa
