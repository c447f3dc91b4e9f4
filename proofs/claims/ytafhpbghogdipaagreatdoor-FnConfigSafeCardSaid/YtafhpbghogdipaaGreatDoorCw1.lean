/- Traces of one goroutine that starts others, each with places of its own: who knows what. -/
import Derived.Conc.CrowdRun
import Derived.Conc.Beside
namespace Go.Proofs.YtafhpbghogdipaaGreatDoor
open Go.Conc Go.ConcN
open Go.ConcR (KK wgBlock WgAt stA smA rd wr mk Payload DC0 Bk g_of_ofEvents)
set_option maxHeartbeats 2000000
set_option linter.unusedVariables false

/-- What goroutine g may do: shared places by sync alone; its own; the common ones it reads. -/
def OpOk (Sh Ro : Loc → Prop) (Rt : Nat → Loc → Prop) (g : Nat) (op : MemOp) : Prop :=
  op.g = g ∧ ∀ x, op.act.touch? = some x → (Sh x.loc ∧ x.kind ≠ .plain ∧ (x.kind = .said → g = 0)) ∨ Rt g x.loc ∨ (Ro x.loc ∧ x.write = false)
/-- The rights lie apart. -/
structure Lay (Sh Ro : Loc → Prop) (Rt : Nat → Loc → Prop) (act : Nat → Prop) : Prop where
  rt : ∀ g g' l, act g → act g' → Rt g l → Rt g' l → g = g'
  ro : ∀ g l, act g → Rt g l → ¬ Ro l
  sh : ∀ g l, act g → Rt g l → ¬ Sh l
  rs : ∀ l, Ro l → ¬ Sh l
structure TL (Sh Ro : Loc → Prop) (Rt : Nat → Loc → Prop) (act : Nat → Prop) (t : Trace) : Prop where
  quiet : Quiet Sh t
  rt : ∀ g, act g → ∀ l, Rt g l → Perm t g l
  ro : ∀ g, act g → ∀ l, Ro l → PermW t g l
  nr : ∀ said, ¬ Race said t

section
variable {Sh Ro : Loc → Prop} {Rt : Nat → Loc → Prop} {act : Nat → Prop} {t u : Trace}
theorem TL.app (A : Lay Sh Ro Rt act) (h : TL Sh Ro Rt act t) {g : Nat} (hg : act g) (hu : ∀ op ∈ u, OpOk Sh Ro Rt g op) : TL Sh Ro Rt act (t ++ u) := by
  refine ⟨h.quiet.app fun op hop x hx hs => ?_, fun k hk l hl => (h.rt k hk l hl).app fun op hop b hb e => ?_, fun k hk l hl => (h.ro k hk l hl).app fun op hop b hb e hw => ?_, fun said => ?_⟩
  · rcases (hu op hop).2 x hx with ⟨_, hk, hn⟩ | ho | ⟨hr, _⟩
    · exact ⟨hk, fun e => (hu op hop).1.trans (hn e)⟩
    · exact absurd hs (A.sh g _ hg ho)
    · exact absurd hs (A.rs _ hr)
  · rcases (hu op hop).2 b hb with ⟨hs, _⟩ | ho | ⟨hr, _⟩
    · exact absurd (e ▸ hs) (A.sh k l hk hl)
    · rw [(hu op hop).1]; exact A.rt g k l hg hk (e ▸ ho) hl
    · exact absurd (e ▸ hr) (A.ro k l hk hl)
  · rcases (hu op hop).2 b hb with ⟨hs, _⟩ | ho | ⟨_, hr⟩
    · exact absurd (e ▸ hs) (A.rs l hl)
    · exact absurd hl (A.ro g l hg (e ▸ ho))
    · rw [hr] at hw; cases hw
  · refine noRace_append (h.nr said) (fun op hop => (hu op hop).1) (fun i a ha op hop b hb hc => ?_)
    rcases (hu op hop).2 b hb with ⟨hs, hk, hn⟩ | ho | ⟨hr, hbw⟩
    · exact h.quiet.known hs hk hn i a ha hc
    · exact h.rt g hg b.loc ho i a ha hc.1
    · exact h.ro g hg b.loc hr i a ha hc.1 (hc.2.2.1.resolve_right (by simp [hbw]))

/-- Operations of one goroutine that touch nothing. -/
theorem TL.mute (h : TL Sh Ro Rt act t) {g : Nat} (hg : ∀ op ∈ u, op.g = g) (hu : ∀ op ∈ u, op.act.touch? = none) : TL Sh Ro Rt act (t ++ u) :=
  ⟨h.quiet.app fun op hop x hx _ => (by rw [hu op hop] at hx; cases hx), fun k hk l hl => (h.rt k hk l hl).app fun op hop b hb _ => (by rw [hu op hop] at hb; cases hb),
    fun k hk l hl => (h.ro k hk l hl).app fun op hop b hb _ _ => (by rw [hu op hop] at hb; cases hb), fun said => noRace_append (h.nr said) hg fun i a _ op hop b hb _ => (by rw [hu op hop] at hb; cases hb)⟩

/-- Other rights: each that is new is known. -/
theorem TL.change {Rt' : Nat → Loc → Prop} {act' : Nat → Prop} (h : TL Sh Ro Rt act t) (ha : ∀ g, act' g → act g) (hr : ∀ g l, act' g → Rt' g l → Rt g l ∨ ∀ i a, touchAt t i = some a → a.loc ≠ l) : TL Sh Ro Rt' act' t :=
  ⟨h.quiet, fun g hg l hl => (hr g l hg hl).elim (fun x => h.rt g (ha g hg) l x) (fun x i a hi e => absurd e (x i a hi)), fun g hg l hl => h.ro g (ha g hg) l hl, h.nr⟩

/-- A go statement. -/
theorem TL.fork {Rt' : Nat → Loc → Prop} {act' : Nat → Prop} (h : TL Sh Ro Rt act t) {k : Nat} {x y : MemOp} (hx : x.g = 0 ∧ x.act = .go k) (hy : y.g = k ∧ y.act = .start) (h0 : Deaf t 0 = 0) (hk : Deaf t k = 0) (a0 : act 0)
    (hact : ∀ g, act' g → act g ∨ g = k) (hR : ∀ g l, act g → Rt' g l → Rt g l) (hRk : ∀ l, Rt' k l → Rt 0 l) (hnk : ¬ act k) : TL Sh Ro Rt' act' (t ++ #[x, y]) := by
  have hnt : ∀ op ∈ #[x, y], ∀ b, op.act.touch? = some b → False := by
    intro op hop b hb
    simp only [List.mem_toArray, List.mem_cons, List.not_mem_nil, or_false] at hop
    rcases hop with rfl | rfl
    · rw [hx.2] at hb; cases hb
    · rw [hy.2] at hb; cases hb
  have old : ∀ {i : Nat} {a : Touch}, touchAt (t ++ #[x, y]) i = some a → touchAt t i = some a := by
    intro i a ha
    obtain ⟨z, hz, hza⟩ := touch_of ha
    rcases getElem?_append_cases hz with ⟨_, hz'⟩ | ⟨_, hzu⟩
    · rw [touchAt_of hz']; exact hza
    · exact (hnt z hzu a hza).elim
  refine ⟨h.quiet.app fun op hop b hb _ => (hnt op hop b hb).elim, fun g hg l hl => ?_, fun g hg l hl => ?_, fun said => ?_⟩
  · rcases hact g hg with ha | rfl
    · exact (h.rt g ha l (hR g l ha hl)).app fun op hop b hb _ => (hnt op hop b hb).elim
    · exact fun i a ha e => fork_knows hx hy h0 hk (h.rt 0 a0 l (hRk l hl) i a (old ha) e)
  · rcases hact g hg with ha | rfl
    · exact (h.ro g ha l hl).app fun op hop b hb _ _ => (hnt op hop b hb).elim
    · exact fun i a ha e hw => fork_knows hx hy h0 hk (h.ro 0 a0 l hl i a (old ha) e hw)
  · have e : t ++ #[x, y] = (t ++ #[x]) ++ #[y] := by apply Array.ext'; simp
    rw [e]
    refine noRace_append (g := k) (noRace_append (g := 0) (h.nr said) (fun op hop => by simp at hop; rw [hop]; exact hx.1) (fun i a _ op hop b hb _ => (hnt op (by simp at hop ⊢; exact .inl hop) b hb).elim))
      (fun op hop => by simp at hop; rw [hop]; exact hy.1) (fun i a _ op hop b hb _ => (hnt op (by simp at hop ⊢; exact .inr hop) b hb).elim)
end

/-- Between two stretches: goroutine 0 knows every touch, but atomic ones of shunned places. -/
structure PastX (Shun : Loc → Prop) (B : Nat) (t : Trace) : Prop where
  clean : ∀ said, ¬ Race said t
  known : ∀ i a, touchAt t i = some a → a.loc.isMemory = true → Knows t 0 i ∨ (Shun a.loc ∧ a.kind = .atomic)
  over : t.HandedOver
  hears : Deaf t 0 = 0
  seen : ∀ i a, touchAt t i = some a → a.loc.low B
theorem PastX.mono {Shun : Loc → Prop} {B B' : Nat} {t : Trace} (h : PastX Shun B t) (hB : B ≤ B') : PastX Shun B' t := ⟨h.clean, h.known, h.over, h.hears, fun i a ha => Loc.low_mono hB (h.seen i a ha)⟩

/-- What goroutine 0 knows, the workers' doing apart. -/
structure KN (Shun : Loc → Prop) (Wk : Nat → Prop) (t : Trace) : Prop where
  kn : ∀ i a, touchAt t i = some a → a.loc.isMemory = true → Knows t 0 i ∨ (Shun a.loc ∧ a.kind = .atomic) ∨ ∃ g, t.g? i = some g ∧ Wk g
  ov : ∀ i g, t.g? i = some g → g ≠ 0 → ¬ Wk g → t.counts i → ∃ j, t.g? j = some 0 ∧ HappensBefore t i j
theorem PastX.kn {Shun : Loc → Prop} {B : Nat} {t : Trace} (h : PastX Shun B t) (Wk : Nat → Prop) : KN Shun Wk t :=
  ⟨fun i a ha hm => (h.known i a ha hm).imp id .inl, fun i g hg hne _ hc => h.over i g hg hne hc⟩
theorem KN.more {Shun : Loc → Prop} {Wk Wk' : Nat → Prop} {t : Trace} (h : KN Shun Wk t) (hw : ∀ g, Wk g → Wk' g) : KN Shun Wk' t :=
  ⟨fun i a ha hm => (h.kn i a ha hm).imp id (.imp id fun ⟨g, h1, h2⟩ => ⟨g, h1, hw g h2⟩), fun i g hg hne hn hc => h.ov i g hg hne (fun x => hn (hw g x)) hc⟩
theorem KN.app {Shun : Loc → Prop} {Wk : Nat → Prop} {t u : Trace} (h : KN Shun Wk t) (hu : ∀ op ∈ u, op.g = 0 ∨ Wk op.g ∨ op.act.touch? = none) : KN Shun Wk (t ++ u) := by
  refine ⟨fun i a ha hm => ?_, fun i g hg hne hn hc => ?_⟩
  · obtain ⟨x, hx, hxa⟩ := touch_of ha
    rcases getElem?_append_cases hx with ⟨hlt, hx'⟩ | ⟨_, hxu⟩
    · rcases h.kn i a (by rw [touchAt_of hx']; exact hxa) hm with h1 | h1 | ⟨g, h1, h2⟩
      · exact .inl (h1.app u)
      · exact .inr (.inl h1)
      · exact .inr (.inr ⟨g, by rw [g?_old hlt]; exact h1, h2⟩)
    · rcases hu x hxu with h0 | h0 | h0
      · have := knows_own hx
        rw [h0] at this
        exact .inl this
      · exact .inr (.inr ⟨x.g, by simp [Trace.g?, hx], h0⟩)
      · rw [h0] at hxa; cases hxa
  · obtain ⟨x, hx, hm⟩ := hc
    obtain ⟨op, hop, hox⟩ := touch_of hx
    rcases getElem?_append_cases hop with ⟨hi, hop'⟩ | ⟨_, hopu⟩
    · obtain ⟨j, hj, hb⟩ := h.ov i g (by rw [← g?_old (u := u) hi]; exact hg) hne hn ((counts_old hi).1 ⟨x, hx, hm⟩)
      have hjl : j < t.size := by
        unfold Trace.g? at hj
        obtain ⟨z, hz, _⟩ := Option.map_eq_some_iff.1 hj
        exact lt_size_of_getElem? hz
      exact ⟨j, by rw [g?_old hjl]; exact hj, hb_app u hb⟩
    · have hgo : op.g = g := by simpa [Trace.g?, hop] using hg
      rcases hu op hopu with h0 | h0 | h0
      · exact absurd (hgo.symm.trans h0) hne
      · exact absurd (hgo ▸ h0) hn
      · rw [h0] at hox; cases hox

/-- Worker k has said its release, heard; what it has touched since is shared. -/
structure RelX (Sh : Loc → Prop) (a : Addr) (b : Nat) (t : Trace) (k r : Nat) : Prop extends RelBy a t k r where
  ge : b ≤ r
  late : ∀ i, r < i → t.g? i = some k → ∀ x, touchAt t i = some x → Sh x.loc
/-- No plain release from place b on. -/
def NoRelFrom (a : Addr) (b : Nat) (t : Trace) : Prop := ∀ i, b ≤ i → t.act? i ≠ some (.mark (.release a))
theorem NoRelFrom.app {a : Addr} {b : Nat} {t u : Trace} (h : NoRelFrom a b t) (hu : ∀ op ∈ u, op.act ≠ .mark (.release a)) : NoRelFrom a b (t ++ u) := by
  intro i hi hc
  obtain ⟨op, hop, he⟩ := Option.map_eq_some_iff.1 hc
  rcases getElem?_append_cases hop with ⟨_, hx'⟩ | ⟨_, hxu⟩
  · exact h i hi (by rw [act?_of hx', he])
  · exact hu op hxu he
theorem RelX.app {Sh : Loc → Prop} {a : Addr} {b : Nat} {t u : Trace} {k r : Nat} (h : RelX Sh a b t k r) (hr : RelBy a (t ++ u) k r) (hu : ∀ op ∈ u, op.g = k → ∀ x, op.act.touch? = some x → Sh x.loc) : RelX Sh a b (t ++ u) k r := by
  refine ⟨hr, h.ge, fun i hi hg x hx => ?_⟩
  obtain ⟨op, hop, hox⟩ := touch_of hx
  rcases getElem?_append_cases hop with ⟨hlt, hop'⟩ | ⟨_, hopu⟩
  · exact h.late i hi (by rw [← g?_old (u := u) hlt]; exact hg) x (by rw [touchAt_of hop']; exact hox)
  · exact hu op hopu (by simpa [Trace.g?, hop] using hg) x hox

/-- The join: goroutine 0 has said its acquire, heard, behind every worker's release. -/
theorem past_join {Sh Shun : Loc → Prop} {Wk : Nat → Prop} {a : Addr} {b B q : Nat} {t : Trace} (nr : ∀ said, ¬ Race said t) (kn : KN Shun Wk t) (hd : Deaf t 0 = 0) (seen : ∀ i a, touchAt t i = some a → a.loc.low B)
    (hn : NoRelFrom a b t) (hq : t.act? q = some (.mark (.acquire a))) (hg : t.g? q = some 0) (hh : t.heard q) (all : ∀ g, Wk g → ∃ r, RelX Sh a b t g r ∧ r < q) : PastX (fun l => Shun l ∨ Sh l) B t := by
  have edge : ∀ g, Wk g → ∃ r, RelX Sh a b t g r ∧ HappensBefore t r q := fun g hw => by
    obtain ⟨r, hr, hrq⟩ := all g hw
    exact ⟨r, hr, .single (.inr ⟨.marked hrq (.inr hr.act) hq (fun k h1 _ => hn k (by have := hr.ge; omega)), hr.heard, hh⟩)⟩
  have qz : ∃ z, t[q]? = some z ∧ z.g = 0 := Option.map_eq_some_iff.1 hg
  have main : ∀ i g, t.g? i = some g → Wk g → HappensBefore t i q ∨ (∃ r, RelX Sh a b t g r ∧ r < i) := fun i g hgi hw => by
    obtain ⟨r, hr, he⟩ := edge g hw
    rcases Nat.lt_trichotomy i r with h1 | h1 | h1
    · exact .inl (.trans (.single (.inl ⟨h1, g, hgi, hr.g⟩)) he)
    · subst h1; exact .inl he
    · exact .inr ⟨r, hr, h1⟩
  refine ⟨nr, fun i x hx hm => ?_, fun i g hgi hne hc => ?_, hd, seen⟩
  · rcases kn.kn i x hx hm with h1 | h1 | ⟨g, h1, h2⟩
    · exact .inl h1
    · exact .inr ⟨.inl h1.1, h1.2⟩
    · rcases main i g h1 h2 with h3 | ⟨r, hr, h3⟩
      · obtain ⟨z, hz, hz0⟩ := qz
        exact .inl ⟨q, z, hz, hz0, .inr h3⟩
      · refine .inr ⟨.inr (hr.late i h3 h1 x hx), ?_⟩
        have hnc := hr.after i h3 h1
        cases hk : x.kind with
        | atomic => rfl
        | plain => exact absurd ⟨x, hx, hm, .inl (by rw [hk]; simp)⟩ hnc
        | said => exact absurd ⟨x, hx, hm, .inl (by rw [hk]; simp)⟩ hnc
  · by_cases hw : Wk g
    · rcases main i g hgi hw with h3 | ⟨r, hr, h3⟩
      · exact ⟨q, hg, h3⟩
      · exact absurd hc (hr.after i h3 hgi)
    · exact kn.ov i g hgi hne hw hc
end Go.Proofs.YtafhpbghogdipaaGreatDoor
