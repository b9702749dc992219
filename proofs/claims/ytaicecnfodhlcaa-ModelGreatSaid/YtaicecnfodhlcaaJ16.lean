/- Ask: what is refused ahead of all. -/
import Derived.Test.YtaicecnfodhlcaaJ14
import Derived.Test.YtaicecnfodhlcaaJ10
set_option linter.unusedVariables false
set_option linter.unusedSimpArgs false
namespace Go.Proofs.Ytaicecnfodhlcaa
open Go.RowKit Go.Deep

abbrev askB (w : World) (mp : Nat) (s : Int) (req : Array Value) : World := (((w.alloc (.cells #[.pointer (some ⟨mp, 0, none⟩)] 28)).alloc (.cells #[.int .i64 s] 3)).alloc (.cells req 48)).alloc respO
theorem askB_below (w : World) (mp : Nat) (s : Int) (req : Array Value) : Below w.heap.size w (askB w mp s req) := ((((Below.refl _ _).alloc (Nat.le_refl _) _).alloc (by simp) _).alloc (by simp; omega) _).alloc (by simp; omega) _
theorem askB_resp (w : World) (mp : Nat) (s : Int) (req : Array Value) : (askB w mp s req).heap[w.heap.size + 1 + 1 + 1]? = some respO := blk_at (by simp)
set_option maxRecDepth 100000 in
set_option maxHeartbeats 4000000 in
theorem ask_session (mp : Nat) (s r : Int) (k i ep : Int) (qa : Option Addr) (qn qc : Nat) (fv : Int) (fk : ByteArray) (fs tv : Int) (tk : ByteArray) (ts lim : Int) (w : World) (hs : s < 1 ∨ 64 < s) :
    Calls Try.prog 12 #[.pointer (some ⟨mp, 0, none⟩), .int .i64 s, .agg #[.int .i64 k, .int .i64 i, .int .i64 ep, .slice qa qn qc, .int .i64 fv, .string fk, .int .i64 fs, .int .i64 tv, .string tk, .int .i64 ts, .int .i64 lim], .int .i64 r] w
      fun e w' => e = .returned (.tuple #[respE 0 0 0 0, .int .i64 1]) ∧ Below w.heap.size w w' := by
  have hb := askB_below w mp s #[.int .i64 k, .int .i64 i, .int .i64 ep, .slice qa qn qc, .int .i64 fv, .string fk, .int .i64 fs, .int .i64 tv, .string tk, .int .i64 ts, .int .i64 lim]
  have hr := askB_resp w mp s #[.int .i64 k, .int .i64 i, .int .i64 ep, .slice qa qn qc, .int .i64 fv, .string fk, .int .i64 fs, .int .i64 tv, .string tk, .int .i64 ts, .int .i64 lim]
  have Hb := Lib.hid hb
  have Hr := Lib.hid hr
  clear hb hr
  by_cases h1 : s < 1
  · clear hs
    go_enter Try.func12, Try.ntmps12
    go_wp2_with fail
    refine bodyPost_resp (g := w.heap.size + 1 + 1 + 1) (k := 0) (i := 0) (er := 0) (ep := 0) (rows := .slice none 0 0) (t := 0) (l := 0) (o := 0) (f := 0) (c := 0) (n := 0) rfl rfl Hr.out rfl ⟨rfl, Hb.out⟩
  · have h2 : 64 < s := by omega
    clear hs
    go_enter Try.func12, Try.ntmps12
    go_wp2_with fail
    refine bodyPost_resp (g := w.heap.size + 1 + 1 + 1) (k := 0) (i := 0) (er := 0) (ep := 0) (rows := .slice none 0 0) (t := 0) (l := 0) (o := 0) (f := 0) (c := 0) (n := 0) rfl rfl Hr.out rfl ⟨rfl, Hb.out⟩
set_option maxRecDepth 100000 in
set_option maxHeartbeats 4000000 in
theorem ask_wrong (mp : Nat) (s r x : Int) (k i ep : Int) (qa : Option Addr) (qn qc : Nat) (fv : Int) (fk : ByteArray) (fs tv : Int) (tk : ByteArray) (ts lim : Int) (w : World) (hs1 : 1 ≤ s) (hs2 : s ≤ 64) (hx : x ≠ 0)
    (hchk : ∀ W, Below w.heap.size w W → Calls Try.prog 32 #[.agg #[.int .i64 k, .int .i64 i, .int .i64 ep, .slice qa qn qc, .int .i64 fv, .string fk, .int .i64 fs, .int .i64 tv, .string tk, .int .i64 ts, .int .i64 lim]] W fun e w' => e = .returned (.int .i64 x) ∧ Below W.heap.size W w') :
    Calls Try.prog 12 #[.pointer (some ⟨mp, 0, none⟩), .int .i64 s, .agg #[.int .i64 k, .int .i64 i, .int .i64 ep, .slice qa qn qc, .int .i64 fv, .string fk, .int .i64 fs, .int .i64 tv, .string tk, .int .i64 ts, .int .i64 lim], .int .i64 r] w
      fun e w' => e = .returned (.tuple #[respE 0 0 0 0, .int .i64 x]) ∧ Below w.heap.size w w' := by
  have d1 : decide (s < 1) = false := by simp; omega
  have d2 : decide (64 < s) = false := by simp; omega
  have hxb : (x != 0) = true := by simp [hx]
  have hb := askB_below w mp s #[.int .i64 k, .int .i64 i, .int .i64 ep, .slice qa qn qc, .int .i64 fv, .string fk, .int .i64 fs, .int .i64 tv, .string tk, .int .i64 ts, .int .i64 lim]
  have hr := askB_resp w mp s #[.int .i64 k, .int .i64 i, .int .i64 ep, .slice qa qn qc, .int .i64 fv, .string fk, .int .i64 fs, .int .i64 tv, .string tk, .int .i64 ts, .int .i64 lim]
  have Hchk := Lib.hid hchk
  have Hb := Lib.hid hb
  have Hr := Lib.hid hr
  clear hb hr hchk hs1 hs2 hx
  go_enter Try.func12, Try.ntmps12
  go_wp2_with fail
  refine (Hchk.out _ Hb.out).mono ?_
  rintro e w1 ⟨rfl, hb1⟩
  have hb2 := Hb.out.trans (hb1.mono Hb.out.size)
  have hr1 := (hb1.block _ (lt_of_block Hr.out)).trans Hr.out
  have rf := frozen_blk hr1
  have z0 := cell_blk hr1 0
  have z1 := cell_blk hr1 1
  have z2 := cell_blk hr1 2
  have z3 := cell_blk hr1 3
  have z4 := cell_blk hr1 4
  have z5 := cell_blk hr1 5
  have z6 := cell_blk hr1 6
  have z7 := cell_blk hr1 7
  have z8 := cell_blk hr1 8
  have z9 := cell_blk hr1 9
  have z10 := cell_blk hr1 10
  simp at z0 z1 z2 z3 z4 z5 z6 z7 z8 z9 z10
  have Hb2 := Lib.hid hb2
  have Hr1 := Lib.hid hr1
  clear hb1 hb2 hr1
  go_wp2_with fail
  refine bodyPost_resp (g := w.heap.size + 1 + 1 + 1) (k := 0) (i := 0) (er := 0) (ep := 0) (rows := .slice none 0 0) (t := 0) (l := 0) (o := 0) (f := 0) (c := 0) (n := 0) rfl rfl ?_ rfl ⟨rfl, ?_⟩
  · with_reducible exact set11 Hr1.out _ _ _ _ _ _ _ _ _ _ _
  · with_reducible exact below11 Hb2.out (by omega) _ _ _ _ _ _ _ _ _ _ _
set_option maxRecDepth 100000 in
set_option maxHeartbeats 4000000 in
theorem ask_strange (mp : Nat) (s r : Int) (k i ep : Int) (qa : Option Addr) (qn qc : Nat) (fv : Int) (fk : ByteArray) (fs tv : Int) (tk : ByteArray) (ts lim : Int) (w : World) (hs1 : 1 ≤ s) (hs2 : s ≤ 64) (hr0 : r ≠ 0) (hr1 : r ≠ 35) (hr2 : r ≠ 36)
    (hchk : ∀ W, Below w.heap.size w W → Calls Try.prog 32 #[.agg #[.int .i64 k, .int .i64 i, .int .i64 ep, .slice qa qn qc, .int .i64 fv, .string fk, .int .i64 fs, .int .i64 tv, .string tk, .int .i64 ts, .int .i64 lim]] W fun e w' => e = .returned (.int .i64 0) ∧ Below W.heap.size W w') :
    Calls Try.prog 12 #[.pointer (some ⟨mp, 0, none⟩), .int .i64 s, .agg #[.int .i64 k, .int .i64 i, .int .i64 ep, .slice qa qn qc, .int .i64 fv, .string fk, .int .i64 fs, .int .i64 tv, .string tk, .int .i64 ts, .int .i64 lim], .int .i64 r] w
      fun e w' => e = .returned (.tuple #[respE 0 0 0 0, .int .i64 1]) ∧ Below w.heap.size w w' := by
  have d1 : decide (s < 1) = false := by simp; omega
  have d2 : decide (64 < s) = false := by simp; omega
  have e0 : (r != 0) = true := by simp [hr0]
  have e1 : (r != 35) = true := by simp [hr1]
  have e2 : (r != 36) = true := by simp [hr2]
  have hb := askB_below w mp s #[.int .i64 k, .int .i64 i, .int .i64 ep, .slice qa qn qc, .int .i64 fv, .string fk, .int .i64 fs, .int .i64 tv, .string tk, .int .i64 ts, .int .i64 lim]
  have hr := askB_resp w mp s #[.int .i64 k, .int .i64 i, .int .i64 ep, .slice qa qn qc, .int .i64 fv, .string fk, .int .i64 fs, .int .i64 tv, .string tk, .int .i64 ts, .int .i64 lim]
  have Hchk := Lib.hid hchk
  have Hb := Lib.hid hb
  have Hr := Lib.hid hr
  clear hb hr hchk hs1 hs2 hr0 hr1 hr2
  go_enter Try.func12, Try.ntmps12
  go_wp2_with fail
  refine (Hchk.out _ Hb.out).mono ?_
  rintro e w1 ⟨rfl, hb1⟩
  have hb2 := Hb.out.trans (hb1.mono Hb.out.size)
  have hr1 := (hb1.block _ (lt_of_block Hr.out)).trans Hr.out
  have rf := frozen_blk hr1
  have z0 := cell_blk hr1 0
  have z1 := cell_blk hr1 1
  have z2 := cell_blk hr1 2
  have z3 := cell_blk hr1 3
  have z4 := cell_blk hr1 4
  have z5 := cell_blk hr1 5
  have z6 := cell_blk hr1 6
  have z7 := cell_blk hr1 7
  have z8 := cell_blk hr1 8
  have z9 := cell_blk hr1 9
  have z10 := cell_blk hr1 10
  simp at z0 z1 z2 z3 z4 z5 z6 z7 z8 z9 z10
  have Hb2 := Lib.hid hb2
  have Hr1 := Lib.hid hr1
  clear hb1 hb2 hr1
  go_wp2_with fail
  refine bodyPost_resp (g := w.heap.size + 1 + 1 + 1) (k := 0) (i := 0) (er := 0) (ep := 0) (rows := .slice none 0 0) (t := 0) (l := 0) (o := 0) (f := 0) (c := 0) (n := 0) rfl rfl ?_ rfl ⟨rfl, ?_⟩
  · with_reducible exact set11 Hr1.out _ _ _ _ _ _ _ _ _ _ _
  · with_reducible exact below11 Hb2.out (by omega) _ _ _ _ _ _ _ _ _ _ _
set_option maxRecDepth 100000 in
set_option maxHeartbeats 4000000 in
theorem ask_refused (mp : Nat) (s r : Int) (k i ep : Int) (qa : Option Addr) (qn qc : Nat) (fv : Int) (fk : ByteArray) (fs tv : Int) (tk : ByteArray) (ts lim : Int) (w : World) (hs1 : 1 ≤ s) (hs2 : s ≤ 64) (hr : r = 35 ∨ r = 36)
    (hchk : ∀ W, Below w.heap.size w W → Calls Try.prog 32 #[.agg #[.int .i64 k, .int .i64 i, .int .i64 ep, .slice qa qn qc, .int .i64 fv, .string fk, .int .i64 fs, .int .i64 tv, .string tk, .int .i64 ts, .int .i64 lim]] W fun e w' => e = .returned (.int .i64 0) ∧ Below W.heap.size W w') :
    Calls Try.prog 12 #[.pointer (some ⟨mp, 0, none⟩), .int .i64 s, .agg #[.int .i64 k, .int .i64 i, .int .i64 ep, .slice qa qn qc, .int .i64 fv, .string fk, .int .i64 fs, .int .i64 tv, .string tk, .int .i64 ts, .int .i64 lim], .int .i64 r] w
      fun e w' => e = .returned (.tuple #[respE 5 i r 0, .int .i64 0]) ∧ Below w.heap.size w w' := by
  have d1 : decide (s < 1) = false := by simp; omega
  have d2 : decide (64 < s) = false := by simp; omega
  have hb := askB_below w mp s #[.int .i64 k, .int .i64 i, .int .i64 ep, .slice qa qn qc, .int .i64 fv, .string fk, .int .i64 fs, .int .i64 tv, .string tk, .int .i64 ts, .int .i64 lim]
  have hr9 := askB_resp w mp s #[.int .i64 k, .int .i64 i, .int .i64 ep, .slice qa qn qc, .int .i64 fv, .string fk, .int .i64 fs, .int .i64 tv, .string tk, .int .i64 ts, .int .i64 lim]
  have hq9 : (askB w mp s #[.int .i64 k, .int .i64 i, .int .i64 ep, .slice qa qn qc, .int .i64 fv, .string fk, .int .i64 fs, .int .i64 tv, .string tk, .int .i64 ts, .int .i64 lim]).heap[w.heap.size + 1 + 1]? = some (.cells #[.int .i64 k, .int .i64 i, .int .i64 ep, .slice qa qn qc, .int .i64 fv, .string fk, .int .i64 fs, .int .i64 tv, .string tk, .int .i64 ts, .int .i64 lim] 48 (0, 0)) := by
    rw [blk_old (by simp)]
    exact blk_at (by simp)
  have Hchk := Lib.hid hchk
  have Hb := Lib.hid hb
  have Hr := Lib.hid hr9
  have Hq := Lib.hid hq9
  clear hb hr9 hq9 hchk hs1 hs2
  have main : ∀ W1, Below (askB w mp s #[.int .i64 k, .int .i64 i, .int .i64 ep, .slice qa qn qc, .int .i64 fv, .string fk, .int .i64 fs, .int .i64 tv, .string tk, .int .i64 ts, .int .i64 lim]).heap.size (askB w mp s #[.int .i64 k, .int .i64 i, .int .i64 ep, .slice qa qn qc, .int .i64 fv, .string fk, .int .i64 fs, .int .i64 tv, .string tk, .int .i64 ts, .int .i64 lim]) W1 →
      Calls Try.prog 33 #[.int .i64 r, .pointer (some ⟨w.heap.size + 1 + 1, 0, none⟩)] W1 fun e w' => e = .returned (.tuple #[respE 5 i r 0, .int .i64 0]) ∧ Below W1.heap.size W1 w' := by
    intro W1 h1
    have hq := (h1.block _ (lt_of_block Hq.out)).trans Hq.out
    exact ask1_any (w.heap.size + 1 + 1) i r W1 (cell_blk hq 1) (lt_of_block hq)
  have Hmain := Lib.hid main
  clear main
  rcases hr with rfl | rfl
  all_goals (
    go_enter Try.func12, Try.ntmps12
    go_wp2_with fail
    refine (Hchk.out _ Hb.out).mono ?_
    rintro e w1 ⟨rfl, hb1⟩
    have Hb1 := Lib.hid hb1
    clear hb1
    go_wp2_with fail
    refine (Hmain.out _ Hb1.out).mono ?_
    rintro e w2 ⟨rfl, hb2⟩
    have hbb := Hb1.out.trans (hb2.mono Hb1.out.size)
    have hb3 := Hb.out.trans (hbb.mono Hb.out.size)
    have hr1 := (hbb.block _ (lt_of_block Hr.out)).trans Hr.out
    have rf := frozen_blk hr1
    have z0 := cell_blk hr1 0
    have z1 := cell_blk hr1 1
    have z2 := cell_blk hr1 2
    have z3 := cell_blk hr1 3
    have z4 := cell_blk hr1 4
    have z5 := cell_blk hr1 5
    have z6 := cell_blk hr1 6
    have z7 := cell_blk hr1 7
    have z8 := cell_blk hr1 8
    have z9 := cell_blk hr1 9
    have z10 := cell_blk hr1 10
    simp at z0 z1 z2 z3 z4 z5 z6 z7 z8 z9 z10
    have Hb3 := Lib.hid hb3
    have Hr1 := Lib.hid hr1
    clear hb2 hbb hb3 hr1
    go_wp2_with fail
    refine bodyPost_resp (g := w.heap.size + 1 + 1 + 1) (k := 5) (i := i) (ep := 0) (rows := .slice none 0 0) (t := 0) (l := 0) (o := 0) (f := 0) (c := 0) (n := 0) rfl rfl ?_ rfl ⟨rfl, ?_⟩
    · with_reducible exact set11 Hr1.out _ _ _ _ _ _ _ _ _ _ _
    · with_reducible exact below11 Hb3.out (by omega) _ _ _ _ _ _ _ _ _ _ _)
end Go.Proofs.Ytaicecnfodhlcaa
/- drop: a session holds an epoch no more. The parts. -/
set_option linter.unusedVariables false
set_option linter.unusedSimpArgs false
namespace Go.Proofs.Ytaicecnfodhlcaa
open Go.RowKit Go.Deep

theorem mDel_keys {m : List (Int × Value)} {c : Int} (d : Int) : d ∈ (mDel m c).map (·.1) ↔ d ∈ m.map (·.1) ∧ d ≠ c := by
  unfold mDel
  constructor
  · intro h
    obtain ⟨p, hp, rfl⟩ := List.mem_map.1 h
    have := List.mem_filter.1 hp
    exact ⟨List.mem_map.2 ⟨p, this.1, rfl⟩, by simpa using this.2⟩
  · rintro ⟨h, hn⟩
    obtain ⟨p, hp, rfl⟩ := List.mem_map.1 h
    exact List.mem_map.2 ⟨p, List.mem_filter.2 ⟨hp, by simpa using hn⟩, rfl⟩
theorem mem_mDel {m : List (Int × Value)} {c : Int} (q : Int × Value) : q ∈ mDel m c ↔ q ∈ m ∧ q.1 ≠ c := by
  unfold mDel
  rw [List.mem_filter]
  simp
theorem HasSet.del {w : World} {b : Nat} {p : Int → Bool} (h : HasSet w b p) (e : Int) (ty : TypeId) :
    ∃ w', (Builtin.delete_ #[138, 3] ty #[.map (some b), .int .i64 e]).run Try.prog w = .ok (.tuple #[]) w' ∧ HasSet w' b (fun x => p x && !decide (x = e)) ∧ Chg [b] w w' ∧ w'.heap.size = w.heap.size := by
  obtain ⟨m, hm, h1, h2⟩ := h
  obtain ⟨w', hr, hm', hg, hs⟩ := MapIs.delete (P := Try.prog) keyInt Try.underlying138 hm e ty
  refine ⟨w', hr, ⟨_, hm', ?_, ?_⟩, Chg.of_grown hg, hs⟩
  · exact fun q hq => h1 q ((mem_mDel q).1 hq).1
  · intro d
    rw [mDel_keys, ← h2 d]
    simp
abbrev Mst.letGo (S : Mst) (s e : Int) : Mst := { S with holds := fun s' e' => S.holds s' e' && !(decide (s' = s) && decide (e' = e)) }
abbrev Mst.unseal (S : Mst) (e : Int) : Mst := { S with seals := fun e' => if e' = e then none else S.seals e' }
/-- Does any session hold the epoch? -/
def Mst.anyHolds (S : Mst) (e : Int) : Bool := (List.range 65).any fun (i : Nat) => S.holds (i : Int) e
def Mst.drop (S : Mst) (s e : Int) : Mst := if (S.letGo s e).anyHolds e = true then S.letGo s e else (S.letGo s e).unseal e
theorem Mst.anyHolds_iff {S : Mst} {e : Int} (h : ∀ s, S.holds s e = true → 1 ≤ s ∧ s ≤ 64) : S.anyHolds e = true ↔ ∃ s, S.holds s e = true := by
  unfold Mst.anyHolds
  rw [List.any_eq_true]
  constructor
  · rintro ⟨i, _, hi⟩; exact ⟨_, hi⟩
  · rintro ⟨s, hs⟩
    have := h s hs
    exact ⟨s.toNat, List.mem_range.2 (by omega), by rw [show ((s.toNat : Nat) : Int) = s by omega]; exact hs⟩
theorem Mst.Inv.dropped {S : Mst} (h : S.Inv) (s e : Int) : (S.drop s e).Inv := by
  have hold : ∀ s' e', (S.letGo s e).holds s' e' = true → S.holds s' e' = true := fun s' e' hh => by
    have hh' : (S.holds s' e' && !(decide (s' = s) && decide (e' = e))) = true := hh
    rw [Bool.and_eq_true] at hh'
    exact hh'.1
  have hoth : ∀ s' e', e' ≠ e → (S.letGo s e).holds s' e' = S.holds s' e' := fun s' e' hne => by
    show (S.holds s' e' && !(decide (s' = s) && decide (e' = e))) = _
    simp [hne]
  have hany := Mst.anyHolds_iff (S := S.letGo s e) (e := e) (fun s' hs' => ⟨(h.old s' e (hold s' e hs')).1, (h.old s' e (hold s' e hs')).2.1⟩)
  unfold Mst.drop
  split
  · rename_i ha
    refine ⟨h.cfg, h.msl, h.mrow, h.tdl, h.rise, h.may, h.now, fun s' e' hh => h.old s' e' (hold s' e' hh), fun e' => ?_, h.sok, h.cnt, h.tms, h.tok⟩
    by_cases he : e' = e
    · subst he
      show (S.seals e').isSome = true ↔ _
      rw [h.slk e']
      obtain ⟨s1, hs1⟩ := hany.1 ha
      exact ⟨fun _ => ⟨s1, hs1⟩, fun _ => ⟨s1, hold _ _ hs1⟩⟩
    · show (S.seals e').isSome = true ↔ _
      rw [h.slk e']
      constructor
      · rintro ⟨s1, h1⟩; exact ⟨s1, (hoth s1 e' he).trans h1⟩
      · rintro ⟨s1, h1⟩; exact ⟨s1, (hoth s1 e' he).symm.trans h1⟩
  · rename_i ha
    refine ⟨h.cfg, h.msl, h.mrow, h.tdl, h.rise, h.may, h.now, fun s' e' hh => h.old s' e' (hold s' e' hh), fun e' => ?_, ?_, h.cnt, h.tms, h.tok⟩
    · show (if e' = e then none else S.seals e').isSome = true ↔ ∃ s', (S.letGo s e).holds s' e' = true
      by_cases he : e' = e
      · rw [if_pos he]
        subst he
        exact ⟨fun hh => (by cases hh), fun hh => absurd (hany.2 hh) ha⟩
      · rw [if_neg he, h.slk e']
        constructor
        · rintro ⟨s1, h1⟩; exact ⟨s1, (hoth s1 e' he).trans h1⟩
        · rintro ⟨s1, h1⟩; exact ⟨s1, (hoth s1 e' he).symm.trans h1⟩
    · intro e' L' he'
      have he'' : (if e' = e then none else S.seals e') = some L' := he'
      by_cases he : e' = e
      · rw [if_pos he] at he''; cases he''
      · rw [if_neg he] at he''; exact h.sok e' L' he''
theorem Parts.letGo {w : World} {B : MB} {S : Mst} (h : Parts w B S) (s e : Int) (b : Nat) (hb : B.hk s = some b) (ty : TypeId) :
    ∃ w', (Builtin.delete_ #[138, 3] ty #[.map (some b), .int .i64 e]).run Try.prog w = .ok (.tuple #[]) w' ∧ Parts w' B (S.letGo s e) ∧ Turn w w' B B ∧ w'.heap.size = w.heap.size := by
  obtain ⟨hlb, m, hm, h1, h2⟩ := h.holds
  obtain ⟨hmem, hset, hlab⟩ := h1 s b hb
  obtain ⟨w', hr, hp, hc, hz⟩ := hset.del e ty
  have hk : ∀ g, B.lab g ≠ .no → g ≠ b → w'.heap[g]? = w.heap[g]? := fun g hg hn => hc.block g (h.lt g hg) (by simpa using hn)
  have hn : ∀ g x, B.lab g = x → x ≠ .no → x ≠ .hold s → w'.heap[g]? = w.heap[g]? := fun g x e1 e2 e3 => hk g (by rw [e1]; exact e2) (fun e4 => e3 (by rw [← e1, e4]; exact hlab))
  refine ⟨w', hr, ⟨?_, ?_, ?_, ?_, ?_, ?_, ⟨hlb, m, hm.keep (hn _ _ hlb (by decide) (by simp)), ?_, ?_⟩, fun g hg => by rw [hz]; exact h.lt g hg⟩, Turn.of_chg hc (fun g hg => by rw [List.mem_singleton.1 hg, hlab]; simp), hz⟩
  · have := h.obj.keep (w' := w') fun g e => hn g _ e (by simp) (by simp)
    exact ⟨this.obj, this.lb⟩
  · exact (h.views.keep fun g e => hn g _ e (by simp) (by simp)).cast rfl rfl rfl fun _ e => e
  · exact (h.there.keep fun g e => hn g _ e (by simp) (by simp)).cast rfl rfl fun _ e => e
  · exact (h.marks.keep fun g e => by rcases e with e | ⟨i, e⟩ | ⟨i, e⟩ <;> exact hn g _ e (by simp) (by simp)).cast rfl rfl rfl rfl fun _ _ => rfl
  · exact (h.told.keep fun g e => by rcases e with e | ⟨i, e⟩ <;> exact hn g _ e (by simp) (by simp)).cast rfl rfl rfl rfl fun _ _ => rfl
  · exact (h.seals.keep fun g e => by rcases e with e | ⟨i, e⟩ <;> exact hn g _ e (by simp) (by simp)).cast rfl rfl rfl fun _ _ => rfl
  · intro s' b' hs'
    obtain ⟨a1, a2, a3⟩ := h1 s' b' hs'
    by_cases e1 : s' = s
    · subst e1
      rw [hb] at hs'
      cases hs'
      exact ⟨a1, hp.congr fun x => by simp, a3⟩
    · exact ⟨a1, (a2.keep (hn _ _ a3 (by simp) (by simp [e1]))).congr fun x => by simp [e1], a3⟩
  · intro s' hs'
    refine ⟨(h2 s' hs').1, fun x => ?_⟩
    show (S.holds s' x && !(decide (s' = s) && decide (x = e))) = false
    rw [(h2 s' hs').2 x]
    rfl
theorem Parts.unsealed {w : World} {B : MB} {S : Mst} (h : Parts w B S) (e : Int) (ty : TypeId) :
    ∃ w', (Builtin.delete_ #[84, 3] ty #[.map (some B.bs), .int .i64 e]).run Try.prog w = .ok (.tuple #[]) w' ∧ Parts w' B (S.unseal e) ∧ Turn w w' B B ∧ w'.heap.size = w.heap.size := by
  obtain ⟨hlb, m, hm, h1, h2⟩ := h.seals
  obtain ⟨w', hr, hm', hg, hz⟩ := MapIs.delete (P := Try.prog) keyInt Try.underlying84 hm e ty
  have hc := Chg.of_grown hg
  have hk : ∀ g, B.lab g ≠ .no → g ≠ B.bs → w'.heap[g]? = w.heap[g]? := fun g hg hn => hc.block g (h.lt g hg) (by simpa using hn)
  have hn : ∀ g x, B.lab g = x → x ≠ .no → x ≠ .seals → w'.heap[g]? = w.heap[g]? := fun g x e1 e2 e3 => hk g (by rw [e1]; exact e2) (fun e4 => e3 (by rw [← e1, e4]; exact hlb))
  refine ⟨w', hr, ⟨?_, ?_, ?_, ?_, ?_, ⟨hlb, _, hm', ?_, ?_⟩, ?_, fun g hg => by rw [hz]; exact h.lt g hg⟩, Turn.of_chg hc (fun g hg => by rw [List.mem_singleton.1 hg, hlb]; simp), hz⟩
  · have := h.obj.keep (w' := w') fun g e => hn g _ e (by simp) (by simp)
    exact ⟨this.obj, this.lb⟩
  · exact (h.views.keep fun g e => hn g _ e (by simp) (by simp)).cast rfl rfl rfl fun _ e => e
  · exact (h.there.keep fun g e => hn g _ e (by simp) (by simp)).cast rfl rfl fun _ e => e
  · exact (h.marks.keep fun g e => by rcases e with e | ⟨i, e⟩ | ⟨i, e⟩ <;> exact hn g _ e (by simp) (by simp)).cast rfl rfl rfl rfl fun _ _ => rfl
  · exact (h.told.keep fun g e => by rcases e with e | ⟨i, e⟩ <;> exact hn g _ e (by simp) (by simp)).cast rfl rfl rfl rfl fun _ _ => rfl
  · intro e' L' he'
    have he'' : (if e' = e then none else S.seals e') = some L' := he'
    by_cases e1 : e' = e
    · rw [if_pos e1] at he''; cases he''
    · rw [if_neg e1] at he''
      obtain ⟨a1, a2, a3⟩ := h1 e' L' he''
      exact ⟨(mem_mDel _).2 ⟨a1, e1⟩, a2.keep (hn _ _ a3 (by simp) (by simp)), a3⟩
  · intro e' he'
    have he'' : (if e' = e then none else S.seals e') = none := he'
    rw [mDel_keys]
    rintro ⟨h3, h4⟩
    rw [if_neg h4] at he''
    exact h2 e' he'' h3
  · exact (h.holds.keep fun g e => by rcases e with e | ⟨i, e⟩ <;> exact hn g _ e (by simp) (by simp)).cast rfl rfl rfl fun _ _ => rfl
end Go.Proofs.Ytaicecnfodhlcaa
/- drop: the walk. -/
set_option linter.unusedVariables false
set_option linter.unusedSimpArgs false
namespace Go.Proofs.Ytaicecnfodhlcaa
open Go.RowKit Go.Deep

theorem wpList_nextI {P : Program} {w : World} {ops : Array Oper} {rest : List Oper} {o : Oper} {a : Act} {Q : Exit → Act → World → Prop} (hg : o.guard = none) (x : Operand) (hop : o.op = Op.next x false) (r it : Nat) (m left : List (Int × Value)) (hx : a.eval x = .pointer (some ⟨it, 0, none⟩)) (h : Ranging intV w r it m left)
    (hDone : left = [] → wpList P ops Q rest (a.put o.dst (.tuple #[.bool false])) w)
    (hMore : ∀ (c : Int) (y : Value) w', (c, y) ∈ left → Ranging intV w' r it m (left.filter fun q => decide (q.1 ≠ c)) → w.grownBy w' (some it) → w'.heap.size = w.heap.size → (Instr.entry (.pointer (some ⟨it, 0, none⟩))).run P w' = .ok (.tuple #[.int .i64 c, y]) w' → wpList P ops Q rest (a.put o.dst (.tuple #[.bool true, .int .i64 c, y])) w') : wpList P ops Q (o :: rest) a w :=
  wpList_nextM hg x hop r it m left hx h hDone fun p w' h1 h2 h3 h4 h5 => hMore p.1 p.2 w' h1 h2 h3 h4 h5
theorem Parts.cell16 {w : World} {B : MB} {S : Mst} (h : Parts w B S) : w.cell? ⟨B.mp, 16, none⟩ = some (.map (some B.bs)) := h.obj.cells.2.2.2.2.2.2.2.2.1
set_option maxRecDepth 100000 in
set_option maxHeartbeats 4000000 in
theorem drop_parts {w : World} {B : MB} {S : Mst} (h : IsModel w B S) (s e : Int) (hse : S.holds s e = true) :
    Calls Try.prog 69 #[.pointer (some ⟨B.mp, 0, none⟩), .int .i64 s, .int .i64 e] w fun r w' => r = .returned (.tuple #[]) ∧ IsModel w' B (S.drop s e) ∧ Turn w w' B B := by
  have hc := h.parts.cell17
  have hg := h.holds.get s
  obtain ⟨b, hb⟩ : ∃ b, B.hk s = some b := by
    obtain ⟨_, m, _, _, h2⟩ := h.holds
    cases hs : B.hk s with
    | some b => exact ⟨b, rfl⟩
    | none => rw [(h2 s hs).2 e] at hse; cases hse
  rw [hb] at hg
  obtain ⟨w1, hr1, hP1, hT1, hz1⟩ := h.parts.letGo s e b hb 0
  have hinv := h.inv.dropped s e
  have hany : (∀ x : Int, ∀ v, (x, v) ∈ ([] : List (Int × Value)) → True) := fun _ _ hh => by cases hh
  obtain ⟨hlb, m, hm, h1, h2⟩ := hP1.holds
  have hold : ∀ s', (S.letGo s e).holds s' e = true → 1 ≤ s' ∧ s' ≤ 64 := fun s' hh => by
    have hh' : (S.holds s' e && !(decide (s' = s) && decide (e = e))) = true := hh
    rw [Bool.and_eq_true] at hh'
    exact ⟨(h.inv.old s' e hh'.1).1, (h.inv.old s' e hh'.1).2.1⟩
  have hai := Mst.anyHolds_iff hold
  have hent : ∀ s' v, (s', v) ∈ m → ∃ b', v = .map (some b') ∧ HasSet w1 b' ((S.letGo s e).holds s') ∧ B.lab b' = .hold s' := by
    intro s' v hv
    cases hs' : B.hk s' with
    | none => exact absurd (List.mem_map.2 ⟨_, hv, rfl⟩) (h2 s' hs').1
    | some b' =>
      obtain ⟨a1, a2, a3⟩ := h1 s' b' hs'
      have g1 := mGet_some hm.nd a1
      have g2 := mGet_some hm.nd hv
      rw [g1] at g2
      exact ⟨b', (Option.some.inj g2).symm, a2, a3⟩
  have hnone : (∀ s' v, (s', v) ∈ m → (S.letGo s e).holds s' e = false) → ¬ (S.letGo s e).anyHolds e = true := by
    intro hh ha
    obtain ⟨s', hs'⟩ := hai.1 ha
    cases hk' : B.hk s' with
    | none => rw [(h2 s' hk').2 e] at hs'; cases hs'
    | some b' =>
      rw [hh s' _ (h1 s' b' hk').1] at hs'
      cases hs'
  have hc1 := hP1.cell17
  have hbl : B.bh < w1.heap.size := hm.lt
  have Hh := Lib.hid h
  have HP := Lib.hid hP1
  have HT := Lib.hid hT1
  have Hinv := Lib.hid hinv
  have Hai := Lib.hid hai
  have Hent := Lib.hid hent
  have Hnone := Lib.hid hnone
  clear h hP1 hT1 hinv hany hold hai hent hnone hb h1 h2 hlb hz1
  go_enter Try.func69, Try.ntmps69
  go_wp2_with (at_range; refine wpList_rangeM rfl _ rfl Try.underlying85 B.bh m rfl hm ?_)
  intro w2 hrg hg2 hs2
  have hb2 : Below w1.heap.size w1 w2 := (Below.refl _ _).grown hg2 (Nat.le_refl _) (fun k hk => by cases hk)
  clear hm hg2
  go_wp2_with fail
  go_loopg [7] m.length (fun g v wr => ∃ left, g = left.length ∧ Ranging intV wr B.bh w1.heap.size m left ∧ (∀ s' y, (s', y) ∈ m → (s', y) ∈ left ∨ (S.letGo s e).holds s' e = false) ∧ Below w1.heap.size w1 wr)
  case atStart => exact ⟨m, rfl, hrg, fun s' y hy => .inl hy, hb2⟩
  case round =>
    obtain ⟨left, hg, hrg, hdone, hb⟩ := hrel
    have Hg := Lib.hid hg
    have Hdone := Lib.hid hdone
    have Hb := Lib.hid hb
    clear hg hdone hb
    go_wp2_with (at_next; refine wpList_nextI rfl _ rfl B.bh w1.heap.size m left rfl hrg ?_ ?_)
    · intro h0
      have hna := Hnone.out (fun s' v hv => by
        rcases Hdone.out s' v hv with h1 | h1
        · rw [h0] at h1; cases h1
        · exact h1)
      have hP3 := HP.out.below Hb.out
      have hc3 := hP3.cell16
      obtain ⟨w4, hr4, hP4, hT4, hz4⟩ := hP3.unsealed e 0
      have hfin : S.drop s e = (S.letGo s e).unseal e := by unfold Mst.drop; rw [if_neg hna]
      have hM : IsModel w4 B (S.drop s e) := by
        have hi := Hinv.out
        rw [hfin] at hi ⊢
        exact hP4.model hi
      have H4 := Lib.hid (And.intro hM ((HT.out.trans (Turn.of_below B Hb.out)).trans hT4))
      clear h0 hna hP3 hP4 hT4 hfin hM
      go_wp2_with fail
      go_end0
      exact ⟨rfl, H4.out.1, H4.out.2⟩
    · intro c y w3 hcy hrg3 hgr3 hz3 hent3
      have hsub := (hrg.sub.subset hcy)
      obtain ⟨b', rfl, hset, hlab⟩ := Hent.out c y hsub
      have hb3 : Below w1.heap.size w1 w3 := Hb.out.grown hgr3 Hb.out.size (fun k hk => by cases hk; exact Nat.le_refl _)
      obtain ⟨v0, hv⟩ : ∃ v0, (S.letGo s e).holds c e = v0 := ⟨_, rfl⟩
      have hget : (Instr.lookup 138 (.map (some b')) (.int .i64 e) false).run Try.prog w3 = .ok (.bool v0) w3 := by
        rw [← hv]
        exact (hset.keep (hb3.block b' hset.lt)).get e
      have hgeq := Hg.out
      have Hrg := Lib.hid hrg
      have Hrg3 := Lib.hid hrg3
      have Hb3 := Lib.hid hb3
      have Hcy := Lib.hid hcy
      have Hsub := Lib.hid hsub
      clear hrg3 hgr3 hcy hset hlab hb3 hrg hsub
      cases v0
      · have hln : (left.map (·.1)).Nodup := Hrg.out.nd.sublist (List.Sublist.map _ Hrg.out.sub)
        have hl := (left_perm hln Hcy.out).length_eq
        have hl2 : (left.filter fun q => decide (q.1 ≠ c)).length + 1 = left.length := by simpa using hl
        have Hmeas := Lib.hid (show (left.filter fun q => decide (q.1 ≠ c)).length < gk from by rw [hgeq]; omega)
        have hrel : ∃ left', (left.filter fun q => decide (q.1 ≠ c)).length = left'.length ∧ Ranging intV w3 B.bh w1.heap.size m left' ∧ (∀ s' y, (s', y) ∈ m → (s', y) ∈ left' ∨ (S.letGo s e).holds s' e = false) ∧ Below w1.heap.size w1 w3 := by
          refine ⟨_, rfl, by simpa using Hrg3.out, fun s' y' hy' => ?_, Hb3.out⟩
          by_cases e1 : s' = c
          · subst e1; exact .inr hv
          · rcases Hdone.out s' y' hy' with h1 | h1
            · exact .inl (List.mem_filter.2 ⟨h1, by simpa using e1⟩)
            · exact .inr (by simpa using h1)
        have Hrel := Lib.hid hrel
        clear hv hrel hl hl2 hln Hrg3 hgeq
        go_wp2_with fail
        go_roundg (left.filter fun q => decide (q.1 ≠ c)).length
        case measure => exact Hmeas.out
        case rel => exact Hrel.out
      · have hfin : S.drop s e = S.letGo s e := by unfold Mst.drop; rw [if_pos (Hai.out.2 ⟨c, by simpa using hv⟩)]
        have hM : IsModel w3 B (S.drop s e) := by
          have hi := Hinv.out
          rw [hfin] at hi ⊢
          exact (HP.out.below Hb3.out).model hi
        have H4 := Lib.hid (And.intro hM (HT.out.trans (Turn.of_below B Hb3.out)))
        clear hv hfin hM
        go_wp2_with fail
        try rw [Exit.noGoto_ret]
        exact bodyPost_ret (results_none rfl _ _ _) rfl ⟨rfl, H4.out.1, H4.out.2⟩
end Go.Proofs.Ytaicecnfodhlcaa
/- join, release. -/
set_option linter.unusedVariables false
set_option linter.unusedSimpArgs false
namespace Go.Proofs.Ytaicecnfodhlcaa
open Go.RowKit Go.Deep

theorem Mst.Inv.hold {S : Mst} (h : S.Inv) {s e : Int} (hs1 : 1 ≤ s) (hs2 : s ≤ 64) (he : (S.seals e).isSome = true) : (S.hold s e).Inv := by
  obtain ⟨s0, h0⟩ := (h.slk e).1 he
  have he2 := (h.old s0 e h0).2.2
  refine ⟨h.cfg, h.msl, h.mrow, h.tdl, h.rise, h.may, h.now, ?_, ?_, h.sok, h.cnt, h.tms, h.tok⟩
  · intro s' e' hh
    have hh' : (S.holds s' e' || (decide (s' = s) && decide (e' = e))) = true := hh
    rw [Bool.or_eq_true] at hh'
    rcases hh' with h3 | h3
    · exact h.old s' e' h3
    · simp at h3
      obtain ⟨rfl, rfl⟩ := h3
      exact ⟨hs1, hs2, he2⟩
  · intro e'
    show (S.seals e').isSome = true ↔ ∃ s', (S.holds s' e' || (decide (s' = s) && decide (e' = e))) = true
    rw [h.slk e']
    constructor
    · rintro ⟨s', h3⟩; exact ⟨s', by rw [h3]; rfl⟩
    · rintro ⟨s', h3⟩
      rw [Bool.or_eq_true] at h3
      rcases h3 with h3 | h3
      · exact ⟨s', h3⟩
      · simp at h3
        rw [h3.2]
        exact ⟨s0, h0⟩
abbrev Rsp.done : Rsp := ⟨3, 0, 0, 0, [], 0, 0, 0, 0, 0, 0⟩
def Mst.release (S : Mst) (s e : Int) : Mst × Int × Rsp := if S.holds s e = true then (S.drop s e, 0, Rsp.done) else (S, 33, Rsp.no)
def Mst.join (S : Mst) (s e : Int) : Mst × Int × Rsp :=
  if (S.seals e).isSome = true then (if S.holds s e = true then (S, 0, Rsp.done) else if S.cfg.pi ≤ S.heldN s then (S, 34, Rsp.no) else (S.hold s e, 0, Rsp.done)) else (S, 33, Rsp.no)
/-- A block of the caller's own, and a model behind it: the last step of an inner answer that tells no rows. -/
theorem Says.plain {w w2 w3 : World} {B B' : MB} {S S' : Mst} {k i re ep er : Int} {e : Ending} (h : IsModel w B S) (hM : IsModel w2 B' S') (hT : Turn (w.alloc respO) w2 B B') (hc : Chg [w.heap.size] w2 w3) (he : e = .returned (.tuple #[respE k i re ep, .int .i64 er])) :
    Says w B (S', er, ⟨k, i, re, ep, [], 0, 0, 0, 0, 0, 0⟩) e w3 :=
  Says.wrap (r := ⟨k, i, re, ep, [], 0, 0, 0, 0, 0, 0⟩) (v := .slice Option.none 0 0) h ((Below.refl _ _).alloc (Nat.le_refl _) _) (l := [w.heap.size]) (fun g hg => by rw [List.mem_singleton.1 hg]; simp) (Own.nil _ _ _ _ _) hM hT (fun g hg => by cases hg) hc he
theorem chg_drew2 {l : List Nat} {a b : World} (h : Chg l a b) : Chg l a.drew b.drew := ⟨h.os, h.tape, h.output, h.size, h.block⟩
theorem chg_realloc (w : World) (o o' : Obj) : Chg [w.heap.size] (w.alloc o) (w.alloc o') :=
  ⟨rfl, rfl, rfl, by simp, fun g hg hn => by
    have h1 : g < w.heap.size + 1 := by simpa using hg
    have h2 : g ≠ w.heap.size := by simpa using hn
    rw [blk_old (by omega), blk_old (by omega)]⟩
set_option maxRecDepth 100000 in
set_option maxHeartbeats 4000000 in
theorem release_any {w : World} {B : MB} {S : Mst} (h : IsModel w B S) (s e : Int) : Calls Try.prog 43 #[.pointer (some ⟨B.mp, 0, none⟩), .int .i64 s, .int .i64 e] w (Says w B (S.release s e)) := by
  have hb1 : Below w.heap.size w (w.alloc respO) := (Below.refl _ _).alloc (Nat.le_refl _) _
  have hf1 : (w.alloc respO).heap[w.heap.size]? = some respO := blk_at rfl
  have hz1 : (w.alloc respO).heap.size = w.heap.size + 1 := by simp
  have hM1 := h.below hb1
  have c17 := hM1.parts.cell17
  have hg := hM1.holds.get s
  have hh := hM1.holds.has s e
  obtain ⟨v0, hv⟩ : ∃ v0, S.holds s e = v0 := ⟨_, rfl⟩
  rw [hv] at hh
  have hrel : S.release s e = (if v0 = true then (S.drop s e, 0, Rsp.done) else (S, 33, Rsp.no)) := by unfold Mst.release; rw [hv]
  have hdrop := fun hse => drop_parts hM1 s e hse
  have Hh := Lib.hid h
  have HM1 := Lib.hid hM1
  have Hf1 := Lib.hid hf1
  have Hv := Lib.hid hv
  have Hdrop := Lib.hid hdrop
  have Hrel := Lib.hid hrel
  clear h hb1 hf1 hM1 hv hdrop hrel
  generalize B.hk s = hb at *
  cases v0
  · rw [if_neg (by simp)] at Hrel
    go_enter Try.func43, Try.ntmps43
    go_wp2_with fail
    refine bodyPost_resp (g := w.heap.size) (k := 0) (i := 0) (er := 0) (ep := 0) (rows := .slice none 0 0) (t := 0) (l := 0) (o := 0) (f := 0) (c := 0) (n := 0) rfl rfl ?_ rfl ?_
    · exact Hf1.out
    · rw [Hrel.out]
      exact Says.plain Hh.out HM1.out (Turn.of_below B (Below.refl _ _)) (Chg.refl _ _) rfl
  · rw [if_pos rfl] at Hrel
    go_enter Try.func43, Try.ntmps43
    go_wp2_with fail
    refine (Hdrop.out Hv.out).mono ?_
    rintro r w2 ⟨rfl, hM2, hT2⟩
    have hf2 := (Says.mine Hh.out hT2 (Nat.le_refl _) (by omega)).trans Hf1.out
    have rf := frozen_blk hf2
    have z0 := cell_blk hf2 0
    have z1 := cell_blk hf2 1
    have z2 := cell_blk hf2 2
    have z3 := cell_blk hf2 3
    have z4 := cell_blk hf2 4
    have z5 := cell_blk hf2 5
    have z6 := cell_blk hf2 6
    have z7 := cell_blk hf2 7
    have z8 := cell_blk hf2 8
    have z9 := cell_blk hf2 9
    have z10 := cell_blk hf2 10
    simp at z0 z1 z2 z3 z4 z5 z6 z7 z8 z9 z10
    have Hf2 := Lib.hid hf2
    have H := Lib.hid (And.intro hM2 hT2)
    clear hf2 hM2 hT2
    go_wp2_with fail
    refine bodyPost_resp (g := w.heap.size) (k := 3) (i := 0) (er := 0) (ep := 0) (rows := .slice none 0 0) (t := 0) (l := 0) (o := 0) (f := 0) (c := 0) (n := 0) rfl rfl ?_ rfl ?_
    · with_reducible exact set11 Hf2.out _ _ _ _ _ _ _ _ _ _ _
    · rw [Hrel.out]
      refine Says.plain Hh.out H.out.1 H.out.2 ?_ rfl
      with_reducible exact chg11 _ _ _ _ _ _ _ _ _ _ _
set_option maxRecDepth 100000 in
set_option maxHeartbeats 4000000 in
theorem join_any {w : World} {B : MB} {S : Mst} (h : IsModel w B S) (s e : Int) (hs1 : 1 ≤ s) (hs2 : s ≤ 64) : Calls Try.prog 41 #[.pointer (some ⟨B.mp, 0, none⟩), .int .i64 s, .int .i64 e] w (Says w B (S.join s e)) := by
  have hb1 : Below w.heap.size w (w.alloc respO) := (Below.refl _ _).alloc (Nat.le_refl _) _
  have hf1 : (w.alloc respO).heap[w.heap.size]? = some respO := blk_at rfl
  have hz1 : (w.alloc respO).heap.size = w.heap.size + 1 := by simp
  have hM1 := h.below hb1
  have c17 := hM1.parts.cell17
  have c16 := hM1.parts.cell16
  have hg := hM1.holds.get s
  have hh := hM1.holds.has s e
  have hl := hM1.seals.get e true
  simp only [if_true] at hl
  have hk := h.pinB s (W0 := w.alloc respO) hb1 _ (Below.refl _ _).drew
  obtain ⟨v0, hv⟩ : ∃ v0, S.holds s e = v0 := ⟨_, rfl⟩
  obtain ⟨b0, hb0⟩ : ∃ b0, (S.seals e).isSome = b0 := ⟨_, rfl⟩
  rw [hv] at hh
  rw [hb0] at hl
  have hj : S.join s e = (if b0 = true then (if v0 = true then (S, 0, Rsp.done) else if S.cfg.pi ≤ S.heldN s then (S, 34, Rsp.no) else (S.hold s e, 0, Rsp.done)) else (S, 33, Rsp.no)) := by unfold Mst.join; rw [hv, hb0]
  have hho := hold_parts (hM1.parts.below (Below.refl _ _).drew) s e
  have hinv : b0 = true → Hid (S.hold s e).Inv := fun hb => Lib.hid (h.inv.hold hs1 hs2 (by rw [hb0, hb]))
  have hrf := frozen_blk hf1
  have Hh := Lib.hid h
  have HM1 := Lib.hid hM1
  have Hf1 := Lib.hid hf1
  have Hho := Lib.hid hho
  have Hj := Lib.hid hj
  have Hk := Lib.hid hk
  clear h hb1 hf1 hM1 hv hb0 hho hj hk
  generalize B.hk s = hb at *
  generalize sealV B S e = sv at *
  generalize S.heldN s = hn at *
  generalize S.cfg.pi = pi at *
  cases b0
  · rw [if_neg (by simp)] at Hj
    go_enter Try.func41, Try.ntmps41
    go_wp2_with fail
    refine bodyPost_resp (g := w.heap.size) (k := 0) (i := 0) (er := 0) (ep := 0) (rows := .slice none 0 0) (t := 0) (l := 0) (o := 0) (f := 0) (c := 0) (n := 0) rfl rfl ?_ rfl ?_
    · exact Hf1.out
    · rw [Hj.out]
      refine Says.plain Hh.out HM1.out (Turn.of_below B (Below.refl _ _)) ?_ rfl
      exact Chg.refl _ _
  · rw [if_pos rfl] at Hj
    have Hin := hinv rfl
    clear hinv
    cases v0
    · rw [if_neg (by simp)] at Hj
      have kD := Hk.out
      go_enter Try.func41, Try.ntmps41
      go_wp2_with fail
      generalize hW1 : World.alloc w _ = W1
      have e1 : w.alloc respO = W1 := hW1
      rw [e1] at Hf1 HM1 Hho kD hz1 hrf
      have hT1 : Turn (w.alloc respO) W1.drew B B := by rw [e1]; exact Turn.of_below B (Below.refl _ _).drew
      have hTd : ∀ w2 B', Turn W1.drew w2 B B' → Turn (w.alloc respO) w2 B B' := fun w2 B' h => hT1.trans h
      have HTd := Lib.hid hTd
      have HT1 := Lib.hid hT1
      clear c16 c17 hl hg hh hW1 e1 hT1 hTd
      have hkS : PinB B.mp B.bh s hb hn pi W1 W1.drew := kD
      go_region_held3 (fun W => PinB B.mp B.bh s hb hn pi W1 W) (first | exact hkS | assumption) (fail)
      by_cases hp : pi ≤ (hn : Int)
      · rw [if_pos hp] at Hj
        have z0 := cell_blk Hf1.out 0
        have z1 := cell_blk Hf1.out 1
        have z2 := cell_blk Hf1.out 2
        have z3 := cell_blk Hf1.out 3
        have z4 := cell_blk Hf1.out 4
        have z5 := cell_blk Hf1.out 5
        have z6 := cell_blk Hf1.out 6
        have z7 := cell_blk Hf1.out 7
        have z8 := cell_blk Hf1.out 8
        have z9 := cell_blk Hf1.out 9
        have z10 := cell_blk Hf1.out 10
        simp at z0 z1 z2 z3 z4 z5 z6 z7 z8 z9 z10
        go_wp2_with fail
        refine bodyPost_resp (g := w.heap.size) (k := 0) (i := 0) (er := 0) (ep := 0) (rows := .slice none 0 0) (t := 0) (l := 0) (o := 0) (f := 0) (c := 0) (n := 0) rfl rfl ?_ rfl ?_
        · with_reducible exact drew_blk (set11 Hf1.out _ _ _ _ _ _ _ _ _ _ _)
        · rw [Hj.out]
          refine Says.plain Hh.out (HM1.out.below (Below.refl _ _).drew) HT1.out ?_ rfl
          with_reducible exact chg_drew2 (chg11 _ _ _ _ _ _ _ _ _ _ _)
      · rw [if_neg hp] at Hj
        go_wp2_with fail
        refine Hho.out.mono ?_
        rintro r w2 ⟨rfl, B', hP2, hT2⟩
        have hT2' := HTd.out _ _ hT2
        have hf2 := (Says.mine Hh.out hT2' (Nat.le_refl _) (by simp)).trans (show (w.alloc respO).heap[w.heap.size]? = some respO from blk_at rfl)
        have rf := frozen_blk hf2
        have z0 := cell_blk hf2 0
        have z1 := cell_blk hf2 1
        have z2 := cell_blk hf2 2
        have z3 := cell_blk hf2 3
        have z4 := cell_blk hf2 4
        have z5 := cell_blk hf2 5
        have z6 := cell_blk hf2 6
        have z7 := cell_blk hf2 7
        have z8 := cell_blk hf2 8
        have z9 := cell_blk hf2 9
        have z10 := cell_blk hf2 10
        simp at z0 z1 z2 z3 z4 z5 z6 z7 z8 z9 z10
        have Hf2 := Lib.hid hf2
        have H := Lib.hid (And.intro (hP2.model Hin.out) hT2')
        clear hf2 hP2 hT2 hT2'
        go_wp2_with fail
        refine bodyPost_resp (g := w.heap.size) (k := 3) (i := 0) (er := 0) (ep := 0) (rows := .slice none 0 0) (t := 0) (l := 0) (o := 0) (f := 0) (c := 0) (n := 0) rfl rfl ?_ rfl ?_
        · with_reducible exact set11 Hf2.out _ _ _ _ _ _ _ _ _ _ _
        · rw [Hj.out]
          refine Says.plain Hh.out H.out.1 H.out.2 ?_ rfl
          with_reducible exact chg11 _ _ _ _ _ _ _ _ _ _ _
    · rw [if_pos rfl] at Hj
      go_enter Try.func41, Try.ntmps41
      go_wp2_with fail
      refine bodyPost_resp (g := w.heap.size) (k := 3) (i := 0) (er := 0) (ep := 0) (rows := .slice none 0 0) (t := 0) (l := 0) (o := 0) (f := 0) (c := 0) (n := 0) rfl rfl ?_ rfl ?_
      · exact blk_at rfl
      · rw [Hj.out]
        refine Says.plain Hh.out HM1.out (Turn.of_below B (Below.refl _ _)) ?_ rfl
        exact chg_realloc _ _ _
end Go.Proofs.Ytaicecnfodhlcaa
