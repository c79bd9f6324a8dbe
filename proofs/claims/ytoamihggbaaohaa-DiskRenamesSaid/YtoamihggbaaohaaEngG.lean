/- The quiet operations, more: cuts, structs and slices made, conversions, lengths. -/
import Derived.Test.YtoamihggbaaohaaEngF
import Derived.Laws.BytesArg
namespace BoEng
open Go Go.RowKit

theorem flat_take {sz : Nat} : ∀ (xs : List DV) (_ : ∀ x ∈ xs, (cells x).length = sz) (h : Nat), flat (xs.take h) = (flat xs).take (h * sz)
  | [], _, h => by simp [flat]
  | x :: xs, hz, 0 => by simp [flat]
  | x :: xs, hz, h + 1 => by
    have hx := hz x List.mem_cons_self
    rw [List.take_succ_cons, flat_cons, flat_cons, flat_take xs (fun y hy => hz y (List.mem_cons_of_mem _ hy)) h, Nat.succ_mul, List.take_append]
    rw [List.take_of_length_le (show (cells x).length ≤ h * sz + sz by omega), show h * sz + sz - (cells x).length = h * sz by omega]
theorem flat_drop {sz : Nat} : ∀ (xs : List DV) (_ : ∀ x ∈ xs, (cells x).length = sz) (l : Nat), flat (xs.drop l) = (flat xs).drop (l * sz)
  | [], _, h => by simp [flat]
  | x :: xs, hz, 0 => by simp
  | x :: xs, hz, l + 1 => by
    have hx := hz x List.mem_cons_self
    rw [List.drop_succ_cons, flat_cons, flat_drop xs (fun y hy => hz y (List.mem_cons_of_mem _ hy)) l, Nat.succ_mul, List.drop_append]
    rw [List.drop_eq_nil_of_le (show (cells x).length ≤ l * sz + sz by omega), show l * sz + sz - (cells x).length = l * sz by omega, List.nil_append]

theorem toBytes_spec : ∀ (xs : List DV) (s : List UInt8), toBytes xs = some s → ∃ ns : List Int, xs = ns.map (DV.int .u8) ∧ s = ns.map fun n => UInt8.ofNat n.toNat
  | [], s, h => by simp [toBytes] at h; exact ⟨[], rfl, by simp [h]⟩
  | .int .u8 n :: r, s, h => by
    simp only [toBytes, Option.map_eq_some_iff] at h
    obtain ⟨s', h', rfl⟩ := h
    obtain ⟨ns, rfl, rfl⟩ := toBytes_spec r s' h'
    exact ⟨n :: ns, rfl, rfl⟩
  | .int .i8 n :: r, s, h => by simp [toBytes] at h
  | .int .i16 n :: r, s, h => by simp [toBytes] at h
  | .int .i32 n :: r, s, h => by simp [toBytes] at h
  | .int .i64 n :: r, s, h => by simp [toBytes] at h
  | .int .u16 n :: r, s, h => by simp [toBytes] at h
  | .int .u32 n :: r, s, h => by simp [toBytes] at h
  | .int .u64 n :: r, s, h => by simp [toBytes] at h
  | .bool _ :: r, s, h => by simp [toBytes] at h
  | .str _ :: r, s, h => by simp [toBytes] at h
  | .slice _ :: r, s, h => by simp [toBytes] at h
  | .agg _ :: r, s, h => by simp [toBytes] at h
  | .opq _ :: r, s, h => by simp [toBytes] at h

section
variable {w : World} {fr : Nat → Option Nat}

/-- A cut of a slice. -/
theorem DRep.cut {A : Option Addr} {cap sz : Nat} {xs : List DV} (h : DRep w fr (.slice A xs.length cap) (.slice xs)) (hsz : ∀ x ∈ xs, (cells x).length = sz) {l hh m : Nat} (h1 : l ≤ hh) (h2 : hh ≤ xs.length) (h3 : hh ≤ m) (_h4 : m ≤ cap) :
    DRep w fr (sliced A l hh m sz) (.slice ((xs.take hh).drop l)) := by
  obtain ⟨A', cap', sz', us, e, hcap, hsz', ha, ho, hr⟩ := slice_inv h
  cases e
  have hl : ((xs.take hh).drop l).length = hh - l := by simp; omega
  rw [sliced, show (hh - l) = ((xs.take hh).drop l).length from hl.symm]
  refine .slice _ _ sz (fun k => us (l * sz + k)) _ (by rw [hl]; omega) (fun x hx => hsz x (List.mem_of_mem_take (List.mem_of_mem_drop hx))) (fun h0 => ?_) (fun k hk => ?_) (fun k p hp => ?_)
  all_goals rw [hl] at *
  · have hpos : 0 < xs.length := by omega
    obtain ⟨ad, rfl, hs, hf, hc⟩ := ha hpos
    obtain ⟨x, hx⟩ := List.exists_mem_of_length_pos hpos
    have es : sz' = sz := by rw [← hsz x hx, hsz' x hx]
    subst es
    have hle : l * sz' + (hh - l) * sz' ≤ xs.length * sz' := by
      rw [← Nat.add_mul]
      exact Nat.mul_le_mul_right _ (by omega)
    refine ⟨ad.add (l * sz'), by rw [if_neg (by omega)]; rfl, by rw [add_off hs], fun f hff k hk => ?_, fun k hk => ?_⟩
    · rw [add_off hs] at hff ⊢
      have := hf f hff (l * sz' + k) (by omega)
      simp only
      omega
    · rw [add_off hs]
      have := hc (l * sz' + k) (by omega)
      simp only
      rw [Nat.add_assoc]
      exact this
  · have hpos : 0 < xs.length := by
      rcases Nat.eq_zero_or_pos xs.length with h0 | h0
      · have : hh - l = 0 := by omega
        rw [this, Nat.zero_mul] at hk
        omega
      · exact h0
    obtain ⟨x, hx⟩ := List.exists_mem_of_length_pos hpos
    have es : sz' = sz := by rw [← hsz x hx, hsz' x hx]
    subst es
    have hle : l * sz' + (hh - l) * sz' ≤ xs.length * sz' := by
      rw [← Nat.add_mul]
      exact Nat.mul_le_mul_right _ (by omega)
    exact ho _ (by omega)
  · rw [flat_drop _ (fun x hx => hsz x (List.mem_of_mem_take hx)), flat_take _ hsz, List.getElem?_drop, List.getElem?_take] at hp
    split at hp
    · exact hr _ p hp
    · cases hp
end

section
variable {P : Program} {N : Nat} {tch : Env} {w0 : World} {fr0 : Nat → Option Nat} {S : PS} {a : Act} {w : World} {fr : Nat → Option Nat} {β : Nat → Blk}

theorem loB_sound (h : Sim N tch w0 fr0 S a w fr β) {top l : Nat} {x : Option Operand} (hb : loB S top x = some l) : l ≤ top ∧
    ((x = none ∧ l = 0) ∨ ∃ v, x = some v ∧ ∀ y code, l ≤ y → (Instr.sliceBound (a.eval v) y code).run P w = .ok l w) := by
  cases x with
  | none => simp [loB] at hb; subst hb; exact ⟨Nat.zero_le _, .inl ⟨rfl, rfl⟩⟩
  | some v =>
    obtain ⟨hle, _, _, _, _, _, hr⟩ := bnd_sound (P := P) h hb
    exact ⟨hle, .inr ⟨v, rfl, hr⟩⟩

theorem run_bounds2 (h : Sim N tch w0 fr0 S a w fr β) {isS : Bool} {top cap : Nat} (hc : top ≤ cap) {lo hi : Option Operand} {l hh : Nat}
    (hh' : hiB S top hi = some hh) (hl : loB S hh lo = some l) :
    (Instr.sliceBounds isS top cap (lo.map a.eval) (hi.map a.eval) none).run P w = .ok (l, hh, cap) w ∧ l ≤ hh ∧ hh ≤ top := by
  obtain ⟨hle, hr⟩ := loB_sound (P := P) h hl
  unfold Instr.sliceBounds
  cases hi with
  | none =>
    simp [hiB] at hh'
    subst hh'
    refine ⟨?_, hle, Nat.le_refl _⟩
    rcases hr with ⟨rfl, rfl⟩ | ⟨v, rfl, hr⟩
    · rfl
    · simp only [Option.map_none, Option.map_some, Sem.run_bind, Sem.run_pure, Result.andThen_ok, hr top _ hle]
  | some u =>
    obtain ⟨hle', _, _, _, _, _, hr'⟩ := bnd_sound (P := P) h hh'
    refine ⟨?_, hle, hle'⟩
    rcases hr with ⟨rfl, rfl⟩ | ⟨v, rfl, hr⟩
    · simp only [Option.map_none, Option.map_some, Sem.run_bind, Sem.run_pure, Result.andThen_ok, hr' cap _ (Nat.le_trans hle' hc)]
    · simp only [Option.map_some, Sem.run_bind, Sem.run_pure, Result.andThen_ok, hr' cap _ (Nat.le_trans hle' hc), hr hh _ hle]

theorem run_bounds3 (h : Sim N tch w0 fr0 S a w fr β) {isS : Bool} {top cap : Nat} (hc : top ≤ cap) {lo : Option Operand} {hi mx : Operand} {l hh m : Nat}
    (hm : bnd S top mx = some m) (hh' : bnd S m hi = some hh) (hl : loB S hh lo = some l) :
    (Instr.sliceBounds isS top cap (lo.map a.eval) (some (a.eval hi)) (some (a.eval mx))).run P w = .ok (l, hh, m) w ∧ l ≤ hh ∧ hh ≤ m ∧ m ≤ top := by
  obtain ⟨hle, hr⟩ := loB_sound (P := P) h hl
  obtain ⟨hle', _, _, _, _, _, hr'⟩ := bnd_sound (P := P) h hh'
  obtain ⟨hle0, _, _, _, _, _, hr0⟩ := bnd_sound (P := P) h hm
  unfold Instr.sliceBounds
  refine ⟨?_, hle, hle', hle0⟩
  rcases hr with ⟨rfl, rfl⟩ | ⟨v, rfl, hr⟩
  · simp only [Option.map_none, Sem.run_bind, Sem.run_pure, Result.andThen_ok, hr0 cap _ (Nat.le_trans hle0 hc), hr' m _ hle']
  · simp only [Option.map_some, Sem.run_bind, Sem.run_pure, Result.andThen_ok, hr0 cap _ (Nat.le_trans hle0 hc), hr' m _ hle', hr hh _ hle]

theorem val_slice (h : Sim N tch w0 fr0 S a w fr β) {o : Oper} {t : Nat} {x : Operand} {lo hi mx : Option Operand} {r : PV} {b : Bool} (ho : o.op = .slice t x lo hi mx) (he : effV P S o = some (r, b)) : Val P S o a w fr β r b := by
  simp only [effV, ho, sliceD] at he
  have hx := h.ev x
  split at he
  · rename_i xs hp
    rw [hp] at hx
    split at he
    · cases he
    · rename_i e ht
      split at he
      · rename_i hall
        have hsz : ∀ x ∈ xs, (cells x).length = szT P e := by simpa [szOk] using hall.1
        obtain ⟨A, cap, sz, us, ev, hcap, hsz', ha, h1, hh⟩ := slice_inv (inv_d hx)
        have hrep : DRep w fr (.slice A xs.length cap) (.slice xs) := by rw [← ev]; exact inv_d hx
        have hu := under_of_el ht
        have key : ∀ l h' m, (Instr.sliceBounds true xs.length cap (lo.map a.eval) (hi.map a.eval) (mx.map a.eval)).run P w = .ok (l, h', m) w → l ≤ h' → h' ≤ xs.length → h' ≤ m → m ≤ cap →
            (r = .d (.slice ((xs.take h').drop l))) → (b = true → m = h') → Val P S o a w fr β r b := by
          intro l h' m hb e1 e2 e3 e4 hr hbm
          subst hr
          refine ⟨sliced A l h' m (szT P e), w, fr, ?_, h.freshRefl, .d _ _ (hrep.cut hsz e1 e2 e3 e4), fun hbt => ?_⟩
          · have : (Instr.sliceAt t (a.eval x) (lo.map a.eval) (hi.map a.eval) (mx.map a.eval)).run P w = .ok (sliced A l h' m (szT P e)) w := by
              rw [ev]
              simp [Instr.sliceAt, underlying, hu, Instr.slice, hb, run_size hall.2, sliced]
            simp [execOp, ho, this]
          · exact ⟨_, h' - l, _, by rw [sliced, hbm hbt], rfl⟩
        split at he
        · simp only [Option.bind_eq_some_iff] at he
          obtain ⟨h', hh', l, hl, he⟩ := he
          simp only [Option.some.injEq, Prod.mk.injEq] at he
          obtain ⟨rfl, rfl⟩ := he
          obtain ⟨hr, e1, e2⟩ := run_bounds2 (P := P) h (isS := true) hcap hh' hl
          exact key l h' cap hr e1 e2 (Nat.le_trans e2 hcap) (Nat.le_refl _) rfl (by simp)
        · split at he
          · cases he
          · rename_i hv
            simp only [Option.bind_eq_some_iff] at he
            obtain ⟨m, hm, h', hh', l, hl, he⟩ := he
            simp only [Option.some.injEq, Prod.mk.injEq] at he
            obtain ⟨rfl, rfl⟩ := he
            obtain ⟨hr, e1, e2, e3⟩ := run_bounds3 (P := P) h (isS := true) hcap hm hh' hl
            exact key l h' m hr e1 (Nat.le_trans e2 e3) e2 (Nat.le_trans e3 hcap) rfl (by simp)
      · cases he
  · rename_i s hp
    rw [hp] at hx
    split at he
    · rename_i hu
      simp only [Option.bind_eq_some_iff] at he
      obtain ⟨h', hh', l, hl, he⟩ := he
      simp only [Option.some.injEq, Prod.mk.injEq] at he
      obtain ⟨rfl, rfl⟩ := he
      obtain ⟨hr, e1, e2⟩ := run_bounds2 (P := P) h (isS := false) (Nat.le_refl s.length) hh' hl
      have hev := inv_str hx
      have hext : (ByteArray.mk s.toArray).extract l h' = ByteArray.mk ((s.take h').drop l).toArray := by
        apply ByteArray.ext
        simp [List.extract_eq_take_drop, List.drop_take]
      refine Val.of h (s := Instr.sliceAt t (a.eval x) (lo.map a.eval) (hi.map a.eval) none) (by simp [execOp, ho]) (v := .string ⟨((s.take h').drop l).toArray⟩) ?_ (.d _ _ (.str _))
      rw [hev]
      simp [Instr.sliceAt, underlying, hu, Instr.slice, str_size, hr, hext]
    · cases he
  · cases he
end

end BoEng
