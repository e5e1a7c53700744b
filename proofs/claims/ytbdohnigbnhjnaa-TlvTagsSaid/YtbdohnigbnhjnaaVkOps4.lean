/- Each instruction's ideal outcome is what the machine does: bytes of a string, make. -/
import Derived.Test.YtbdohnigbnhjnaaVkEq
import Derived.Laws.IdiomStrings
set_option linter.unusedSimpArgs false
set_option linter.unusedVariables false
set_option linter.unusedSectionVars false
namespace Go.Vk
section
variable {P : Program} {g : G} {w : World} {ob : Gt} {U : Nat → Prop} {id : Nat}

/-- A new block that is settled at once. -/
theorem step_settled {w1 : World} (o : Obj) (n : Nat) (hI : Inv g w ob U) (hw : w1 = w ∨ w1 = w.drew) :
    Step g w ob U { g with fr := fun b => if b = w.heap.size then n else g.fr b } (w1.alloc o) ob (fresh8 U id) := by
  have hh : w1.heap = w.heap := by rcases hw with rfl | rfl <;> rfl
  have hc : ∀ b o' u, w.cell? ⟨b, o', none⟩ = some u → (w1.alloc o).cell? ⟨b, o', none⟩ = some u := fun b o' u h => cell_alloc _ (by rcases hw with rfl | rfl <;> exact h)
  have hfr : ∀ b, b < w.heap.size → (if b = w.heap.size then n else g.fr b) = g.fr b := fun b hb => if_neg (by omega)
  have hle : Le g w U { g with fr := fun b => if b = w.heap.size then n else g.fr b } (w1.alloc o) (fresh8 U id) :=
    ⟨fun b o' u h1 h2 => ⟨by have := World.block_lt_of_cell? w ⟨b, o', none⟩ h2; show o' < if b = w.heap.size then n else g.fr b; rw [hfr b this]; exact h1, hc b o' u h2⟩, fun _ _ => rfl, fun _ _ => rfl, fresh8_mono⟩
  have hold : ∀ b, b < w.heap.size → (w1.alloc o).heap[b]? = w.heap[b]? := fun b hb => (heap_alloc_old w1 _ b (by rw [hh]; exact hb)).trans (by rw [hh])
  exact {
    le := hle
    inv := ⟨fun t o' ht => ⟨hle.used t (hI.rep t o' ht).1, ObRep.kept hle (hI.rep t o' ht).1 (fun hs => ⟨hold _ ((hI.rep t o' ht).2.lt hs), hfr _ ((hI.rep t o' ht).2.lt hs)⟩) (hI.rep t o' ht).2⟩,
      fun t o1 t' o2 ht ht' hne hs hs' => hI.apart t o1 t' o2 ht ht' hne ((Solid.kept hle (hI.rep t o1 ht).1).1 hs) ((Solid.kept hle (hI.rep t' o2 ht').1).1 hs')⟩
    size := by simp [hh]
    os := by rcases hw with rfl | rfl <;> rfl
    tape := by rcases hw with rfl | rfl <;> rfl
    output := by rcases hw with rfl | rfl <;> rfl
    keep := fun b hb _ => ⟨hold b hb, hfr b hb⟩
    new := fun t o' ht hs => .inr ⟨t, o', ht, (Solid.kept hle (hI.rep t o' ht).1).1 hs, rfl⟩ }

theorem byteD_rep {fr : Nat → Nat} {w : World} : ∀ (s : List UInt8), RepL fr w (s.map byteD) (s.map fun b => .int .u8 (b.toNat : Int))
  | [] => rfl
  | b :: r => ⟨_, _, rfl, rfl, byteD_rep r⟩
theorem sound_s2b {src dst e : TypeId} {s : List UInt8} {v : Value} (hI : Inv g w ob U) (hs : P.underlying src = some .string) (hd : P.underlying dst = some (.slice e)) (he : P.underlying e = some (.int .u8)) (hv : v = .string ⟨s.toArray⟩) :
    Good (((do pure (.value (← convert src dst v))) : Sem Next).run P w) (.d (.slice s.length (s.map byteD))) g w ob U ob (fresh8 U id) := by
  subst hv
  have hr := run_bytes_of_string (P := P) w src dst e ⟨s.toArray⟩ hs hd he
  obtain ⟨C, hC⟩ : ∃ C, C = bytesRow ⟨s.toArray⟩ (grownCap w (⟨s.toArray⟩ : ByteArray).size 0 e) := ⟨_, rfl⟩
  rw [← hC] at hr
  have hsz : (⟨s.toArray⟩ : ByteArray).size = s.length := by simp [ByteArray.size]
  rw [hsz] at hr hC
  have hcap : s.length ≤ grownCap w s.length 0 e := grownCap_ge w _ _ _
  have hcells : ∀ i u, (s.map fun b => Value.int .u8 (b.toNat : Int))[i]? = some u → (w.drew.alloc (.cells C e (C.size, C.size + 1))).cell? ⟨w.heap.size, 0 + i, none⟩ = some u := by
    intro i u hu
    rw [Nat.zero_add, cell_of_row _ w.heap.size i C e (C.size, C.size + 1) (heap_alloc_new w.drew _)]
    rw [hC]
    have hi : i < s.length := by
      have := (List.getElem?_eq_some_iff.1 hu).1
      simpa using this
    simp [bytesRow, hi] at hu ⊢
    simp [Array.getElem?_append, hi]
    exact hu
  have hst := step_settled (w := w) (w1 := w.drew) (id := id) (.cells C e (C.size, C.size + 1)) s.length hI (.inr rfl)
  refine ⟨_, _, _, .inl (run_v hr), ⟨some ⟨w.heap.size, 0, none⟩, _, rfl, ⟨hcap, ?_⟩, .inr ⟨w.heap.size, 0, rfl, repAt_of_vals (byteD_rep s) hcells ?_⟩⟩, hst⟩
  · intro x hx
    obtain ⟨b, _, rfl⟩ := List.mem_map.1 hx
    rfl
  · show 0 + (s.map byteD).length ≤ if w.heap.size = w.heap.size then s.length else g.fr w.heap.size
    simp
theorem sound_mks {t e : TypeId} {i : TypeInfo} {z : Value} {ds : List D} {n : Nat} {kl kc : IntKind} {l c : Value} (hI : Inv g w ob U) (hid : ¬ U id) (he : elemInfo P t = some (e, i, z, ds)) (hl : l = .int kl n) (hc : c = .int kc n) (hb : n * i.bytes ≤ 140737488355328) (hb0 : 0 < i.bytes) :
    Good (((do pure (.value (← Instr.makeSlice t l c))) : Sem Next).run P w) (.own id n) g w ob U (updf [(id, some (.vec false e i.size n (zeroCs ds n)))] ob) (fresh8 U id) := by
  subst hl hc
  obtain ⟨h1, h2, h3, h4, h5, h6, h7⟩ := elemInfo_spec he
  obtain ⟨hz, hzok⟩ := zero_rep (g := g) (w := w) h4
  have hz2 := repL_zeros hz n
  have hn : n ≤ 140737488355328 := Nat.le_trans (Nat.le_mul_of_pos_right n hb0) hb
  have hbi : (i.bytes : Int) * (n : Int) ≤ 140737488355328 := by
    rw [← Int.natCast_mul, Nat.mul_comm]; omega
  have hrun := run_make (P := P) w t e i z h1 h2 h3 kl kc n n (by omega) (Int.le_refl _) (by omega) (by omega)
  simp only [Int.toNat_natCast] at hrun
  have hmade : madeCells z.cells (n * i.size) = (List.flatten (List.replicate n z.cells.toList)).toArray := by
    rw [← h7, ← madeCells_flat]; rfl
  have hlen : (zeroCs ds n).length = n * i.size := by
    unfold zeroCs
    simp [List.length_flatten, h5]
  obtain ⟨g2, hs2, hv2⟩ := step_row (sz := i.size) (cur := madeCells z.cells (n * i.size)) (len := n) (cap := n) (w1 := w) e hI hid (.inl rfl) hz2 ⟨hlen, fun x hx => by
      obtain ⟨l, hl1, hl2⟩ := List.mem_flatten.1 hx
      exact hzok x (by rw [(List.mem_replicate.1 hl1).2] at hl2; exact hl2)⟩ h6 (Nat.le_refl _) (by unfold maxLen; omega)
    (by simp [size_madeCells]) (by
      rw [hmade]
      simp only []
      rw [List.take_of_length_le]
      have := repL_length hz2
      omega)
  exact ⟨_, _, g2, .inl (run_v hrun), ⟨fresh8_id, hv2.symm, _, _, rfl⟩, hs2⟩
end
end Go.Vk
