/- The seat's configuration for the engine: how calls are done, by the functions' numbers; functions taken whole. -/
import Derived.Test.YtabhhckaclibaaaGreatEngO
import Derived.Test.YtabhhckaclibaaaGreatProg
import Derived.KernelRfl
set_option linter.all false
set_option maxRecDepth 100000
set_option maxHeartbeats 4000000
namespace Go.Proofs.YtabhhckaclibaaaGreat
open Go.Eng

def modeN (k : Nat) : CMode := (if k < 228 then (if k < 161 then (if k < 113 then (if k < 89 then (if k < 60 then (if k < 54 then (if k < 53 then (.iso []) else (.iso [0])) else (if k < 59 then (.iso []) else (.iso [0]))) else (if k < 75 then (if k < 71 then (.iso []) else (.sh true)) else (if k < 88 then (.iso []) else (.iso [0, 1])))) else (if k < 101 then (if k < 98 then (if k < 97 then (.iso []) else (.iso [0])) else (if k < 100 then (.iso []) else (.sh true))) else (if k < 103 then (if k < 102 then (.iso [0]) else (.iso [])) else (if k < 104 then (.sh true) else (.iso []))))) else (if k < 132 then (if k < 126 then (if k < 116 then (if k < 115 then (.sh true) else (.iso [])) else (if k < 117 then (.iso [0, 1]) else (.iso []))) else (if k < 130 then (if k < 128 then (.sh true) else (.iso [])) else (if k < 131 then (.sh true) else (.iso [])))) else (if k < 145 then (if k < 143 then (if k < 133 then (.sh true) else (.iso [])) else (if k < 144 then (.sh true) else (.iso []))) else (if k < 157 then (if k < 148 then (.sh true) else (.iso [])) else (if k < 158 then (.sh true) else (if k < 159 then (.iso []) else (.sh true))))))) else (if k < 205 then (if k < 184 then (if k < 177 then (if k < 169 then (if k < 168 then (.iso []) else (.sh true)) else (if k < 175 then (.iso []) else (.sh true))) else (if k < 180 then (if k < 178 then (.iso []) else (.sh true)) else (if k < 182 then (.iso []) else (.sh true)))) else (if k < 192 then (if k < 187 then (if k < 186 then (.iso []) else (.sh true)) else (if k < 191 then (.iso []) else (.sh true))) else (if k < 200 then (if k < 195 then (.iso []) else (.sh true)) else (if k < 201 then (.iso []) else (.sh true))))) else (if k < 218 then (if k < 212 then (if k < 210 then (if k < 209 then (.iso []) else (.sh true)) else (if k < 211 then (.iso []) else (.sh true))) else (if k < 215 then (if k < 213 then (.iso []) else (.sh true)) else (if k < 217 then (.iso []) else (.sh true)))) else (if k < 222 then (if k < 220 then (if k < 219 then (.iso []) else (.sh true)) else (if k < 221 then (.iso []) else (.sh true))) else (if k < 225 then (if k < 224 then (.iso []) else (.sh true)) else (if k < 226 then (.iso []) else (if k < 227 then (.sh true) else (.iso [])))))))) else (if k < 314 then (if k < 279 then (if k < 248 then (if k < 238 then (if k < 235 then (if k < 231 then (.sh true) else (.iso [])) else (if k < 237 then (.sh true) else (.iso []))) else (if k < 240 then (if k < 239 then (.sh true) else (.iso [])) else (if k < 241 then (.sh true) else (.iso [])))) else (if k < 271 then (if k < 254 then (if k < 251 then (.sh true) else (.iso [])) else (if k < 262 then (.sh true) else (.iso []))) else (if k < 273 then (if k < 272 then (.iso [0]) else (.sh true)) else (if k < 278 then (.iso []) else (.sh true))))) else (if k < 291 then (if k < 287 then (if k < 285 then (if k < 284 then (.iso []) else (.sh true)) else (if k < 286 then (.iso []) else (.sh true))) else (if k < 289 then (if k < 288 then (.iso []) else (.sh true)) else (if k < 290 then (.iso []) else (.sh true)))) else (if k < 299 then (if k < 295 then (if k < 293 then (.iso []) else (.sh true)) else (if k < 298 then (.iso []) else (.sh true))) else (if k < 305 then (if k < 303 then (.iso []) else (.sh true)) else (if k < 312 then (.iso []) else (if k < 313 then (.sh true) else (.iso []))))))) else (if k < 361 then (if k < 334 then (if k < 327 then (if k < 324 then (if k < 318 then (.sh true) else (.iso [])) else (if k < 325 then (.iso [70]) else (.iso []))) else (if k < 330 then (if k < 328 then (.sh true) else (.iso [])) else (if k < 331 then (.sh true) else (.iso [])))) else (if k < 353 then (if k < 336 then (if k < 335 then (.sh true) else (.iso [0])) else (if k < 340 then (.iso []) else (.sh true))) else (if k < 359 then (if k < 358 then (.iso []) else (.sh true)) else (if k < 360 then (.iso []) else (.sh true))))) else (if k < 413 then (if k < 389 then (if k < 386 then (if k < 379 then (.iso []) else (.sh true)) else (if k < 388 then (.iso []) else (.sh true))) else (if k < 391 then (if k < 390 then (.iso []) else (.sh true)) else (if k < 406 then (.iso []) else (.sh true)))) else (if k < 429 then (if k < 425 then (if k < 421 then (.iso []) else (.sh true)) else (if k < 426 then (.iso []) else (.sh true))) else (if k < 444 then (if k < 438 then (.iso []) else (.sh true)) else (if k < 449 then (.iso []) else (if k < 451 then (.sh true) else (.iso [])))))))))
def dynN (k : Nat) : CMode := (if k < 188 then (if k < 135 then (if k < 111 then (if k < 80 then (if k < 79 then (.sh true) else (.iso [])) else (if k < 92 then (.sh true) else (if k < 93 then (.iso []) else (.sh true)))) else (if k < 120 then (if k < 112 then (.iso []) else (if k < 119 then (.sh true) else (.iso []))) else (if k < 124 then (.sh true) else (if k < 125 then (.iso []) else (.sh true))))) else (if k < 176 then (if k < 155 then (if k < 136 then (.iso []) else (.sh true)) else (if k < 156 then (.iso []) else (if k < 175 then (.sh true) else (.iso [])))) else (if k < 184 then (if k < 180 then (.sh true) else (if k < 181 then (.iso []) else (.sh true))) else (if k < 185 then (.iso []) else (if k < 187 then (.sh true) else (.iso [])))))) else (if k < 302 then (if k < 234 then (if k < 195 then (if k < 194 then (.sh true) else (.iso [])) else (if k < 200 then (.sh true) else (if k < 201 then (.iso []) else (.sh true)))) else (if k < 296 then (if k < 235 then (.iso []) else (if k < 295 then (.sh true) else (.iso []))) else (if k < 300 then (.sh true) else (if k < 301 then (.iso []) else (.sh true))))) else (if k < 401 then (if k < 382 then (if k < 303 then (.iso []) else (if k < 381 then (.sh true) else (.iso []))) else (if k < 398 then (.sh true) else (if k < 399 then (.iso []) else (.sh true)))) else (if k < 417 then (if k < 402 then (.iso []) else (if k < 416 then (.sh true) else (.iso []))) else (if k < 418 then (.sh true) else (if k < 420 then (.iso []) else (.sh true)))))))
def cfg : Cfg := ⟨modeN, dynN⟩
def primN (k : Nat) : Option (List AV → AH → Option (AV × AH)) := (if k < 195 then (if k < 179 then (if k < 143 then (if k < 101 then (if k = 86 then some (primCompare) else none) else (if k = 101 then some (primClone 1 1) else none)) else (if k < 176 then (if k = 143 then some (primClone 3 40) else none) else (if k = 176 then some (primClone 4 64) else none))) else (if k < 183 then (if k < 182 then (if k = 179 then some (primDelete 4 64) else none) else (if k = 182 then some (primClone 4 64) else none)) else (if k < 191 then (if k = 183 then some (primClone 1 8) else none) else (if k = 191 then some (primClone 2 48) else none)))) else (if k < 272 then (if k < 198 then (if k < 197 then (if k = 195 then some (primDelete 2 48) else none) else (if k = 197 then some (primClone 1 24) else none)) else (if k < 199 then (if k = 198 then some (primClone 1 24) else none) else (if k = 199 then some (primClone 3 72) else none))) else (if k < 408 then (if k < 407 then (if k = 272 then some (primClone 7 104) else none) else (if k = 407 then some (primDelete 1 24) else none)) else (if k < 421 then (if k = 408 then some (primDelete 1 24) else none) else (if k = 421 then some (primDelete 3 72) else none)))))
def dprimN (k : Nat) : Option (List AV → AH → Option AH) := (if k = 269 then some dprimRecover else none)

theorem mixed : Tryz.prog.follows .mixedOrders = true := by kernel_rfl
theorem names : (Tryz.prog.funcs.all fun F => F.name != "runtime.NumGoroutine") = true := by kernel_rfl

theorem name_ok {k : Nat} {F : Func} (h : Tryz.prog.funcs[k]? = some F) : F.name ≠ "runtime.NumGoroutine" := by
  have := (Array.all_eq_true'.1 names) F (Array.mem_of_getElem? h)
  simpa using this

theorem zero101 : ∃ z, z.length = 1 ∧ cFn Tryz.prog cfg 101 Tryz.f101 = some (cloneA 1 1 z) := by
  refine ⟨_, ?_, (by kernel_rfl : cFn Tryz.prog cfg 101 Tryz.f101 = some (cloneA 1 1 [(.iv (.i .u8 0))]))⟩
  rfl
theorem zero143 : ∃ z, z.length = 3 ∧ cFn Tryz.prog cfg 143 Tryz.f143 = some (cloneA 3 40 z) := by
  refine ⟨_, ?_, (by kernel_rfl : cFn Tryz.prog cfg 143 Tryz.f143 = some (cloneA 3 40 [(.iv (.i .i64 0)), (.iv (.b false)), (.iv (.rsl .n []))]))⟩
  rfl
theorem zero176 : ∃ z, z.length = 4 ∧ cFn Tryz.prog cfg 176 Tryz.f176 = some (cloneA 4 64 z) := by
  refine ⟨_, ?_, (by kernel_rfl : cFn Tryz.prog cfg 176 Tryz.f176 = some (cloneA 4 64 [(.iv (.i .i64 0)), (.iv (.rsl .n [])), (.iv (.rsl .n [])), (.iv (.b false))]))⟩
  rfl
theorem zero179 : ∃ z, z.length = 4 ∧ cFn Tryz.prog cfg 179 Tryz.f179 = some (deleteA 4 64 z) := by
  refine ⟨_, ?_, (by kernel_rfl : cFn Tryz.prog cfg 179 Tryz.f179 = some (deleteA 4 64 [(.iv (.i .i64 0)), (.iv (.rsl .n [])), (.iv (.rsl .n [])), (.iv (.b false))]))⟩
  rfl
theorem zero182 : ∃ z, z.length = 4 ∧ cFn Tryz.prog cfg 182 Tryz.f182 = some (cloneA 4 64 z) := by
  refine ⟨_, ?_, (by kernel_rfl : cFn Tryz.prog cfg 182 Tryz.f182 = some (cloneA 4 64 [(.iv (.i .i64 0)), (.iv (.rsl .n [])), (.iv (.b false)), (.iv (.rsl .n []))]))⟩
  rfl
theorem zero183 : ∃ z, z.length = 1 ∧ cFn Tryz.prog cfg 183 Tryz.f183 = some (cloneA 1 8 z) := by
  refine ⟨_, ?_, (by kernel_rfl : cFn Tryz.prog cfg 183 Tryz.f183 = some (cloneA 1 8 [(.iv (.i .i64 0))]))⟩
  rfl
theorem zero191 : ∃ z, z.length = 2 ∧ cFn Tryz.prog cfg 191 Tryz.f191 = some (cloneA 2 48 z) := by
  refine ⟨_, ?_, (by kernel_rfl : cFn Tryz.prog cfg 191 Tryz.f191 = some (cloneA 2 48 [(.iv (.rsl .n [])), (.iv (.rsl .n []))]))⟩
  rfl
theorem zero195 : ∃ z, z.length = 2 ∧ cFn Tryz.prog cfg 195 Tryz.f195 = some (deleteA 2 48 z) := by
  refine ⟨_, ?_, (by kernel_rfl : cFn Tryz.prog cfg 195 Tryz.f195 = some (deleteA 2 48 [(.iv (.rsl .n [])), (.iv (.rsl .n []))]))⟩
  rfl
theorem zero197 : ∃ z, z.length = 1 ∧ cFn Tryz.prog cfg 197 Tryz.f197 = some (cloneA 1 24 z) := by
  refine ⟨_, ?_, (by kernel_rfl : cFn Tryz.prog cfg 197 Tryz.f197 = some (cloneA 1 24 [(.iv (.rsl .n []))]))⟩
  rfl
theorem zero198 : ∃ z, z.length = 1 ∧ cFn Tryz.prog cfg 198 Tryz.f198 = some (cloneA 1 24 z) := by
  refine ⟨_, ?_, (by kernel_rfl : cFn Tryz.prog cfg 198 Tryz.f198 = some (cloneA 1 24 [(.iv (.rsl .n []))]))⟩
  rfl
theorem zero199 : ∃ z, z.length = 3 ∧ cFn Tryz.prog cfg 199 Tryz.f199 = some (cloneA 3 72 z) := by
  refine ⟨_, ?_, (by kernel_rfl : cFn Tryz.prog cfg 199 Tryz.f199 = some (cloneA 3 72 [(.iv (.rsl .n [])), (.iv (.rsl .n [])), (.iv (.rsl .n []))]))⟩
  rfl
theorem zero272 : ∃ z, z.length = 7 ∧ cFn Tryz.prog cfg 272 Tryz.f272 = some (cloneA 7 104 z) := by
  refine ⟨_, ?_, (by kernel_rfl : cFn Tryz.prog cfg 272 Tryz.f272 = some (cloneA 7 104 [(.iv (.i .i64 0)), (.iv (.i .i64 0)), (.iv (.b false)), (.iv (.rsl .n [])), (.iv (.rsl .n [])), (.iv (.b false)), (.iv (.rsl .n []))]))⟩
  rfl
theorem zero407 : ∃ z, z.length = 1 ∧ cFn Tryz.prog cfg 407 Tryz.f407 = some (deleteA 1 24 z) := by
  refine ⟨_, ?_, (by kernel_rfl : cFn Tryz.prog cfg 407 Tryz.f407 = some (deleteA 1 24 [(.iv (.rsl .n []))]))⟩
  rfl
theorem zero408 : ∃ z, z.length = 1 ∧ cFn Tryz.prog cfg 408 Tryz.f408 = some (deleteA 1 24 z) := by
  refine ⟨_, ?_, (by kernel_rfl : cFn Tryz.prog cfg 408 Tryz.f408 = some (deleteA 1 24 [(.iv (.rsl .n []))]))⟩
  rfl
theorem zero421 : ∃ z, z.length = 3 ∧ cFn Tryz.prog cfg 421 Tryz.f421 = some (deleteA 3 72 z) := by
  refine ⟨_, ?_, (by kernel_rfl : cFn Tryz.prog cfg 421 Tryz.f421 = some (deleteA 3 72 [(.iv (.rsl .n [])), (.iv (.rsl .n [])), (.iv (.rsl .n []))]))⟩
  rfl

theorem tabPrim (fn : Nat → Option AFn) (hfn : ∀ f a, fn f = some a → ∃ F g, Tryz.prog.funcs[f]? = some F ∧ cFn Tryz.prog cfg g F = some a ∧ F.name ≠ "runtime.NumGoroutine") : TabOk Tryz.prog cfg ⟨fn, primN, dprimN⟩ where
  fn := hfn
  prim k p h := by
    simp only [primN] at h
    repeat' (split at h)
    all_goals (first | (cases h; done) | skip)
    all_goals (rename_i e; subst e; simp only [Option.some.injEq] at h; subst h)
    · exact prim_compare Tryz.func86 (name_ok Tryz.func86) rfl rfl rfl ⟨rfl, rfl, rfl⟩ ⟨rfl, rfl, rfl⟩ ⟨rfl, rfl, rfl⟩ ⟨rfl, rfl, rfl⟩ rfl rfl ⟨rfl, rfl, rfl⟩ Tryz.func148 (name_ok Tryz.func148) rfl (by kernel_rfl) (by kernel_rfl)
    · obtain ⟨z, hz, hc⟩ := zero101
      exact prim_clone mixed Tryz.func101 hc (name_ok Tryz.func101) hz (by decide)
    · obtain ⟨z, hz, hc⟩ := zero143
      exact prim_clone mixed Tryz.func143 hc (name_ok Tryz.func143) hz (by decide)
    · obtain ⟨z, hz, hc⟩ := zero176
      exact prim_clone mixed Tryz.func176 hc (name_ok Tryz.func176) hz (by decide)
    · obtain ⟨z, hz, hc⟩ := zero179
      exact prim_delete mixed Tryz.func179 hc (name_ok Tryz.func179) hz
    · obtain ⟨z, hz, hc⟩ := zero182
      exact prim_clone mixed Tryz.func182 hc (name_ok Tryz.func182) hz (by decide)
    · obtain ⟨z, hz, hc⟩ := zero183
      exact prim_clone mixed Tryz.func183 hc (name_ok Tryz.func183) hz (by decide)
    · obtain ⟨z, hz, hc⟩ := zero191
      exact prim_clone mixed Tryz.func191 hc (name_ok Tryz.func191) hz (by decide)
    · obtain ⟨z, hz, hc⟩ := zero195
      exact prim_delete mixed Tryz.func195 hc (name_ok Tryz.func195) hz
    · obtain ⟨z, hz, hc⟩ := zero197
      exact prim_clone mixed Tryz.func197 hc (name_ok Tryz.func197) hz (by decide)
    · obtain ⟨z, hz, hc⟩ := zero198
      exact prim_clone mixed Tryz.func198 hc (name_ok Tryz.func198) hz (by decide)
    · obtain ⟨z, hz, hc⟩ := zero199
      exact prim_clone mixed Tryz.func199 hc (name_ok Tryz.func199) hz (by decide)
    · obtain ⟨z, hz, hc⟩ := zero272
      exact prim_clone mixed Tryz.func272 hc (name_ok Tryz.func272) hz (by decide)
    · obtain ⟨z, hz, hc⟩ := zero407
      exact prim_delete mixed Tryz.func407 hc (name_ok Tryz.func407) hz
    · obtain ⟨z, hz, hc⟩ := zero408
      exact prim_delete mixed Tryz.func408 hc (name_ok Tryz.func408) hz
    · obtain ⟨z, hz, hc⟩ := zero421
      exact prim_delete mixed Tryz.func421 hc (name_ok Tryz.func421) hz
  dprim k p h := by
    simp only [dprimN] at h
    split at h
    · rename_i e
      subst e
      simp only [Option.some.injEq] at h
      subst h
      exact dprim_recover Tryz.func269 (name_ok Tryz.func269) rfl rfl rfl ⟨rfl, rfl, rfl⟩ rfl rfl ⟨rfl, rfl, rfl⟩ ⟨rfl, rfl, rfl⟩ ⟨_, rfl⟩ ⟨rfl, rfl⟩ Tryz.underlying20
    · cases h

end Go.Proofs.YtabhhckaclibaaaGreat
