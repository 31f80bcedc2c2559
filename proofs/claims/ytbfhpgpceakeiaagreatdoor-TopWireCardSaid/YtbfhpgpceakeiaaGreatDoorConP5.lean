/- Contracts of the closed run (printed by wip/gen_con.py). -/
import Derived.Test.YtbfhpgpceakeiaaGreatDoorConB
import Derived.Test.YtbfhpgpceakeiaaGreatDoorConP1
namespace Go.Proofs.YtbfhpgpceakeiaaGreatDoor.Tw
open Kex Kex.Sh Go Go.Proofs
theorem g436 : Good c436 := gcon (ga g435 gn) (by decide +kernel)
theorem g438 : Good c438 := gcon (ga g437 gn) (by decide +kernel)
theorem g520 : Good c520 := gcon (ga g351 (ga g353 (ga g354 (ga g357 (ga g360 (ga g362 (ga g364 (ga g367 (ga g369 (ga g371 gn)))))))))) (by decide +kernel)
theorem g836 : Good c836 := gcon (ga g344 (ga g832 gn)) (by decide +kernel)
theorem g996 : Good c996 := gcon (ga g0 (ga g56 gn)) (by decide +kernel)
theorem g1126 : Good c1126 := gcon (ga g0 (ga g56 (ga g532 gn))) (by decide +kernel)
theorem g1456 : Good c1456 := gcon (ga g56 (ga g1453 gn)) (by decide +kernel)
theorem g2611 : Good c2611 := gcon (ga g2355 (ga g2356 (ga g2357 (ga g2358 (ga g2359 (ga g2360 (ga g2361 (ga g2362 (ga g2363 (ga g2364 (ga g2365 (ga g2366 (ga g2367 (ga g2368 (ga g2369 (ga g2370 (ga g2371 (ga g2372 (ga g2373 (ga g2374 (ga g2375 (ga g2376 (ga g2377 (ga g2378 (ga g2379 (ga g2380 (ga g2381 (ga g2382 (ga g2383 (ga g2384 (ga g2385 (ga g2386 (ga g2387 (ga g2388 (ga g2389 (ga g2390 (ga g2391 (ga g2392 (ga g2393 (ga g2394 (ga g2395 (ga g2396 (ga g2397 (ga g2398 (ga g2399 (ga g2400 (ga g2401 (ga g2402 (ga g2403 (ga g2404 (ga g2405 (ga g2406 (ga g2407 (ga g2408 (ga g2409 (ga g2410 (ga g2411 (ga g2412 (ga g2413 (ga g2414 (ga g2415 (ga g2416 (ga g2417 (ga g2418 (ga g2419 (ga g2420 (ga g2421 (ga g2422 (ga g2423 (ga g2424 (ga g2425 (ga g2426 (ga g2427 (ga g2428 (ga g2429 (ga g2430 (ga g2431 (ga g2432 (ga g2433 (ga g2434 (ga g2435 (ga g2436 (ga g2437 (ga g2438 (ga g2439 (ga g2440 (ga g2441 (ga g2442 (ga g2443 (ga g2444 (ga g2445 (ga g2446 (ga g2447 (ga g2448 (ga g2449 (ga g2450 (ga g2451 (ga g2452 (ga g2560 (ga g2561 (ga g2562 (ga g2563 (ga g2564 (ga g2565 (ga g2566 (ga g2567 (ga g2568 (ga g2569 (ga g2570 (ga g2571 (ga g2572 (ga g2573 (ga g2574 (ga g2575 (ga g2576 (ga g2577 (ga g2578 (ga g2579 (ga g2580 (ga g2581 (ga g2582 (ga g2583 (ga g2584 (ga g2585 (ga g2586 (ga g2587 (ga g2588 (ga g2589 (ga g2590 (ga g2591 (ga g2592 (ga g2593 (ga g2594 (ga g2595 (ga g2596 (ga g2597 (ga g2598 (ga g2599 (ga g2600 (ga g2601 (ga g2602 (ga g2603 (ga g2604 (ga g2605 (ga g2606 (ga g2607 (ga g2608 (ga g2609 (ga g2610 gn))))))))))))))))))))))))))))))))))))))))))))))))))))))))))))))))))))))))))))))))))))))))))))))))))))))))))))))))))))))))))))))))))))))))))))))))))))) (by decide +kernel)
theorem g3106 : Good c3106 := gcon (ga g2769 gn) (by decide +kernel)
end Go.Proofs.YtbfhpgpceakeiaaGreatDoor.Tw
